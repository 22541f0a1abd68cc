import Derived.Test.YtloknibdaldffaaGreatDoorNplL
namespace Go.SL
open Go
def cf11_0 : List AOper := [
 Kx 1 0,Jc 2 (.bool false)]
def cf11_1 : List AOper := [
 Jc 3 (.int .i64 0)]
def cf11_2 : List AOper := [
 Jm 4 3,Jf 5 1 1,Jl 6 5,Je 7 6,Kc 8 .lss 4 7,Jm 9 8,Ju 10 3 9,Jt 11 (.bin .leq (.t 10) (.c (.int .i64 100))) 9,Ja 12 9 11]
def cf11_4 : List AOper := [
 Jf 15 1 1,Jl 16 15,Jm 17 3,Ji 18 5 16 17,Jf 19 0 18,Jf 20 3 19,Jl 21 20,Je 22 21,Kb 23 .gtr 22 20,Jm 24 23,Kg 25 1 1 24,Km 26 25 24,Jv 27 3 24,Jn 28 (.idx 5 (.t 26) (.t 27)) 24,Kg 29 4 28 24,Km 30 29 24,Jn 31 (.len false (.t 30)) 24,Jn 32 (.bin .gtr (.t 31) (.c (.int .i64 20))) 24,Jr 33 24 32]
def cf11_5 : List AOper := [
 Jc 2 (.bool false)]
def cf11_3 : List AOper := [
 Jm 13 3,Kb 14 .add 13 1,Jm 3 14]
def cf11_6 : List AOper := [
 Jf 34 1 1,Jl 35 34,Je 36 35,Kb 37 .leq 36 100,Jm 2 37]
def cf11 : AFunc := ⟨38, [.slot 2],
  (Jz cf11_0 [1] (.seq (Jz cf11_1 [1,3] (.block 0 (.loop [1,3] (.seq (Jz cf11_2 [1,3,12] (.cond (.t 12) .skip (.exit 0))) (.seq (.block 1 (Jz cf11_4 [1,3,33] (.cond (.t 33) (Jz cf11_5 [2] .ret) .skip))) (.reg cf11_3 [1,3])))))) (Jz cf11_6 [2] .ret)))⟩
def cf14_0 : List AOper := [
 Kx 1 0,Jc 2 (.bool false)]
def cf14_1 : List AOper := [
 Jf 3 0 1,Jl 4 3,Jp 5 40 [.t 4],Jm 6 5,Jt 7 (.ld (some 7) (.t 1)) 6,
 ⟨some 8,.callp 41 [.t 7],(some (6,true))⟩,Ja 9 6 8,Jm 10 9,Kf 11 2 1 10,Jt 12 (.ld (some 4) (.t 11)) 10,Kf 13 6 1 10,Kl 14 13 10,
 ⟨some 15,.callp 42 [.t 12,.t 14],(some (10,true))⟩,Ja 16 10 15,Jm 2 16]
def cf14 : AFunc := ⟨17, [.slot 2],
  (Jz cf14_0 [1] (Jz cf14_1 [2] .ret))⟩
def cf15_0 : List AOper := [
 Kx 2 0,Jc 4 (.bool false)]
def cf15_1 : List AOper := [
 Jf 9 0 2,Jl 10 9,Je 11 10,Kb 12 .gtr 11 500]
def cf15_2 : List AOper := [
 Jc 4 (.bool false)]
def cf15_3 : List AOper := [
 ⟨some 13,.mkmap none,none⟩,Jm 5 13]
def cf15_4 : List AOper := [
 Jf 14 0 2,Jl 15 14,Je 16 15,Jc 17 (.int .i64 0)]
def cf15_5 : List AOper := [
 Kc 18 .lss 17 16]
def cf15_6 : List AOper := [
 Ji 19 3 15 17,Jk 20 3 19,Js 7 (.new [.int .i64 0,.string ⟨#[]⟩,.slice none 0 0]),Jw 3 7 20]
def cf15_7 : List AOper := [
 Jf 21 0 7,Jl 22 21,Jf 23 1 7,Jf 24 0 23,Jl 25 24,Js 26 (.bld [.int .i64 0,.string ⟨#[]⟩] [(0,1,.t 22),(1,1,.t 25)]),Js 8 (.new [.int .i64 0,.string ⟨#[]⟩]),Jw 2 8 26]
def cf15_8 : List AOper := [
 Jf 27 0 7,Jl 28 27,Kb 29 .lss 28 0,Jm 30 29,Kg 31 0 7 30,Km 32 31 30,Jv 33 1 30,Jn 34 (.bin .geq (.t 32) (.t 33)) 30,Jr 35 30 34,Jm 36 35,Jv 37 5 36,Jn 38 (.ld (some 2) (.t 8)) 36,
 ⟨some 39,.look true [.i,.s] (.bool false) false (.t 37) (.t 38),(some (36,false))⟩,Jr 40 36 39,Jm 41 40,Kg 42 1 7 41,Jn 43 (.ld (some 2) (.t 42)) 41,
 ⟨some 44,.callp 17 [.t 43],(some (41,false))⟩,Jn 45 (.not (.t 44)) 41,Jv 46 45 41,Kf 47 1 7 46,Jt 48 (.ld (some 2) (.t 47)) 46,
 ⟨some 49,.callp 43 [.t 48],(some (46,true))⟩,Jt 50 (.not (.t 49)) 46,Jn 51 (.pick (.t 46) (.t 50) (.c (.bool false))) 41,Jr 52 41 51]
def cf15_9 : List AOper := [
 Jc 4 (.bool false)]
def cf15_10 : List AOper := [
 Jm 53 5,Jk 54 2 8,
 ⟨none,.upd true [.i,.s] (.t 53) (.t 54) (.c (.bool true)),none⟩]
def cf15_11 : List AOper := [
 Kb 55 .add 17 1,Jm 17 55]
def cf15_12 : List AOper := [
 Jc 4 (.bool true)]
def cf15 : AFunc := ⟨56, [.slot 4],
  (Jz cf15_0 [1,2] (.seq (Jz cf15_1 [1,2,12] (.cond (.t 12) (Jz cf15_2 [4] .ret) .skip)) (Jz cf15_3 [1,2,5] (.seq (Jz cf15_4 [1,5,15,16,17] (.block 0 (.loop [1,5,15,16,17] (Jz cf15_5 [1,5,15,16,17,18] (.seq (.cond (.t 18) .skip (.exit 0)) (.seq (.block 1 (Jz cf15_6 [1,5,7,15,16,17] (Jz cf15_7 [1,5,7,8,15,16,17] (.seq (Jz cf15_8 [1,5,8,15,16,17,52] (.cond (.t 52) (Jz cf15_9 [4] .ret) .skip)) (.reg cf15_10 [1,5,15,16,17]))))) (.reg cf15_11 [1,5,15,16,17]))))))) (Jz cf15_12 [4] .ret)))))⟩
def cf17_0 : List AOper := [
 Kx 1 0,Jc 2 (.bool false)]
def cf17_1 : List AOper := [
 Jf 4 0 1,Jl 5 4,Js 6 (.bin .eql (.t 5) (.c (.string ⟨#[42]⟩))),Jm 7 6,Kg 8 0 1 7,Km 9 8 7,
 ⟨some 10,.callp 44 [.t 9,.c (.string ⟨#[42,46]⟩)],(some (7,false))⟩,Jr 11 7 10,Jm 3 11]
def cf17_2 : List AOper := [
 Jf 12 1 1,Jl 13 12,Je 14 13,Kb 15 .eql 14 0,Jm 16 15,Ju 17 3 16,Jt 18 (.not (.t 17)) 16,Ja 19 16 18,Jm 20 19,Kf 21 0 1 20,Kl 22 21 20,
 ⟨some 23,.callp 45 [.t 22],(some (20,true))⟩,Ja 24 20 23,Jm 2 24]
def cf17 : AFunc := ⟨25, [.slot 2],
  (Jz cf17_0 [1] (Jz cf17_1 [1,3] (Jz cf17_2 [2] .ret)))⟩
def cf22_0 : List AOper := [
 Jc 2 (.slice none 0 0)]
def cf22_1 : List AOper := [
 Jm 3 0,Js 4 (.eqn false (.t 3) (.c (.slice none 0 0)))]
def cf22_2 : List AOper := [
 Jc 2 (.slice none 0 0)]
def cf22_3 : List AOper := [
 ⟨some 5,.mksl 3 0 [] [],none⟩,Jm 6 0,
 ⟨some 7,.app 3 32 [.string ⟨#[]⟩,.int .i64 0,.int .i64 0] (.t 5) (.t 6),none⟩,Jm 2 7]
def cf22 : AFunc := ⟨8, [.slot 2],
  (Jz cf22_0 [0] (.seq (Jz cf22_1 [0,4] (.cond (.t 4) (Jz cf22_2 [2] .ret) .skip)) (Jz cf22_3 [2] .ret)))⟩
def cf28_0 : List AOper := [
 Kx 2 0,Jc 4 (.bool false)]
def cf28_1 : List AOper := [
 Jk 5 9 2,Jp 6 48 [.t 5],Jm 7 6,Jt 8 (.ld (some 9) (.t 2)) 7,Ju 9 1 7,
 ⟨some 10,.callp 49 [.t 8,.t 9],(some (7,true))⟩,Ja 11 7 10,Jm 4 11]
def cf28 : AFunc := ⟨12, [.slot 4],
  (Jz cf28_0 [1,2] (Jz cf28_1 [4] .ret))⟩
def cf45_0 : List AOper := [
 Jc 2 (.bool false)]
def cf45_1 : List AOper := [
 Jm 3 0,Jp 4 50 [.t 3],Jm 2 4]
def cf45 : AFunc := ⟨5, [.slot 2],
  (Jz cf45_0 [0] (Jz cf45_1 [2] .ret))⟩
def cf39_0 : List AOper := [
 Jc 2 (.slice none 0 0)]
def cf39_1 : List AOper := [
 Jm 3 0,Js 4 (.eqn false (.t 3) (.c (.slice none 0 0)))]
def cf39_2 : List AOper := [
 Jc 2 (.slice none 0 0)]
def cf39_3 : List AOper := [
 ⟨some 5,.mksl 6 0 [] [],none⟩,Jm 6 0,
 ⟨some 7,.app 6 56 [.string ⟨#[]⟩,.int .i64 0,.int .i64 0,.int .i64 0,.int .i64 0,.int .u64 0] (.t 5) (.t 6),none⟩,Jm 2 7]
def cf39 : AFunc := ⟨8, [.slot 2],
  (Jz cf39_0 [0] (.seq (Jz cf39_1 [0,4] (.cond (.t 4) (Jz cf39_2 [2] .ret) .skip)) (Jz cf39_3 [2] .ret)))⟩
def cf40_0 : List AOper := [
 Jc 2 (.bool false)]
def cf40_1 : List AOper := [
 Jm 6 0,Je 7 6,Kb 8 .gtr 7 64]
def cf40_2 : List AOper := [
 Jc 2 (.bool false)]
def cf40_3 : List AOper := [
 ⟨some 9,.mkmap none,none⟩,Jm 3 9]
def cf40_4 : List AOper := [
 Jm 10 0,Je 11 10,Jc 12 (.int .i64 0)]
def cf40_5 : List AOper := [
 Kc 13 .lss 12 11]
def cf40_6 : List AOper := [
 Ji 14 3 10 12,Jk 15 3 14,Js 5 (.new [.string ⟨#[]⟩,.int .i64 0,.int .i64 0]),Jw 3 5 15]
def cf40_7 : List AOper := [
 Jf 16 0 5,Jl 17 16,Jp 18 45 [.t 17],Kn 19 18,Jm 20 19,Kg 21 0 5 20,Km 22 21 20,
 ⟨some 23,.callp 52 [.t 22],(some (20,false))⟩,Jr 24 20 23,Jm 25 24,Kg 26 2 5 25,Km 27 26 25,Jn 28 (.bin .lss (.t 27) (.c (.int .i64 0))) 25,Jr 29 25 28,Jm 30 29,Kg 31 2 5 30,Km 32 31 30,Jn 33 (.bin .geq (.t 32) (.c (.int .i64 32))) 30,Jr 34 30 33]
def cf40_8 : List AOper := [
 Jc 2 (.bool false)]
def cf40_9 : List AOper := [
 Jf 35 1 5,Jl 36 35,Jp 37 53 [.t 36],Kn 38 37,Jm 39 38,Jv 40 3 39,Kg 41 1 5 39,Km 42 41 39,
 ⟨some 43,.look false [.i] (.bool false) false (.t 40) (.t 42),(some (39,false))⟩,Jr 44 39 43]
def cf40_10 : List AOper := [
 Jc 2 (.bool false)]
def cf40_11 : List AOper := [
 Jm 45 3,Jf 46 1 5,Jl 47 46,
 ⟨none,.upd false [.i] (.t 45) (.t 47) (.c (.bool true)),none⟩]
def cf40_12 : List AOper := [
 Kb 48 .add 12 1,Jm 12 48]
def cf40_13 : List AOper := [
 Jc 2 (.bool true)]
def cf40 : AFunc := ⟨49, [.slot 2],
  (Jz cf40_0 [0] (.seq (Jz cf40_1 [0,8] (.cond (.t 8) (Jz cf40_2 [2] .ret) .skip)) (Jz cf40_3 [0,3] (.seq (Jz cf40_4 [3,10,11,12] (.block 0 (.loop [3,10,11,12] (Jz cf40_5 [3,10,11,12,13] (.seq (.cond (.t 13) .skip (.exit 0)) (.seq (.block 1 (Jz cf40_6 [3,5,10,11,12] (.seq (Jz cf40_7 [3,5,10,11,12,34] (.cond (.t 34) (Jz cf40_8 [2] .ret) .skip)) (.seq (Jz cf40_9 [3,5,10,11,12,44] (.cond (.t 44) (Jz cf40_10 [2] .ret) .skip)) (.reg cf40_11 [3,10,11,12]))))) (.reg cf40_12 [3,10,11,12]))))))) (Jz cf40_13 [2] .ret)))))⟩
def cf41_0 : List AOper := [
 Kx 1 0,Jc 2 (.bool false)]
def cf41_1 : List AOper := [
 Jf 8 1 1,Jl 9 8,Je 10 9,Kb 11 .gtr 10 4000]
def cf41_2 : List AOper := [
 Jc 2 (.bool false)]
def cf41_3 : List AOper := [
 ⟨some 12,.mkmap none,none⟩,Jm 3 12]
def cf41_4 : List AOper := [
 ⟨some 13,.mkmap none,none⟩,Jm 4 13]
def cf41_5 : List AOper := [
 Jf 14 1 1,Jl 15 14,Je 16 15,Jc 17 (.int .i64 0)]
def cf41_6 : List AOper := [
 Kc 18 .lss 17 16]
def cf41_7 : List AOper := [
 Ji 19 3 15 17,Jk 20 3 19,Js 6 (.new [.int .i64 0,.string ⟨#[]⟩,.slice none 0 0]),Jw 3 6 20]
def cf41_8 : List AOper := [
 Jf 21 0 6,Jl 22 21,Jf 23 1 6,Jf 24 0 23,Jl 25 24,Js 26 (.bld [.int .i64 0,.string ⟨#[]⟩] [(0,1,.t 22),(1,1,.t 25)]),Js 7 (.new [.int .i64 0,.string ⟨#[]⟩]),Jw 2 7 26]
def cf41_9 : List AOper := [
 Jf 27 0 6,Jl 28 27,Kb 29 .lss 28 0,Jm 30 29,Kg 31 0 6 30,Km 32 31 30,Kg 33 0 1 30,Km 34 33 30,Jn 35 (.len false (.t 34)) 30,Jn 36 (.bin .geq (.t 32) (.t 35)) 30,Jr 37 30 36,Jm 38 37,Jv 39 3 38,Jn 40 (.ld (some 2) (.t 7)) 38,
 ⟨some 41,.look true [.i,.s] (.bool false) false (.t 39) (.t 40),(some (38,false))⟩,Jr 42 38 41,Jm 43 42,Kg 44 1 6 43,Jn 45 (.ld (some 2) (.t 44)) 43,
 ⟨some 46,.callp 43 [.t 45],(some (43,false))⟩,Jn 47 (.not (.t 46)) 43,Jr 48 43 47]
def cf41_10 : List AOper := [
 Jc 2 (.bool false)]
def cf41_11 : List AOper := [
 Jm 49 3,Jk 50 2 7,
 ⟨none,.upd true [.i,.s] (.t 49) (.t 50) (.c (.bool true)),none⟩]
def cf41_12 : List AOper := [
 Jm 51 4,Jf 52 1 6,Jf 53 0 52,Jl 54 53,
 ⟨none,.upd false [.s] (.t 51) (.t 54) (.c (.bool true)),none⟩]
def cf41_13 : List AOper := [
 Kb 55 .add 17 1,Jm 17 55]
def cf41_14 : List AOper := [
 Jm 56 4,
 ⟨some 57,.mlen (.t 56),none⟩,Kb 58 .leq 57 500,Jm 2 58]
def cf41 : AFunc := ⟨59, [.slot 2],
  (Jz cf41_0 [1] (.seq (Jz cf41_1 [1,11] (.cond (.t 11) (Jz cf41_2 [2] .ret) .skip)) (Jz cf41_3 [1,3] (Jz cf41_4 [1,3,4] (.seq (Jz cf41_5 [1,3,4,15,16,17] (.block 0 (.loop [1,3,4,15,16,17] (Jz cf41_6 [1,3,4,15,16,17,18] (.seq (.cond (.t 18) .skip (.exit 0)) (.seq (.block 1 (Jz cf41_7 [1,3,4,6,15,16,17] (Jz cf41_8 [1,3,4,6,7,15,16,17] (.seq (Jz cf41_9 [1,3,4,6,7,15,16,17,48] (.cond (.t 48) (Jz cf41_10 [2] .ret) .skip)) (Jz cf41_11 [1,3,4,6,15,16,17] (.reg cf41_12 [1,3,4,15,16,17])))))) (.reg cf41_13 [1,3,4,15,16,17]))))))) (Jz cf41_14 [2] .ret))))))⟩
def cf42_0 : List AOper := [
 Kx 2 0,Jc 4 (.bool false)]
def cf42_1 : List AOper := [
 Jk 5 4 2,Jp 6 54 [.t 5],Kn 7 6,Jm 8 7,Kg 9 1 2 8,Km 10 9 8,Jn 11 (.bin .neq (.t 10) (.c (.int .i64 6))) 8,Jr 12 8 11,Jm 13 12,Kg 14 0 2 13,Km 15 14 13,Jn 16 (.bin .neq (.t 15) (.c (.string ⟨#[46]⟩))) 13,Jr 17 13 16]
def cf42_2 : List AOper := [
 Jc 4 (.bool false)]
def cf42_3 : List AOper := [
 Jm 18 1,Je 19 18,Kb 20 .lss 19 1,Jm 21 20,Jv 22 1 21,Jn 23 (.len false (.t 22)) 21,Jn 24 (.bin .gtr (.t 23) (.c (.int .i64 8))) 21,Jr 25 21 24]
def cf42_4 : List AOper := [
 Jc 4 (.bool false)]
def cf42_5 : List AOper := [
 Jm 26 1,Jp 27 56 [.t 26,.f 55],Kn 28 27,Jm 4 28]
def cf42 : AFunc := ⟨29, [.slot 4],
  (Jz cf42_0 [1,2] (.seq (Jz cf42_1 [1,17] (.cond (.t 17) (Jz cf42_2 [4] .ret) .skip)) (.seq (Jz cf42_3 [1,25] (.cond (.t 25) (Jz cf42_4 [4] .ret) .skip)) (Jz cf42_5 [4] .ret))))⟩
def cf43_0 : List AOper := [
 Kx 1 0,Jc 2 (.bool false)]
def cf43_1 : List AOper := [
 Jk 5 2 1,Js 6 (.bld [.string ⟨#[]⟩,.slice none 0 0] [(0,2,.t 5)]),Js 3 (.new [.string ⟨#[]⟩,.slice none 0 0]),Jw 2 3 6]
def cf43_2 : List AOper := [
 Jk 7 2 3,Jp 8 57 [.t 7],Kn 9 8,Jm 10 9,Jn 11 (.ld (some 2) (.t 3)) 10,
 ⟨some 12,.callp 58 [.t 11],(some (10,false))⟩,Jn 13 (.not (.t 12)) 10,Jr 14 10 13]
def cf43_3 : List AOper := [
 Jc 2 (.bool false)]
def cf43_4 : List AOper := [
 Jk 15 2 3,Jx 16 59 [.t 15],Js 4 (.new [.string ⟨#[]⟩,.slice none 0 0,.slice none 0 0]),Jw 3 4 16]
def cf43_5 : List AOper := [
 Jk 17 3 4,Jp 18 60 [.t 17],Jm 19 18,Jt 20 (.ld (some 3) (.t 4)) 19,
 ⟨some 21,.callp 61 [.t 20],(some (19,true))⟩,Ja 22 19 21,Jm 23 22,Jt 24 (.ld (some 3) (.t 4)) 23,
 ⟨some 25,.callp 62 [.t 24],(some (23,true))⟩,Ja 26 23 25,Jm 27 26,Jt 28 (.ld (some 3) (.t 4)) 27,
 ⟨some 29,.callp 63 [.t 28],(some (27,true))⟩,Ja 30 27 29,Jm 2 30]
def cf43 : AFunc := ⟨31, [.slot 2],
  (Jz cf43_0 [1] (Jz cf43_1 [3] (.seq (Jz cf43_2 [3,14] (.cond (.t 14) (Jz cf43_3 [2] .ret) .skip)) (Jz cf43_4 [4] (Jz cf43_5 [2] .ret)))))⟩
def cf44_0 : List AOper := [
 Jc 4 (.bool false)]
def cf44_1 : List AOper := [
 Jm 5 0,Jm 6 1,Jp 7 64 [.t 5,.t 6],Jm 4 7]
def cf44 : AFunc := ⟨8, [.slot 4],
  (Jz cf44_0 [0,1] (Jz cf44_1 [4] .ret))⟩
def cf49_0 : List AOper := [
 Kx 2 0,Jc 4 (.bool false)]
def cf49_1 : List AOper := [
 Jm 8 1,Je 9 8,Kb 10 .gtr 9 400]
def cf49_2 : List AOper := [
 Jc 4 (.bool false)]
def cf49_3 : List AOper := [
 Jc 5 (.int .i64 (-1))]
def cf49_4 : List AOper := [
 Jm 11 1,Je 12 11,Jc 13 (.int .i64 0)]
def cf49_5 : List AOper := [
 Kc 14 .lss 13 12]
def cf49_6 : List AOper := [
 Ji 15 2 11 13,Jk 16 2 15,Js 7 (.new [.int .i64 0,.slice none 0 0]),Jw 2 7 16]
def cf49_7 : List AOper := [
 Jf 17 0 7,Jl 18 17,Jm 19 5,Kc 20 .leq 18 19,Jm 21 20,Kg 22 0 7 21,Km 23 22 21,Kg 24 8 2 21,Km 25 24 21,Jn 26 (.bin .geq (.t 23) (.t 25)) 21,Jr 27 21 26,Jm 28 27,Kg 29 1 7 28,Jn 30 (.ld (some 1) (.t 29)) 28,Kg 31 0 2 28,Km 32 31 28,Jn 33 (.len false (.t 32)) 28,
 ⟨some 34,.callp 15 [.t 30,.t 33],(some (28,false))⟩,Jn 35 (.not (.t 34)) 28,Jr 36 28 35]
def cf49_8 : List AOper := [
 Jc 4 (.bool false)]
def cf49_9 : List AOper := [
 Jf 37 0 7,Jl 38 37,Jm 5 38]
def cf49_10 : List AOper := [
 Kb 39 .add 13 1,Jm 13 39]
def cf49_11 : List AOper := [
 Jc 4 (.bool true)]
def cf49 : AFunc := ⟨40, [.slot 4],
  (Jz cf49_0 [1,2] (.seq (Jz cf49_1 [1,2,10] (.cond (.t 10) (Jz cf49_2 [4] .ret) .skip)) (Jz cf49_3 [1,2,5] (.seq (Jz cf49_4 [2,5,11,12,13] (.block 0 (.loop [2,5,11,12,13] (Jz cf49_5 [2,5,11,12,13,14] (.seq (.cond (.t 14) .skip (.exit 0)) (.seq (.block 1 (Jz cf49_6 [2,5,7,11,12,13] (.seq (Jz cf49_7 [2,7,11,12,13,36] (.cond (.t 36) (Jz cf49_8 [4] .ret) .skip)) (.reg cf49_9 [2,5,11,12,13])))) (.reg cf49_10 [2,5,11,12,13]))))))) (Jz cf49_11 [4] .ret)))))⟩
def cf50_0 : List AOper := [
 ⟨some 2,.newH [.bool false],none⟩]
def cf50_1 : List AOper := [
 Jm 6 0,Js 7 (.bin .eql (.t 6) (.c (.string ⟨#[46]⟩)))]
def cf50_2 : List AOper := [
 ⟨none,.st 1 (.t 2) (.c (.bool true)),none⟩]
def cf50_3 : List AOper := [
 Jm 8 0,Js 9 (.len true (.t 8)),Kb 10 .gtr 9 60]
def cf50_4 : List AOper := [
 ⟨none,.st 1 (.t 2) (.c (.bool false)),none⟩]
def cf50_5 : List AOper := [
 ⟨some 3,.newH [.int .i64 0],none⟩,
 ⟨some 4,.newH [.bool false],none⟩,
 ⟨none,.st 1 (.t 3) (.c (.int .i64 0)),none⟩,
 ⟨none,.st 1 (.t 4) (.c (.bool false)),none⟩]
def cf50_6 : List AOper := [
 Jm 11 0,Js 12 (.mkf 65 [.t 11] [])]
def cf50_7 : List AOper := [
 Jm 5 13]
def cf50_8 : List AOper := [
 Jl 14 3,Kb 15 .add 14 1,Jw 1 3 15]
def cf50_9 : List AOper := [
 Jl 16 4,Jm 17 16,Km 18 3 17,Jn 19 (.bin .gtr (.t 18) (.c (.int .i64 8))) 17,Jr 20 17 19]
def cf50_10 : List AOper := [
 ⟨none,.st 1 (.t 2) (.c (.bool false)),none⟩]
def cf50_11 : List AOper := [
 Jm 21 5,Js 22 (.bin .eql (.t 21) (.c (.string ⟨#[42]⟩))),Jw 1 4 22]
def cf50_12 : List AOper := [
 Jl 23 4,Kn 24 23,Jm 25 24,Ju 26 5 25,
 ⟨some 27,.callp 66 [.t 26],(some (25,true))⟩,Jt 28 (.not (.t 27)) 25,Ja 29 25 28]
def cf50_13 : List AOper := [
 ⟨none,.st 1 (.t 2) (.c (.bool false)),none⟩]
def cf50_14 : List AOper := [
 ⟨none,.st 1 (.t 2) (.c (.bool true)),none⟩]
def cf50 : AFunc := ⟨30, [.cell 2 none],
  (Jz cf50_0 [0,2] (.seq (Jz cf50_1 [0,2,7] (.cond (.t 7) (Jz cf50_2 [2] .ret) .skip)) (.seq (Jz cf50_3 [0,2,10] (.cond (.t 10) (Jz cf50_4 [2] .ret) .skip)) (Jz cf50_5 [0,2,3,4] (.seq (Jz cf50_6 [2,3,4,12] (.block 0 (.rangeF (.t 12) [13] (.reg cf50_7 [2,3,4,5]) (.block 1 (Jz cf50_8 [2,3,4,5] (.seq (Jz cf50_9 [2,4,5,20] (.cond (.t 20) (Jz cf50_10 [] .ret) .skip)) (Jz cf50_11 [2,4,5] (Jz cf50_12 [2,29] (.cond (.t 29) (Jz cf50_13 [] .ret) .skip))))))))) (Jz cf50_14 [2] .ret))))))⟩
def cf52_0 : List AOper := [
 Jc 2 (.bool false)]
def cf52_1 : List AOper := [
 Jm 6 0,Jx 7 73 [.t 6],Jm 5 7,Ke 8 0 5,Ke 9 1 5,Jm 3 8,Jm 4 9]
def cf52_2 : List AOper := [
 Jm 10 3,Je 11 10,Kb 12 .gtr 11 0,Jm 13 12,Ju 14 3 13,Jt 15 (.idx 1 (.t 14) (.c (.int .i64 0))) 13,Kl 16 15 13,Jt 17 (.bin .eql (.t 16) (.c (.string ⟨#[42]⟩))) 13,Ja 18 13 17,Jm 2 18]
def cf52 : AFunc := ⟨19, [.slot 2],
  (Jz cf52_0 [0] (Jz cf52_1 [3] (Jz cf52_2 [2] .ret)))⟩
def cf53_0 : List AOper := [
 Jc 2 (.bool false)]
def cf53_1 : List AOper := [
 Jm 3 0,Kb 4 .geq 3 1,Jm 5 4,Ju 6 0 5,Jt 7 (.bin .leq (.t 6) (.c (.int .i64 1000000))) 5,Ja 8 5 7,Jm 2 8]
def cf53 : AFunc := ⟨9, [.slot 2],
  (Jz cf53_0 [0] (Jz cf53_1 [2] .ret))⟩
def cf54_0 : List AOper := [
 Kx 1 0,Jc 2 (.bool false)]
def cf54_1 : List AOper := [
 Jf 6 0 1,Jl 7 6,Jp 8 45 [.t 7],Kn 9 8,Jm 10 9,Kg 11 1 1 10,Km 12 11 10,
 ⟨some 13,.callp 74 [.t 12,.c (.int .i64 1),.c (.int .i64 8)],(some (10,false))⟩,Jn 14 (.not (.t 13)) 10,Jr 15 10 14,Jm 16 15,Kg 17 2 1 16,Km 18 17 16,
 ⟨some 19,.callp 74 [.t 18,.c (.int .i64 0),.c (.int .i64 100000)],(some (16,false))⟩,Jn 20 (.not (.t 19)) 16,Jr 21 16 20]
def cf54_2 : List AOper := [
 Jc 2 (.bool false)]
def cf54_3 : List AOper := [
 Jf 22 3 1,Jl 23 22,Je 24 23,Jp 25 74 [.t 24,.c (.int .i64 1),.c (.int .i64 8)],Kn 26 25]
def cf54_4 : List AOper := [
 Jc 2 (.bool false)]
def cf54_5 : List AOper := [
 Jf 27 1 1,Jl 28 27,Js 29 (.idxa 8 9 (.g 75) (.t 28)),Jk 30 8 29,Js 3 (.new [.int .i64 0,.int .i64 0,.int .i64 0,.int .i64 0,.int .i64 0,.bool false,.bool false,.bool false]),Jw 8 3 30]
def cf54_6 : List AOper := [
 Jf 31 6 3,Jl 32 31,Jm 33 32,Kf 34 3 1 33,Kl 35 34 33,Jt 36 (.len false (.t 35)) 33,Jt 37 (.bin .neq (.t 36) (.c (.int .i64 1))) 33,Ja 38 33 37,Jm 39 38,Kg 40 0 1 39,Km 41 40 39,
 ⟨some 42,.callp 76 [.t 41],(some (39,false))⟩,Jv 43 42 39,Kf 44 7 3 43,Kl 45 44 43,Jt 46 (.not (.t 45)) 43,Jn 47 (.pick (.t 43) (.t 46) (.c (.bool false))) 39,Jr 48 39 47]
def cf54_7 : List AOper := [
 Jc 2 (.bool false)]
def cf54_8 : List AOper := [
 Jf 49 3 1,Jl 50 49,Je 51 50,Jc 52 (.int .i64 0)]
def cf54_9 : List AOper := [
 Kc 53 .lss 52 51]
def cf54_10 : List AOper := [
 Jm 54 52,Ji 55 3 50 52,Jk 56 3 55,Js 5 (.new [.string ⟨#[]⟩,.int .i64 0,.int .i64 0]),Jm 4 54,Jw 3 5 56]
def cf54_11 : List DOp := [
 ⟨0,Jk 57 8 3,[]⟩,
 ⟨1,Jk 58 3 5,[]⟩,
 ⟨2,Jp 59 77 [.t 57,.t 58],[]⟩,
 ⟨3,Kn 60 59,[]⟩,
 ⟨4,Jm 61 60,[]⟩,
 ⟨5,Jv 62 4 61,[]⟩,
 ⟨6,Jn 63 (.bin .gtr (.t 62) (.c (.int .i64 0))) 61,[]⟩,
 ⟨7,Jv 64 63 61,[]⟩,
 ⟨8,Kf 65 3 1 64,[]⟩,
 ⟨9,Kl 66 65 64,[]⟩,
 ⟨10,Ju 67 4 64,[]⟩,
 ⟨11,Jt 68 (.bin .sub (.t 67) (.c (.int .i64 1))) 64,[]⟩,
 ⟨12,Jt 69 (.idx 3 (.t 66) (.t 68)) 64,[]⟩,
 ⟨13,Jt 70 (.ld (some 3) (.t 69)) 64,[]⟩,
 ⟨14,Jt 71 (.ld (some 3) (.t 5)) 64,[]⟩,
 ⟨15,⟨some 72,.callp 78 [.t 70,.t 71],(some (64,true))⟩,[]⟩,
 ⟨16,Jt 73 (.bin .geq (.t 72) (.c (.int .i64 0))) 64,[]⟩,
 ⟨17,Jn 74 (.pick (.t 64) (.t 73) (.c (.bool false))) 61,[]⟩,
 ⟨18,Jr 75 61 74,[]⟩]
def cf54_12 : List AOper := [
 Jc 2 (.bool false)]
def cf54_13 : List AOper := [
 Kb 76 .add 52 1,Jm 52 76]
def cf54_14 : List AOper := [
 Jc 2 (.bool true)]
def cf54 : AFunc := ⟨77, [.slot 2],
  (Jz cf54_0 [1] (.seq (Jz cf54_1 [1,21] (.cond (.t 21) (Jz cf54_2 [2] .ret) .skip)) (.seq (Jz cf54_3 [1,26] (.cond (.t 26) (Jz cf54_4 [2] .ret) .skip)) (Jz cf54_5 [1,3] (.seq (Jz cf54_6 [1,3,48] (.cond (.t 48) (Jz cf54_7 [2] .ret) .skip)) (.seq (Jz cf54_8 [1,3,50,51,52] (.block 0 (.loop [1,3,50,51,52] (Jz cf54_9 [1,3,50,51,52,53] (.seq (.cond (.t 53) .skip (.exit 0)) (.seq (.block 1 (Jz cf54_10 [1,3,4,5,50,51,52] (.seq (.regd cf54_11 [1,3,50,51,52,75]) (.cond (.t 75) (Jz cf54_12 [2] .ret) .skip)))) (.reg cf54_13 [1,3,50,51,52]))))))) (Jz cf54_14 [2] .ret)))))))⟩
def cf56_0 : List AOper := [
 Jc 4 (.bool false)]
def cf56_1 : List AOper := [
 Jm 5 0,Jm 6 1,Jp 7 79 [.t 5,.t 6],Kb 8 .geq 7 0,Jm 4 8]
def cf56 : AFunc := ⟨9, [.slot 4],
  (Jz cf56_0 [0,1] (Jz cf56_1 [4] .ret))⟩
def cf55_0 : List AOper := [
 Jc 2 (.bool false)]
def cf55_1 : List AOper := [
 Jm 3 0,Jp 4 53 [.t 3],Kn 5 4,Jm 2 5]
def cf55 : AFunc := ⟨6, [.slot 2],
  (Jz cf55_0 [0] (Jz cf55_1 [2] .ret))⟩
def cf57_0 : List AOper := [
 Kx 1 0,Jc 2 (.bool false)]
def cf57_1 : List AOper := [
 Jf 8 0 1,Jf 9 0 8,Jl 10 9,Jp 11 45 [.t 10],Kn 12 11,Jm 13 12,Kg 14 0 1 13,Kg 15 0 14 13,Km 16 15 13,
 ⟨some 17,.callp 44 [.t 16,.c (.string ⟨#[42]⟩)],(some (13,false))⟩,Jr 18 13 17,Jm 19 18,Kg 20 0 1 19,Kg 21 1 20 19,Km 22 21 19,Jn 23 (.len false (.t 22)) 19,Jn 24 (.bin .gtr (.t 23) (.c (.int .i64 20000))) 19,Jr 25 19 24]
def cf57_2 : List AOper := [
 Jc 2 (.bool false)]
def cf57_3 : List AOper := [
 Jf 26 0 1,Jf 27 1 26,Jl 28 27,Je 29 28,Jc 30 (.int .i64 0)]
def cf57_4 : List AOper := [
 Kc 31 .lss 30 29]
def cf57_5 : List AOper := [
 Jm 32 30,Ji 33 5 28 30,Jk 34 5 33,Js 4 (.new [.string ⟨#[]⟩,.int .i64 0,.int .i64 0,.slice none 0 0,.slice none 0 0]),Jm 3 32,Jw 5 4 34]
def cf57_6 : List AOper := [
 Jf 35 0 4,Jk 36 4 35,Jp 37 54 [.t 36],Kn 38 37]
def cf57_7 : List AOper := [
 Jc 2 (.bool false)]
def cf57_8 : List AOper := [
 Jf 40 0 4,Jf 41 0 40,Jl 42 41,Jf 43 0 1,Jf 44 0 43,Jl 45 44,Jp 46 80 [.t 42,.t 45],Jm 39 46,Ke 47 0 39,Ke 48 1 39,Jm 5 47,Jm 6 48]
def cf57_9 : List AOper := [
 Jm 49 5,Kn 50 49]
def cf57_10 : List AOper := [
 Jc 2 (.bool false)]
def cf57_11 : List AOper := [
 Jm 51 3,Kb 52 .eql 51 0]
def cf57_12 : List AOper := [
 Jf 53 0 1,Jf 54 1 53,Jl 55 54,Jm 56 3,Kb 57 .sub 56 1,Ji 58 5 55 57,Jf 59 0 58,Jk 60 4 59,Js 7 (.new [.string ⟨#[]⟩,.int .i64 0,.int .i64 0,.slice none 0 0]),Jw 4 7 60]
def cf57_13 : List AOper := [
 Jf 61 0 7,Jl 62 61,Jf 63 1 7,Jl 64 63,Jf 65 0 4,Jf 66 0 65,Jl 67 66,Jf 68 0 4,Jf 69 1 68,Jl 70 69,Jp 71 81 [.t 62,.t 64,.t 67,.t 70],Kb 72 .geq 71 0]
def cf57_14 : List AOper := [
 Jc 2 (.bool false)]
def cf57_15 : List AOper := [
 Kb 73 .add 30 1,Jm 30 73]
def cf57_16 : List AOper := [
 Jc 2 (.bool true)]
def cf57 : AFunc := ⟨74, [.slot 2],
  (Jz cf57_0 [1] (.seq (Jz cf57_1 [1,25] (.cond (.t 25) (Jz cf57_2 [2] .ret) .skip)) (.seq (Jz cf57_3 [1,28,29,30] (.block 0 (.loop [1,28,29,30] (Jz cf57_4 [1,28,29,30,31] (.seq (.cond (.t 31) .skip (.exit 0)) (.seq (.block 1 (Jz cf57_5 [1,3,4,28,29,30] (.seq (Jz cf57_6 [1,3,4,28,29,30,38] (.cond (.t 38) (Jz cf57_7 [2] .ret) .skip)) (.seq (Jz cf57_8 [1,3,4,5,28,29,30] (Jz cf57_9 [1,3,4,28,29,30,50] (.cond (.t 50) (Jz cf57_10 [2] .ret) .skip))) (.seq (Jz cf57_11 [1,3,4,28,29,30,52] (.cond (.t 52) (.exit 1) .skip)) (Jz cf57_12 [1,4,7,28,29,30] (Jz cf57_13 [1,28,29,30,72] (.cond (.t 72) (Jz cf57_14 [2] .ret) .skip)))))))) (.reg cf57_15 [1,28,29,30]))))))) (Jz cf57_16 [2] .ret))))⟩
def cf58_0 : List AOper := [
 Kx 1 0,Jc 2 (.bool false)]
def cf58_1 : List AOper := [
 ⟨some 9,.mksl 1 2 [.int .i64 0,.int .i64 0] [(0,1,.c (.int .i64 4)),(1,1,.c (.int .i64 2))],none⟩,Je 10 9,Jc 11 (.int .i64 0)]
def cf58_2 : List AOper := [
 Kc 12 .lss 11 10]
def cf58_3 : List AOper := [
 Ji 13 1 9 11,Jl 14 13,Jm 4 14]
def cf58_4 : List AOper := [
 Jk 16 2 1,Jf 17 0 1,Jf 18 0 17,Jl 19 18,Jm 20 4,Js 21 (.bld [.string ⟨#[]⟩,.int .i64 0] [(0,1,.t 19),(1,1,.t 20)]),Jp 22 82 [.t 16,.t 21],Jm 15 22,Ke 23 0 15,Ke 24 1 15,Jm 5 23,Jm 6 24]
def cf58_5 : List AOper := [
 Jm 25 6,Kn 26 25]
def cf58_6 : List AOper := [
 Jc 2 (.bool false)]
def cf58_7 : List AOper := [
 Kb 27 .add 11 1,Jm 11 27]
def cf58_8 : List AOper := [
 Jf 28 0 1,Jf 29 1 28,Jl 30 29,Je 31 30,Jc 32 (.int .i64 0)]
def cf58_9 : List AOper := [
 Kc 33 .lss 32 31]
def cf58_10 : List AOper := [
 Ji 34 5 30 32,Jk 35 5 34,Js 8 (.new [.string ⟨#[]⟩,.int .i64 0,.int .i64 0,.slice none 0 0,.slice none 0 0]),Jw 5 8 35]
def cf58_11 : List AOper := [
 Jf 36 0 8,Jf 37 1 36,Jl 38 37,Jf 39 0 8,Jf 40 0 39,Jl 41 40,Jf 42 0 1,Jf 43 0 42,Jl 44 43,Kc 45 .eql 41 44,Jp 46 83 [.t 38,.t 45],Kn 47 46]
def cf58_12 : List AOper := [
 Jc 2 (.bool false)]
def cf58_13 : List AOper := [
 Kb 48 .add 32 1,Jm 32 48]
def cf58_14 : List AOper := [
 Jc 2 (.bool true)]
def cf58 : AFunc := ⟨49, [.slot 2],
  (Jz cf58_0 [1] (.seq (Jz cf58_1 [1,9,10,11] (.block 0 (.loop [1,9,10,11] (Jz cf58_2 [1,9,10,11,12] (.seq (.cond (.t 12) .skip (.exit 0)) (.seq (.block 1 (Jz cf58_3 [1,4,9,10,11] (Jz cf58_4 [1,6,9,10,11] (Jz cf58_5 [1,9,10,11,26] (.cond (.t 26) (Jz cf58_6 [2] .ret) .skip))))) (.reg cf58_7 [1,9,10,11]))))))) (.seq (Jz cf58_8 [1,30,31,32] (.block 2 (.loop [1,30,31,32] (Jz cf58_9 [1,30,31,32,33] (.seq (.cond (.t 33) .skip (.exit 2)) (.seq (.block 3 (Jz cf58_10 [1,8,30,31,32] (Jz cf58_11 [1,30,31,32,47] (.cond (.t 47) (Jz cf58_12 [2] .ret) .skip)))) (.reg cf58_13 [1,30,31,32]))))))) (Jz cf58_14 [2] .ret))))⟩
def cf59_0 : List AOper := [
 Kx 1 0,Js 2 (.new [.string ⟨#[]⟩,.slice none 0 0,.slice none 0 0])]
def cf59_1 : List AOper := [
 ⟨some 13,.mkmap none,none⟩,Jm 3 13]
def cf59_2 : List AOper := [
 Jf 14 0 1,Jf 15 1 14,Jl 16 15,Je 17 16,Jc 18 (.int .i64 0)]
def cf59_3 : List AOper := [
 Kc 19 .lss 18 17]
def cf59_4 : List AOper := [
 Ji 20 5 16 18,Jk 21 5 20,Js 5 (.new [.string ⟨#[]⟩,.int .i64 0,.int .i64 0,.slice none 0 0,.slice none 0 0]),Jw 5 5 21]
def cf59_5 : List AOper := [
 Jf 22 0 5,Jf 23 1 22,Jl 24 23,Kb 25 .eql 24 2,Jm 26 25,Kf 27 0 5 26,Kf 28 0 27 26,Kl 29 28 26,Kf 30 0 1 26,Kf 31 0 30 26,Kl 32 31 26,Jt 33 (.bin .neq (.t 29) (.t 32)) 26,Ja 34 26 33]
def cf59_6 : List AOper := [
 Jm 35 3,Jf 36 0 5,Jf 37 0 36,Jl 38 37,
 ⟨none,.upd false [.s] (.t 35) (.t 38) (.c (.bool true)),none⟩]
def cf59_7 : List AOper := [
 Kb 39 .add 18 1,Jm 18 39]
def cf59_8 : List DOp := [
 ⟨0,Jk 40 2 1,[]⟩,
 ⟨1,Jf 41 0 1,[]⟩,
 ⟨2,Jf 42 1 41,[]⟩,
 ⟨3,Jl 43 42,[]⟩,
 ⟨4,Je 44 43,[]⟩,
 ⟨7,Js 6 (.new [.string ⟨#[]⟩,.slice none 0 0,.slice none 0 0]),[]⟩,
 ⟨5,⟨some 45,.mk 1 16 [.string ⟨#[]⟩] (.t 44) (.t 44),none⟩,[0,7]⟩,
 ⟨6,Js 46 (.bld [.string ⟨#[]⟩,.slice none 0 0,.slice none 0 0] [(0,2,.t 40),(2,1,.t 45)]),[]⟩,
 ⟨8,Jw 3 6 46,[]⟩]
def cf59_9 : List AOper := [
 Jc 7 (.string ⟨#[]⟩)]
def cf59_10 : List AOper := [
 Jf 47 0 1,Jf 48 1 47,Jl 49 48,Je 50 49,Jc 51 (.int .i64 0)]
def cf59_11 : List AOper := [
 Kc 52 .lss 51 50]
def cf59_12 : List AOper := [
 Jm 53 51,Ji 54 5 49 51,Jk 55 5 54,Js 9 (.new [.string ⟨#[]⟩,.int .i64 0,.int .i64 0,.slice none 0 0,.slice none 0 0]),Jm 8 53,Jw 5 9 55]
def cf59_13 : List AOper := [
 Jf 56 0 9,Jf 57 0 56,Jl 58 57,Jm 10 58]
def cf59_14 : List AOper := [
 Jm 59 7,Js 60 (.bin .neq (.t 59) (.c (.string ⟨#[]⟩)))]
def cf59_15 : List AOper := [
 Jm 62 10,Jm 63 7,Jp 64 80 [.t 62,.t 63],Jm 61 64,Ke 65 0 61,Ke 66 1 61,Jm 11 65,Jm 12 66]
def cf59_16 : List AOper := [
 Jm 67 11,Kn 68 67]
def cf59_17 : List AOper := [
 Jc 7 (.string ⟨#[]⟩)]
def cf59_18 : List AOper := [
 Jm 69 7,Js 70 (.bin .eql (.t 69) (.c (.string ⟨#[]⟩))),Jm 71 70,Ju 72 3 71,Ju 73 10 71,
 ⟨some 74,.look false [.s] (.bool false) false (.t 72) (.t 73),(some (71,true))⟩,Ja 75 71 74]
def cf59_19 : List AOper := [
 Jm 76 10,Jm 7 76]
def cf59_20 : List AOper := [
 Jf 77 2 6,Jl 78 77,Jm 79 8,Jm 80 7,Ji 81 1 78 79,Jw 1 81 80]
def cf59_21 : List AOper := [
 Kb 82 .add 51 1,Jm 51 82]
def cf59_22 : List AOper := [
 Jk 83 3 6,Jw 3 2 83]
def cf59 : AFunc := ⟨84, [.cell 2 (some 3)],
  (Jz cf59_0 [1,2] (Jz cf59_1 [1,2,3] (.seq (Jz cf59_2 [1,2,3,16,17,18] (.block 0 (.loop [1,2,3,16,17,18] (Jz cf59_3 [1,2,3,16,17,18,19] (.seq (.cond (.t 19) .skip (.exit 0)) (.seq (.block 1 (Jz cf59_4 [1,2,3,5,16,17,18] (Jz cf59_5 [1,2,3,5,16,17,18,34] (.cond (.t 34) (.reg cf59_6 [1,2,3,16,17,18]) .skip)))) (.reg cf59_7 [1,2,3,16,17,18]))))))) (.seq (.regd cf59_8 [1,2,3,6]) (Jz cf59_9 [1,2,3,6,7] (.seq (Jz cf59_10 [2,3,6,7,49,50,51] (.block 2 (.loop [2,3,6,7,49,50,51] (Jz cf59_11 [2,3,6,7,49,50,51,52] (.seq (.cond (.t 52) .skip (.exit 2)) (.seq (.block 3 (Jz cf59_12 [2,3,6,7,8,9,49,50,51] (Jz cf59_13 [2,3,6,7,8,10,49,50,51] (.seq (Jz cf59_14 [2,3,6,7,8,10,49,50,51,60] (.cond (.t 60) (Jz cf59_15 [2,3,6,7,8,10,11,49,50,51] (Jz cf59_16 [2,3,6,7,8,10,49,50,51,68] (.cond (.t 68) (.reg cf59_17 [2,3,6,7,8,10,49,50,51]) .skip))) .skip)) (.seq (Jz cf59_18 [2,3,6,7,8,10,49,50,51,75] (.cond (.t 75) (.reg cf59_19 [2,3,6,7,8,49,50,51]) .skip)) (.reg cf59_20 [2,3,6,7,49,50,51])))))) (.reg cf59_21 [2,3,6,7,49,50,51]))))))) (Jz cf59_22 [2] .ret)))))))⟩
def cf60_0 : List AOper := [
 Kx 1 0,Jc 2 (.bool false)]
def cf60_1 : List AOper := [
 Jf 5 0 1,Jf 6 0 5,Jf 7 1 6,Jl 8 7,Je 9 8,Jc 10 (.int .i64 0)]
def cf60_2 : List AOper := [
 Kc 11 .lss 10 9]
def cf60_3 : List AOper := [
 Jm 12 10,Ji 13 5 8 10,Jk 14 5 13,Js 4 (.new [.string ⟨#[]⟩,.int .i64 0,.int .i64 0,.slice none 0 0,.slice none 0 0]),Jm 3 12,Jw 5 4 14]
def cf60_4 : List AOper := [
 Jf 15 0 4,Jf 16 1 15,Jl 17 16,Kb 18 .neq 17 3]
def cf60_5 : List DOp := [
 ⟨0,Jm 19 3,[]⟩,
 ⟨1,Kb 20 .gtr 19 0,[]⟩,
 ⟨2,Jm 21 20,[]⟩,
 ⟨3,Kf 22 0 1 21,[]⟩,
 ⟨4,Kf 23 0 22 21,[]⟩,
 ⟨5,Kf 24 1 23 21,[]⟩,
 ⟨6,Kl 25 24 21,[]⟩,
 ⟨7,Ju 26 3 21,[]⟩,
 ⟨8,Jt 27 (.bin .sub (.t 26) (.c (.int .i64 1))) 21,[]⟩,
 ⟨9,Jt 28 (.idx 5 (.t 25) (.t 27)) 21,[]⟩,
 ⟨10,Kf 29 0 28 21,[]⟩,
 ⟨11,Kf 30 0 29 21,[]⟩,
 ⟨12,Kl 31 30 21,[]⟩,
 ⟨13,Kf 32 0 4 21,[]⟩,
 ⟨14,Kf 33 0 32 21,[]⟩,
 ⟨15,Kl 34 33 21,[]⟩,
 ⟨16,Jt 35 (.bin .eql (.t 31) (.t 34)) 21,[]⟩,
 ⟨17,Ja 36 21 35,[]⟩]
def cf60_6 : List AOper := [
 Jc 2 (.bool false)]
def cf60_7 : List DOp := [
 ⟨0,Jm 37 3,[]⟩,
 ⟨1,Kb 38 .add 37 1,[]⟩,
 ⟨2,Jf 39 0 1,[]⟩,
 ⟨3,Jf 40 0 39,[]⟩,
 ⟨4,Jf 41 1 40,[]⟩,
 ⟨5,Jl 42 41,[]⟩,
 ⟨6,Je 43 42,[]⟩,
 ⟨7,Kc 44 .lss 38 43,[]⟩,
 ⟨8,Jm 45 44,[]⟩,
 ⟨9,Kf 46 0 1 45,[]⟩,
 ⟨10,Kf 47 0 46 45,[]⟩,
 ⟨11,Kf 48 1 47 45,[]⟩,
 ⟨12,Kl 49 48 45,[]⟩,
 ⟨13,Ju 50 3 45,[]⟩,
 ⟨14,Jt 51 (.bin .add (.t 50) (.c (.int .i64 1))) 45,[]⟩,
 ⟨15,Jt 52 (.idx 5 (.t 49) (.t 51)) 45,[]⟩,
 ⟨16,Kf 53 0 52 45,[]⟩,
 ⟨17,Kf 54 0 53 45,[]⟩,
 ⟨18,Kl 55 54 45,[]⟩,
 ⟨19,Kf 56 0 4 45,[]⟩,
 ⟨20,Kf 57 0 56 45,[]⟩,
 ⟨21,Kl 58 57 45,[]⟩,
 ⟨22,Jt 59 (.bin .eql (.t 55) (.t 58)) 45,[]⟩,
 ⟨23,Ja 60 45 59,[]⟩,
 ⟨24,Jm 61 60,[]⟩,
 ⟨25,Kf 62 0 1 61,[]⟩,
 ⟨26,Kf 63 0 62 61,[]⟩,
 ⟨27,Kf 64 1 63 61,[]⟩,
 ⟨28,Kl 65 64 61,[]⟩,
 ⟨29,Ju 66 3 61,[]⟩,
 ⟨30,Jt 67 (.bin .add (.t 66) (.c (.int .i64 1))) 61,[]⟩,
 ⟨31,Jt 68 (.idx 5 (.t 65) (.t 67)) 61,[]⟩,
 ⟨32,Kf 69 0 68 61,[]⟩,
 ⟨33,Kf 70 1 69 61,[]⟩,
 ⟨34,Kl 71 70 61,[]⟩,
 ⟨35,Jt 72 (.bin .neq (.t 71) (.c (.int .i64 8))) 61,[]⟩,
 ⟨36,Ja 73 61 72,[]⟩]
def cf60_8 : List AOper := [
 Jc 2 (.bool false)]
def cf60_9 : List AOper := [
 Kb 74 .add 10 1,Jm 10 74]
def cf60_10 : List AOper := [
 Jc 2 (.bool true)]
def cf60 : AFunc := ⟨75, [.slot 2],
  (Jz cf60_0 [1] (.seq (Jz cf60_1 [1,8,9,10] (.block 0 (.loop [1,8,9,10] (Jz cf60_2 [1,8,9,10,11] (.seq (.cond (.t 11) .skip (.exit 0)) (.seq (.block 1 (Jz cf60_3 [1,3,4,8,9,10] (.seq (Jz cf60_4 [1,3,4,8,9,10,18] (.cond (.t 18) (.exit 1) .skip)) (.seq (.seq (.regd cf60_5 [1,3,4,8,9,10,36]) (.cond (.t 36) (Jz cf60_6 [2] .ret) .skip)) (.seq (.regd cf60_7 [1,8,9,10,73]) (.cond (.t 73) (Jz cf60_8 [2] .ret) .skip)))))) (.reg cf60_9 [1,8,9,10]))))))) (Jz cf60_10 [2] .ret)))⟩
def cf61_0 : List AOper := [
 Kx 1 0,Jc 2 (.bool false)]
def cf61_1 : List AOper := [
 Jf 6 0 1,Jf 7 0 6,Jf 8 1 7,Jl 9 8,Je 10 9,Jc 11 (.int .i64 0)]
def cf61_2 : List AOper := [
 Kc 12 .lss 11 10]
def cf61_3 : List AOper := [
 Jm 13 11,Ji 14 5 9 11,Jk 15 5 14,Js 4 (.new [.string ⟨#[]⟩,.int .i64 0,.int .i64 0,.slice none 0 0,.slice none 0 0]),Jm 3 13,Jw 5 4 15]
def cf61_4 : List AOper := [
 Jf 16 0 4,Jf 17 1 16,Jl 18 17,Jm 5 18]
def cf61_5 : List AOper := [
 Jf 19 2 1,Jl 20 19,Jm 21 3,Ji 22 1 20 21,Jl 23 22]
def cf61_8 : List AOper := [
 Js 27 (.bin .eql (.t 23) (.c (.string ⟨#[]⟩))),Jm 26 27]
def cf61_9 : List AOper := [
 Jm 28 5,Kb 29 .eql 28 6]
def cf61_10 : List AOper := [
 Jc 2 (.bool false)]
def cf61_11 : List AOper := [
 Jf 31 0 4,Jf 32 0 31,Jl 33 32,Kc 34 .eql 23 33,Jm 30 34]
def cf61_12 : List AOper := [
 Jm 35 5,Kb 36 .neq 35 2,Jm 37 36,Ju 38 5 37,Jt 39 (.bin .neq (.t 38) (.c (.int .i64 6))) 37,Ja 40 37 39,Jm 41 40,Ju 42 5 41,Jt 43 (.bin .neq (.t 42) (.c (.int .i64 8))) 41,Ja 44 41 43,Jm 45 44,Ju 46 5 45,Jt 47 (.bin .neq (.t 46) (.c (.int .i64 1))) 45,Ja 48 45 47]
def cf61_13 : List AOper := [
 Jc 2 (.bool false)]
def cf61_6 : List AOper := [
 Jm 24 5,Kb 25 .neq 24 1]
def cf61_7 : List AOper := [
 Jc 2 (.bool false)]
def cf61_14 : List AOper := [
 Kb 49 .add 11 1,Jm 11 49]
def cf61_15 : List AOper := [
 Jc 2 (.bool true)]
def cf61 : AFunc := ⟨50, [.slot 2],
  (Jz cf61_0 [1] (.seq (Jz cf61_1 [1,9,10,11] (.block 0 (.loop [1,9,10,11] (Jz cf61_2 [1,9,10,11,12] (.seq (.cond (.t 12) .skip (.exit 0)) (.seq (.block 1 (Jz cf61_3 [1,3,4,9,10,11] (Jz cf61_4 [1,3,4,5,9,10,11] (Jz cf61_5 [1,4,5,9,10,11,23] (.block 2 (Jz cf61_8 [1,4,5,9,10,11,23,26] (.cond (.t 26) (Jz cf61_9 [1,9,10,11,29] (.cond (.t 29) (Jz cf61_10 [2] .ret) .skip)) (Jz cf61_11 [1,5,9,10,11,30] (.cond (.t 30) (Jz cf61_12 [1,9,10,11,48] (.cond (.t 48) (Jz cf61_13 [2] .ret) .skip)) (Jz cf61_6 [1,9,10,11,25] (.cond (.t 25) (Jz cf61_7 [2] .ret) .skip))))))))))) (.reg cf61_14 [1,9,10,11]))))))) (Jz cf61_15 [2] .ret)))⟩
def cf62_0 : List AOper := [
 Kx 1 0,Jc 2 (.bool false)]
def cf62_1 : List AOper := [
 Jf 6 0 1,Jf 7 0 6,Jf 8 1 7,Jl 9 8,Je 10 9,Jc 11 (.int .i64 0)]
def cf62_2 : List AOper := [
 Kc 12 .lss 11 10]
def cf62_3 : List AOper := [
 Jm 13 11,Ji 14 5 9 11,Jk 15 5 14,Js 4 (.new [.string ⟨#[]⟩,.int .i64 0,.int .i64 0,.slice none 0 0,.slice none 0 0]),Jm 3 13,Jw 5 4 15]
def cf62_4 : List AOper := [
 Jf 16 2 1,Jl 17 16,Jm 18 3,Ji 19 1 17 18,Jl 20 19,Js 21 (.bin .neq (.t 20) (.c (.string ⟨#[]⟩))),Jm 22 21,Kf 23 0 4 22,Kf 24 1 23 22,Kl 25 24 22,Jt 26 (.bin .eql (.t 25) (.c (.int .i64 2))) 22,Ju 27 26 22,Kg 28 0 4 27,Kg 29 1 28 27,Km 30 29 27,Jn 31 (.bin .eql (.t 30) (.c (.int .i64 1))) 27,Jt 32 (.pick (.t 27) (.c (.bool true)) (.t 31)) 22,Ja 33 22 32,Jm 5 33]
def cf62_5 : List AOper := [
 Jm 34 5,Jm 35 34,Kf 36 4 4 35,Kl 37 36 35,Jt 38 (.len false (.t 37)) 35,Jt 39 (.bin .gtr (.t 38) (.c (.int .i64 0))) 35,Ja 40 35 39]
def cf62_6 : List AOper := [
 Jc 2 (.bool false)]
def cf62_7 : List AOper := [
 Kb 41 .add 11 1,Jm 11 41]
def cf62_8 : List AOper := [
 Jc 2 (.bool true)]
def cf62 : AFunc := ⟨42, [.slot 2],
  (Jz cf62_0 [1] (.seq (Jz cf62_1 [1,9,10,11] (.block 0 (.loop [1,9,10,11] (Jz cf62_2 [1,9,10,11,12] (.seq (.cond (.t 12) .skip (.exit 0)) (.seq (.block 1 (Jz cf62_3 [1,3,4,9,10,11] (Jz cf62_4 [1,4,5,9,10,11] (Jz cf62_5 [1,9,10,11,40] (.cond (.t 40) (Jz cf62_6 [2] .ret) .skip))))) (.reg cf62_7 [1,9,10,11]))))))) (Jz cf62_8 [2] .ret)))⟩
def cf63_0 : List AOper := [
 Kx 1 0,Jc 2 (.bool false)]
def cf63_1 : List AOper := [
 Jf 5 0 1,Jf 6 0 5,Jf 7 1 6,Jl 8 7,Je 9 8,Jc 10 (.int .i64 0)]
def cf63_2 : List AOper := [
 Kc 11 .lss 10 9]
def cf63_3 : List AOper := [
 Ji 12 5 8 10,Jk 13 5 12,Js 4 (.new [.string ⟨#[]⟩,.int .i64 0,.int .i64 0,.slice none 0 0,.slice none 0 0]),Jw 5 4 13]
def cf63_4 : List AOper := [
 Jf 14 4 4,Jl 15 14,Jf 16 0 1,Jf 17 0 16,Jf 18 0 17,Jl 19 18,Jp 20 84 [.t 15,.t 19],Kn 21 20]
def cf63_5 : List AOper := [
 Jc 2 (.bool false)]
def cf63_6 : List AOper := [
 Kb 22 .add 10 1,Jm 10 22]
def cf63_7 : List AOper := [
 Jc 2 (.bool true)]
def cf63 : AFunc := ⟨23, [.slot 2],
  (Jz cf63_0 [1] (.seq (Jz cf63_1 [1,8,9,10] (.block 0 (.loop [1,8,9,10] (Jz cf63_2 [1,8,9,10,11] (.seq (.cond (.t 11) .skip (.exit 0)) (.seq (.block 1 (Jz cf63_3 [1,4,8,9,10] (Jz cf63_4 [1,8,9,10,21] (.cond (.t 21) (Jz cf63_5 [2] .ret) .skip)))) (.reg cf63_6 [1,8,9,10]))))))) (Jz cf63_7 [2] .ret)))⟩
def cf64_0 : List AOper := [
 Jc 4 (.bool false)]
def cf64_1 : List AOper := [
 Jm 5 0,Js 6 (.len true (.t 5)),Jm 7 1,Js 8 (.len true (.t 7)),Kc 9 .geq 6 8,Jm 10 9,Ju 11 0 10,Ju 12 1 10,Jt 13 (.len true (.t 12)) 10,Jt 14 (.slcs (.t 11) none (some (.t 13))) 10,Ju 15 1 10,Jt 16 (.bin .eql (.t 14) (.t 15)) 10,Ja 17 10 16,Jm 4 17]
def cf64 : AFunc := ⟨18, [.slot 4],
  (Jz cf64_0 [0,1] (Jz cf64_1 [4] .ret))⟩
def cf87_0 : List AOper := [
 Jm 5 0,Je 6 5,Jm 4 6]
def cf87_1 : List AOper := [
 Jm 7 0,Jm 8 4,Jm 9 4,Js 10 (.cvi .u64 (.t 9)),Jp 11 85 [.t 10],Jm 12 1,Jx 13 86 [.t 7,.c (.int .i64 0),.t 8,.t 11,.t 12]]
def cf87 : AFunc := ⟨14, [],
  (Jz cf87_0 [0,1,4] (.reg cf87_1 []))⟩
def cf89_0 : List AOper := [
 Jc 4 (.int .i64 0)]
def cf89_1 : List AOper := [
 Jm 7 0,Jp 8 88 [.t 7],Jm 5 8]
def cf89_2 : List AOper := [
 Jm 9 1,Jp 10 88 [.t 9],Jm 6 10]
def cf89_3 : List AOper := [
 Jm 11 5]
def cf89_4 : List AOper := [
 Jm 12 6]
def cf89_5 : List AOper := [
 Jc 4 (.int .i64 0)]
def cf89_6 : List AOper := [
 Jc 4 (.int .i64 (-1))]
def cf89_7 : List AOper := [
 Jm 13 6]
def cf89_8 : List AOper := [
 Jc 4 (.int .i64 1)]
def cf89_9 : List AOper := [
 Jm 14 0,Jm 15 1,Kc 16 .lss 14 15]
def cf89_10 : List AOper := [
 Jc 4 (.int .i64 (-1))]
def cf89_11 : List AOper := [
 Jm 17 0,Jm 18 1,Kc 19 .gtr 17 18]
def cf89_12 : List AOper := [
 Jc 4 (.int .i64 1)]
def cf89_13 : List AOper := [
 Jc 4 (.int .i64 0)]
def cf89 : AFunc := ⟨20, [.slot 4],
  (Jz cf89_0 [0,1] (Jz cf89_1 [0,1,5] (Jz cf89_2 [0,1,5,6] (.seq (Jz cf89_3 [0,1,6,11] (.cond (.t 11) (.seq (Jz cf89_4 [12] (.cond (.t 12) (Jz cf89_5 [4] .ret) .skip)) (Jz cf89_6 [4] .ret)) .skip)) (.seq (Jz cf89_7 [0,1,13] (.cond (.t 13) (Jz cf89_8 [4] .ret) .skip)) (.seq (Jz cf89_9 [0,1,16] (.cond (.t 16) (Jz cf89_10 [4] .ret) .skip)) (.seq (Jz cf89_11 [19] (.cond (.t 19) (Jz cf89_12 [4] .ret) .skip)) (Jz cf89_13 [4] .ret))))))))⟩
def cf65_0 : List AOper := [
 Jm 6 0,Js 7 (.bin .eql (.t 6) (.c (.string ⟨#[46]⟩)))]
def cf65_1 : List AOper := [
 Jm 8 0,Jm 4 8]
def cf65_2 : List AOper := [
 Jm 9 4,Jp 10 90 [.t 9,.c (.int .u8 46)],Jm 5 10]
def cf65_3 : List AOper := [
 Jm 11 1,Jm 12 4,Jm 13 5,Kb 14 .add 13 1,Js 15 (.slcs (.t 12) (some (.t 14)) none),
 ⟨some 16,.callv (.t 11) [.t 15],none⟩,Kn 17 16,Jm 18 17,Jv 19 5 18,Jn 20 (.bin .lss (.t 19) (.c (.int .i64 0))) 18,Jr 21 18 20]
def cf65_4 : List AOper := [
 Jm 22 4,Jm 23 5,Js 24 (.slcs (.t 22) none (some (.t 23))),Jm 4 24]
def cf65 : AFunc := ⟨25, [],
  (.seq (Jz cf65_0 [0,1,7] (.cond (.t 7) .ret .skip)) (Jz cf65_1 [1,4] (.block 0 (.loop [1,4] (.block 1 (Jz cf65_2 [1,4,5] (.seq (Jz cf65_3 [1,4,5,21] (.cond (.t 21) .ret .skip)) (.reg cf65_4 [1,4]))))))))⟩
def cf66_0 : List AOper := [
 Jc 2 (.bool false)]
def cf66_1 : List AOper := [
 Jm 5 0,Js 6 (.len true (.t 5)),Kb 7 .lss 6 1,Jm 8 7,Jv 9 0 8,Jn 10 (.len true (.t 9)) 8,Jn 11 (.bin .gtr (.t 10) (.c (.int .i64 12))) 8,Jr 12 8 11,Jm 13 12,Jv 14 0 13,Jn 15 (.idxs (.t 14) (.c (.int .i64 0))) 13,Jn 16 (.bin .eql (.t 15) (.c (.int .u8 45))) 13,Jr 17 13 16,Jm 18 17,Jv 19 0 18,Jv 20 0 18,Jn 21 (.len true (.t 20)) 18,Jn 22 (.bin .sub (.t 21) (.c (.int .i64 1))) 18,Jn 23 (.idxs (.t 19) (.t 22)) 18,Jn 24 (.bin .eql (.t 23) (.c (.int .u8 45))) 18,Jr 25 18 24]
def cf66_2 : List AOper := [
 Jc 2 (.bool false)]
def cf66_3 : List AOper := [
 Jm 26 0,Js 27 (.len true (.t 26)),Jc 28 (.int .i64 0)]
def cf66_4 : List AOper := [
 Kc 29 .lss 28 27]
def cf66_5 : List AOper := [
 Jm 30 28,Jm 3 30]
def cf66_6 : List AOper := [
 Jm 31 0,Jm 32 3,Js 33 (.idxs (.t 31) (.t 32)),Jm 4 33]
def cf66_7 : List AOper := [
 Jm 34 4,Js 35 (.bin .lss (.t 34) (.c (.int .u8 97))),Jm 36 35,Jv 37 4 36,Jn 38 (.bin .gtr (.t 37) (.c (.int .u8 122))) 36,Jr 39 36 38,Jm 40 39,Ju 41 4 40,Jt 42 (.bin .lss (.t 41) (.c (.int .u8 48))) 40,Ju 43 42 40,Jv 44 4 43,Jn 45 (.bin .gtr (.t 44) (.c (.int .u8 57))) 43,Jt 46 (.pick (.t 43) (.c (.bool true)) (.t 45)) 40,Ja 47 40 46,Jm 48 47,Ju 49 4 48,Jt 50 (.bin .neq (.t 49) (.c (.int .u8 45))) 48,Ja 51 48 50]
def cf66_8 : List AOper := [
 Jc 2 (.bool false)]
def cf66_9 : List AOper := [
 Kb 52 .add 28 1,Jm 28 52]
def cf66_10 : List AOper := [
 Jc 2 (.bool true)]
def cf66 : AFunc := ⟨53, [.slot 2],
  (Jz cf66_0 [0] (.seq (Jz cf66_1 [0,25] (.cond (.t 25) (Jz cf66_2 [2] .ret) .skip)) (.seq (Jz cf66_3 [0,27,28] (.block 0 (.loop [0,27,28] (Jz cf66_4 [0,27,28,29] (.seq (.cond (.t 29) .skip (.exit 0)) (.seq (.block 1 (Jz cf66_5 [0,3,27,28] (Jz cf66_6 [0,4,27,28] (Jz cf66_7 [0,27,28,51] (.cond (.t 51) (Jz cf66_8 [2] .ret) .skip))))) (.reg cf66_9 [0,27,28]))))))) (Jz cf66_10 [2] .ret))))⟩
def cf79_0 : List AOper := [
 Jc 4 (.int .i64 0)]
def cf79_1 : List AOper := [
 Jm 6 0,Je 7 6,Jc 8 (.int .i64 0)]
def cf79_2 : List AOper := [
 Kc 9 .lss 8 7]
def cf79_3 : List AOper := [
 Jm 10 8,Jm 5 10]
def cf79_4 : List AOper := [
 Jm 11 1,Jm 12 0,Jm 13 5,Ji 14 1 12 13,Jl 15 14,
 ⟨some 16,.callv (.t 11) [.t 15],none⟩]
def cf79_5 : List AOper := [
 Jm 17 5,Jm 4 17]
def cf79_6 : List AOper := [
 Kb 18 .add 8 1,Jm 8 18]
def cf79_7 : List AOper := [
 Jc 4 (.int .i64 (-1))]
def cf79 : AFunc := ⟨19, [.slot 4],
  (Jz cf79_0 [0,1] (.seq (Jz cf79_1 [0,1,7,8] (.block 0 (.loop [0,1,7,8] (Jz cf79_2 [0,1,7,8,9] (.seq (.cond (.t 9) .skip (.exit 0)) (.seq (.block 1 (Jz cf79_3 [0,1,5,7,8] (Jz cf79_4 [0,1,5,7,8,16] (.cond (.t 16) (Jz cf79_5 [4] .ret) .skip)))) (.reg cf79_6 [0,1,7,8]))))))) (Jz cf79_7 [4] .ret)))⟩
def cf73_0 : List AOper := [
 Jc 2 (.slice none 0 0),Jc 3 (.int .i64 0)]
def cf73_1 : List AOper := [
 Jm 9 0,Jm 4 9]
def cf73_2 : List AOper := [
 Jm 10 4,Jp 11 50 [.t 10],Kn 12 11]
def cf73_3 : List AOper := [
 Jc 2 (.slice none 0 0),Jc 3 (.int .i64 11)]
def cf73_4 : List AOper := [
 ⟨some 13,.mk 1 16 [.string ⟨#[]⟩] (.c (.int .i64 8)) (.c (.int .i64 8)),none⟩,
 ⟨some 5,.newH [.slice none 0 0],none⟩,Jw 1 5 13]
def cf73_5 : List AOper := [
 Jl 14 5,Je 15 14,
 ⟨some 6,.newH [.int .i64 0],none⟩,Jw 1 6 15]
def cf73_6 : List AOper := [
 Jm 16 4,Js 17 (.mkf 65 [.t 16] []),Jm 7 17]
def cf73_7 : List AOper := [
 Jm 18 7]
def cf73_8 : List AOper := [
 Jm 8 19]
def cf73_9 : List AOper := [
 Jl 20 6,Kb 21 .sub 20 1,Jw 1 6 21]
def cf73_10 : List AOper := [
 Jl 22 5,Jl 23 6,Jm 24 8,Ji 25 1 22 23,Jw 1 25 24]
def cf73_11 : List AOper := [
 Jl 26 5,Jl 27 6,Jl 28 5,Je 29 28,Jl 30 5,Je 31 30,Js 32 (.slc 1 (.t 26) (some (.t 27)) (some (.t 29)) (some (.t 31))),Jm 2 32,Jc 3 (.int .i64 0)]
def cf73 : AFunc := ⟨33, [.slot 2, .slot 3],
  (Jz cf73_0 [0,2,3] (Jz cf73_1 [2,3,4] (.seq (Jz cf73_2 [2,3,4,12] (.cond (.t 12) (Jz cf73_3 [2,3] .ret) .skip)) (Jz cf73_4 [2,3,4,5] (Jz cf73_5 [2,3,4,5,6] (Jz cf73_6 [2,3,5,6,7] (.seq (Jz cf73_7 [2,3,5,6,18] (.block 0 (.rangeF (.t 18) [19] (.reg cf73_8 [5,6,8]) (.block 1 (Jz cf73_9 [5,6,8] (.reg cf73_10 [])))))) (Jz cf73_11 [2,3] .ret))))))))⟩
def cf74_0 : List AOper := [
 Jc 6 (.bool false)]
def cf74_1 : List AOper := [
 Jm 7 1,Jm 8 0,Kc 9 .leq 7 8,Jm 10 9,Ju 11 0 10,Ju 12 2 10,Jt 13 (.bin .leq (.t 11) (.t 12)) 10,Ja 14 10 13,Jm 6 14]
def cf74 : AFunc := ⟨15, [.slot 6],
  (Jz cf74_0 [0,1,2] (Jz cf74_1 [6] .ret))⟩
def cf76_0 : List AOper := [
 Jc 2 (.bool false)]
def cf76_1 : List AOper := [
 Jm 3 0,
 ⟨some 4,.callp 44 [.t 3,.c (.string ⟨#[42]⟩)],none⟩,Jm 2 4]
def cf76 : AFunc := ⟨5, [.slot 2],
  (Jz cf76_0 [0] (Jz cf76_1 [2] .ret))⟩
def cf77_0 : List AOper := [
 Kx 2 0,Kx 3 1,Jc 4 (.bool false)]
def cf77_1 : List AOper := [
 Jf 5 1 3,Jl 6 5,Jf 7 1 2,Jl 8 7,Jf 9 2 2,Jl 10 9,Jp 11 74 [.t 6,.t 8,.t 10],Kn 12 11,Jm 13 12,Kg 14 2 3 13,Km 15 14 13,Kg 16 3 2 13,Km 17 16 13,Kg 18 4 2 13,Km 19 18 13,
 ⟨some 20,.callp 74 [.t 15,.t 17,.t 19],(some (13,false))⟩,Jn 21 (.not (.t 20)) 13,Jr 22 13 21,Jm 23 22,Kg 24 5 2 23,Km 25 24 23,Jv 26 25 23,Kf 27 1 3 26,Kl 28 27 26,Jt 29 (.bin .rem (.t 28) (.c (.int .i64 2))) 26,Jt 30 (.bin .neq (.t 29) (.c (.int .i64 0))) 26,Jn 31 (.pick (.t 26) (.t 30) (.c (.bool false))) 23,Jr 32 23 31]
def cf77_2 : List AOper := [
 Jc 4 (.bool false)]
def cf77_3 : List AOper := [
 Jf 33 0 2,Jl 34 33]
def cf77_4 : List AOper := [
 Kb 36 .eql 34 1,Jm 35 36]
def cf77_5 : List AOper := [
 Jf 37 0 3,Jl 38 37,Jp 39 45 [.t 38],Jm 40 39,Kf 41 0 3 40,Kl 42 41 40,
 ⟨some 43,.callp 76 [.t 42],(some (40,true))⟩,Jt 44 (.not (.t 43)) 40,Ja 45 40 44,Jm 4 45]
def cf77_6 : List AOper := [
 Kb 47 .eql 34 2,Jm 46 47]
def cf77_7 : List AOper := [
 Jf 48 0 3,Jl 49 48,Jp 50 45 [.t 49],Jm 4 50]
def cf77_8 : List AOper := [
 Kb 52 .eql 34 3,Jm 51 52]
def cf77_9 : List AOper := [
 Jf 53 0 3,Jl 54 53,Jp 55 91 [.t 54],Jm 4 55]
def cf77_10 : List AOper := [
 Jf 56 0 3,Jl 57 56,Js 58 (.bin .eql (.t 57) (.c (.string ⟨#[]⟩))),Jm 4 58]
def cf77 : AFunc := ⟨59, [.slot 4],
  (Jz cf77_0 [2,3] (.seq (Jz cf77_1 [2,3,32] (.cond (.t 32) (Jz cf77_2 [4] .ret) .skip)) (.seq (Jz cf77_3 [3,34] (.block 0 (Jz cf77_4 [3,34,35] (.cond (.t 35) (Jz cf77_5 [4] .ret) (Jz cf77_6 [3,34,46] (.cond (.t 46) (Jz cf77_7 [4] .ret) (Jz cf77_8 [3,51] (.cond (.t 51) (Jz cf77_9 [4] .ret) .skip)))))))) (Jz cf77_10 [4] .ret))))⟩
def cf78_0 : List AOper := [
 Kx 2 0,Kx 3 1,Jc 4 (.int .i64 0)]
def cf78_1 : List DOp := [
 ⟨0,Jf 5 0 2,[]⟩,
 ⟨1,Jl 6 5,[]⟩,
 ⟨2,Jf 7 0 3,[]⟩,
 ⟨3,Jl 8 7,[]⟩,
 ⟨5,Jf 10 1 2,[]⟩,
 ⟨6,Jl 11 10,[]⟩,
 ⟨7,Jf 12 1 3,[]⟩,
 ⟨8,Jl 13 12,[]⟩,
 ⟨10,Jf 15 2 2,[]⟩,
 ⟨11,Jl 16 15,[]⟩,
 ⟨12,Jf 17 2 3,[]⟩,
 ⟨13,Jl 18 17,[]⟩,
 ⟨4,Jp 9 92 [.t 6,.t 8],[5,6,7,8,10,11,12,13]⟩,
 ⟨9,Jp 14 89 [.t 11,.t 13],[10,11,12,13]⟩,
 ⟨14,Jp 19 89 [.t 16,.t 18],[]⟩,
 ⟨15,⟨some 20,.mksl 1 3 [.int .i64 0,.int .i64 0,.int .i64 0] [(0,1,.t 9),(1,1,.t 14),(2,1,.t 19)],none⟩,[]⟩,
 ⟨16,Jp 21 93 [.t 20],[]⟩,
 ⟨17,Jm 4 21,[]⟩]
def cf78 : AFunc := ⟨22, [.slot 4],
  (Jz cf78_0 [2,3] (.seq (.regd cf78_1 [4]) .ret))⟩
def cf80_0 : List AOper := [
 Jc 4 (.bool false),Jc 5 (.int .i64 0)]
def cf80_1 : List AOper := [
 Jm 6 0,Jp 7 50 [.t 6],Kn 8 7,Jm 9 8,Jv 10 1 9,
 ⟨some 11,.callp 50 [.t 10],(some (9,false))⟩,Jn 12 (.not (.t 11)) 9,Jr 13 9 12]
def cf80_2 : List AOper := [
 Jc 4 (.bool false),Jc 5 (.int .i64 11)]
def cf80_3 : List AOper := [
 Jm 14 0,Jm 15 1,Kc 16 .eql 14 15,Jm 17 16,Jv 18 1 17,Jn 19 (.bin .eql (.t 18) (.c (.string ⟨#[46]⟩))) 17,Jr 20 17 19]
def cf80_4 : List AOper := [
 Jc 4 (.bool true),Jc 5 (.int .i64 0)]
def cf80_5 : List AOper := [
 Jm 21 0,Js 22 (.len true (.t 21)),Jm 23 1,Js 24 (.len true (.t 23)),Kc 25 .gtr 22 24,Jm 26 25,Ju 27 0 26,Ju 28 1 26,
 ⟨some 29,.callp 94 [.t 27,.t 28],(some (26,true))⟩,Ja 30 26 29,Jm 31 30,Ju 32 0 31,Ju 33 0 31,Jt 34 (.len true (.t 33)) 31,Ju 35 1 31,Jt 36 (.len true (.t 35)) 31,Jt 37 (.bin .sub (.t 34) (.t 36)) 31,Jt 38 (.bin .sub (.t 37) (.c (.int .i64 1))) 31,Jt 39 (.idxs (.t 32) (.t 38)) 31,Jt 40 (.bin .eql (.t 39) (.c (.int .u8 46))) 31,Ja 41 31 40,Jm 4 41,Jc 5 (.int .i64 0)]
def cf80 : AFunc := ⟨42, [.slot 4, .slot 5],
  (Jz cf80_0 [0,1] (.seq (Jz cf80_1 [0,1,13] (.cond (.t 13) (Jz cf80_2 [4,5] .ret) .skip)) (.seq (Jz cf80_3 [0,1,20] (.cond (.t 20) (Jz cf80_4 [4,5] .ret) .skip)) (Jz cf80_5 [4,5] .ret))))⟩
def cf81_0 : List AOper := [
 Jc 8 (.int .i64 0)]
def cf81_1 : List AOper := [
 Jm 11 0,Jm 12 2,Kc 13 .neq 11 12]
def cf81_2 : List AOper := [
 Jm 15 0,Jm 16 2,Jp 17 95 [.t 15,.t 16],Jm 14 17,Ke 18 0 14,Ke 19 1 14,Jm 9 18,Jm 10 19]
def cf81_3 : List AOper := [
 Jm 20 9,Jm 8 20]
def cf81_4 : List AOper := [
 Jm 21 1,Jm 22 3,Jp 23 89 [.t 21,.t 22],Jm 8 23]
def cf81 : AFunc := ⟨24, [.slot 8],
  (Jz cf81_0 [0,1,2,3] (.seq (Jz cf81_1 [0,1,2,3,13] (.cond (.t 13) (Jz cf81_2 [9] (Jz cf81_3 [8] .ret)) .skip)) (Jz cf81_4 [8] .ret)))⟩
def cf82_0 : List AOper := [
 Kx 2 0,Kx 3 1,Jc 4 (.int .i64 0),Jc 5 (.bool false)]
def cf82_1 : List AOper := [
 Jf 6 0 2,Jf 7 1 6,Jl 8 7,Jk 9 2 3,Jp 10 97 [.t 8,.t 9,.f 96],Ke 11 0 10,Ke 12 1 10,Jm 4 11,Jm 5 12]
def cf82 : AFunc := ⟨13, [.slot 4, .slot 5],
  (Jz cf82_0 [2,3] (Jz cf82_1 [4,5] .ret))⟩
def cf83_0 : List AOper := [
 Jc 4 (.bool false)]
def cf83_1 : List AOper := [
 Jm 5 0]
def cf83_2 : List AOper := [
 Kb 7 .eql 5 3,Jm 6 7]
def cf83_3 : List AOper := [
 Kb 8 .eql 5 6,Jm 6 8]
def cf83_4 : List AOper := [
 Jm 9 1,Kn 10 9,Jm 4 10]
def cf83_5 : List AOper := [
 Kb 12 .eql 5 4,Jm 11 12]
def cf83_6 : List AOper := [
 Kb 13 .eql 5 7,Jm 11 13]
def cf83_7 : List AOper := [
 Jm 14 1,Jm 4 14]
def cf83_8 : List AOper := [
 Jc 4 (.bool true)]
def cf83 : AFunc := ⟨15, [.slot 4],
  (Jz cf83_0 [0,1] (.seq (Jz cf83_1 [1,5] (.block 0 (.seq (Jz cf83_2 [1,5,6] (.cond (.t 6) .skip (.reg cf83_3 [1,5,6]))) (.cond (.t 6) (Jz cf83_4 [4] .ret) (.seq (Jz cf83_5 [1,5,11] (.cond (.t 11) .skip (.reg cf83_6 [1,11]))) (.cond (.t 11) (Jz cf83_7 [4] .ret) .skip)))))) (Jz cf83_8 [4] .ret)))⟩
def cf84_0 : List AOper := [
 Jc 4 (.bool false)]
def cf84_1 : List AOper := [
 Jm 7 0,Je 8 7,Kb 9 .gtr 8 6]
def cf84_2 : List AOper := [
 Jc 4 (.bool false)]
def cf84_3 : List AOper := [
 Jm 10 0,Je 11 10,Jc 12 (.int .i64 0)]
def cf84_4 : List AOper := [
 Kc 13 .lss 12 11]
def cf84_5 : List AOper := [
 Jm 14 12,Ji 15 6 10 12,Jk 16 6 15,Js 6 (.new [.string ⟨#[]⟩,.int .i64 0,.int .i64 0,.int .i64 0,.int .i64 0,.int .u64 0]),Jm 5 14,Jw 6 6 16]
def cf84_6 : List AOper := [
 Jf 17 0 6,Jl 18 17,Jm 19 1,Kc 20 .neq 18 19,Jm 21 20,Kg 22 1 6 21,Km 23 22 21,Jn 24 (.bin .lss (.t 23) (.c (.int .i64 1))) 21,Jr 25 21 24,Jm 26 25,Kg 27 1 6 26,Km 28 27 26,Jn 29 (.bin .gtr (.t 28) (.c (.int .i64 1000000))) 26,Jr 30 26 29,Jm 31 30,Kg 32 2 6 31,Km 33 32 31,Jn 34 (.bin .lss (.t 33) (.c (.int .i64 1))) 31,Jr 35 31 34,Jm 36 35,Kg 37 2 6 36,Km 38 37 36,Jn 39 (.bin .gtr (.t 38) (.c (.int .i64 3))) 36,Jr 40 36 39]
def cf84_7 : List AOper := [
 Jc 4 (.bool false)]
def cf84_8 : List AOper := [
 Jf 41 3 6,Jl 42 41,Kb 43 .lss 42 0,Jm 44 43,Kg 45 3 6 44,Km 46 45 44,Kg 47 4 6 44,Km 48 47 44,Jn 49 (.bin .gtr (.t 46) (.t 48)) 44,Jr 50 44 49,Jm 51 50,Kg 52 4 6 51,Km 53 52 51,Jn 54 (.bin .gtr (.t 53) (.c (.int .i64 20000000))) 51,Jr 55 51 54]
def cf84_9 : List AOper := [
 Jc 4 (.bool false)]
def cf84_10 : List DOp := [
 ⟨0,Jm 56 5,[]⟩,
 ⟨1,Kb 57 .gtr 56 0,[]⟩,
 ⟨2,Jm 58 57,[]⟩,
 ⟨3,Kf 59 3 6 58,[]⟩,
 ⟨4,Kl 60 59 58,[]⟩,
 ⟨5,Ju 61 0 58,[]⟩,
 ⟨6,Jt 62 (.idx 6 (.t 61) (.c (.int .i64 0))) 58,[]⟩,
 ⟨7,Kf 63 3 62 58,[]⟩,
 ⟨8,Kl 64 63 58,[]⟩,
 ⟨9,Jt 65 (.bin .neq (.t 60) (.t 64)) 58,[]⟩,
 ⟨10,Ju 66 65 58,[]⟩,
 ⟨11,Kg 67 4 6 66,[]⟩,
 ⟨12,Km 68 67 66,[]⟩,
 ⟨13,Jv 69 0 66,[]⟩,
 ⟨14,Jn 70 (.idx 6 (.t 69) (.c (.int .i64 0))) 66,[]⟩,
 ⟨15,Kg 71 4 70 66,[]⟩,
 ⟨16,Km 72 71 66,[]⟩,
 ⟨17,Jn 73 (.bin .neq (.t 68) (.t 72)) 66,[]⟩,
 ⟨18,Jt 74 (.pick (.t 66) (.c (.bool true)) (.t 73)) 58,[]⟩,
 ⟨19,Ju 75 74 58,[]⟩,
 ⟨20,Kg 76 1 6 75,[]⟩,
 ⟨21,Km 77 76 75,[]⟩,
 ⟨22,Jv 78 0 75,[]⟩,
 ⟨23,Jv 79 5 75,[]⟩,
 ⟨24,Jn 80 (.bin .sub (.t 79) (.c (.int .i64 1))) 75,[]⟩,
 ⟨25,Jn 81 (.idx 6 (.t 78) (.t 80)) 75,[]⟩,
 ⟨26,Kg 82 1 81 75,[]⟩,
 ⟨27,Km 83 82 75,[]⟩,
 ⟨28,Jn 84 (.bin .leq (.t 77) (.t 83)) 75,[]⟩,
 ⟨29,Jt 85 (.pick (.t 75) (.c (.bool true)) (.t 84)) 58,[]⟩,
 ⟨30,Ja 86 58 85,[]⟩]
def cf84_11 : List AOper := [
 Jc 4 (.bool false)]
def cf84_12 : List AOper := [
 Kb 87 .add 12 1,Jm 12 87]
def cf84_13 : List AOper := [
 Jc 4 (.bool true)]
def cf84 : AFunc := ⟨88, [.slot 4],
  (Jz cf84_0 [0,1] (.seq (Jz cf84_1 [0,1,9] (.cond (.t 9) (Jz cf84_2 [4] .ret) .skip)) (.seq (Jz cf84_3 [0,1,10,11,12] (.block 0 (.loop [0,1,10,11,12] (Jz cf84_4 [0,1,10,11,12,13] (.seq (.cond (.t 13) .skip (.exit 0)) (.seq (.block 1 (Jz cf84_5 [0,1,5,6,10,11,12] (.seq (Jz cf84_6 [0,1,5,6,10,11,12,40] (.cond (.t 40) (Jz cf84_7 [4] .ret) .skip)) (.seq (Jz cf84_8 [0,1,5,6,10,11,12,55] (.cond (.t 55) (Jz cf84_9 [4] .ret) .skip)) (.seq (.regd cf84_10 [0,1,10,11,12,86]) (.cond (.t 86) (Jz cf84_11 [4] .ret) .skip)))))) (.reg cf84_12 [0,1,10,11,12]))))))) (Jz cf84_13 [4] .ret))))⟩
def cf88_0 : List AOper := [
 Jc 2 (.bool false)]
def cf88_1 : List AOper := [
 Jm 3 0,Jm 4 0,Kc 5 .neq 3 4,Jm 2 5]
def cf88 : AFunc := ⟨6, [.slot 2],
  (Jz cf88_0 [0] (Jz cf88_1 [2] .ret))⟩
def cf90_0 : List AOper := [
 Jc 4 (.int .i64 0)]
def cf90_1 : List AOper := [
 Jm 5 0,Jm 6 1,Jp 7 98 [.t 5,.t 6],Jm 4 7]
def cf90 : AFunc := ⟨8, [.slot 4],
  (Jz cf90_0 [0,1] (Jz cf90_1 [4] .ret))⟩
def cf91_0 : List AOper := [
 Jc 2 (.bool false)]
def cf91_1 : List AOper := [
 Jm 5 0,Js 6 (.len true (.t 5)),Jp 7 74 [.t 6,.c (.int .i64 1),.c (.int .i64 40)],Kn 8 7,Jm 9 8,Jv 10 0 9,Jn 11 (.idxs (.t 10) (.c (.int .i64 0))) 9,Jn 12 (.bin .eql (.t 11) (.c (.int .u8 32))) 9,Jr 13 9 12,Jm 14 13,Jv 15 0 14,Jv 16 0 14,Jn 17 (.len true (.t 16)) 14,Jn 18 (.bin .sub (.t 17) (.c (.int .i64 1))) 14,Jn 19 (.idxs (.t 15) (.t 18)) 14,Jn 20 (.bin .eql (.t 19) (.c (.int .u8 32))) 14,Jr 21 14 20]
def cf91_2 : List AOper := [
 Jc 2 (.bool false)]
def cf91_3 : List AOper := [
 Jm 22 0,Js 23 (.len true (.t 22)),Jc 24 (.int .i64 0)]
def cf91_4 : List AOper := [
 Kc 25 .lss 24 23]
def cf91_5 : List AOper := [
 Jm 26 24,Jm 3 26]
def cf91_6 : List AOper := [
 Jm 27 0,Jm 28 3,Js 29 (.idxs (.t 27) (.t 28)),Jm 4 29]
def cf91_7 : List AOper := [
 Jm 30 4,Jp 31 99 [.t 30,.c (.int .u8 97),.c (.int .u8 122)],Kn 32 31,Jm 33 32,Ju 34 4 33,
 ⟨some 35,.callp 99 [.t 34,.c (.int .u8 48),.c (.int .u8 57)],(some (33,true))⟩,Jt 36 (.not (.t 35)) 33,Ja 37 33 36,Jm 38 37,Ju 39 4 38,Jt 40 (.bin .neq (.t 39) (.c (.int .u8 32))) 38,Ja 41 38 40]
def cf91_8 : List AOper := [
 Jc 2 (.bool false)]
def cf91_9 : List AOper := [
 Kb 42 .add 24 1,Jm 24 42]
def cf91_10 : List AOper := [
 Jc 2 (.bool true)]
def cf91 : AFunc := ⟨43, [.slot 2],
  (Jz cf91_0 [0] (.seq (Jz cf91_1 [0,21] (.cond (.t 21) (Jz cf91_2 [2] .ret) .skip)) (.seq (Jz cf91_3 [0,23,24] (.block 0 (.loop [0,23,24] (Jz cf91_4 [0,23,24,25] (.seq (.cond (.t 25) .skip (.exit 0)) (.seq (.block 1 (Jz cf91_5 [0,3,23,24] (Jz cf91_6 [0,4,23,24] (Jz cf91_7 [0,23,24,41] (.cond (.t 41) (Jz cf91_8 [2] .ret) .skip))))) (.reg cf91_9 [0,23,24]))))))) (Jz cf91_10 [2] .ret))))⟩
def cf93_0 : List AOper := [
 Jc 2 (.int .i64 0)]
def cf93_1 : List AOper := [
 Jc 3 (.int .i64 0)]
def cf93_2 : List AOper := [
 Jm 6 0,Je 7 6,Jc 8 (.int .i64 0)]
def cf93_3 : List AOper := [
 Kc 9 .lss 8 7]
def cf93_4 : List AOper := [
 Ji 10 1 6 8,Jl 11 10,Jm 5 11]
def cf93_5 : List AOper := [
 Jm 12 5,Jm 13 3,Kc 14 .neq 12 13]
def cf93_6 : List AOper := [
 Jm 15 5,Jm 2 15]
def cf93_7 : List AOper := [
 Kb 16 .add 8 1,Jm 8 16]
def cf93_8 : List AOper := [
 Jm 17 3,Jm 2 17]
def cf93 : AFunc := ⟨18, [.slot 2],
  (Jz cf93_0 [0] (Jz cf93_1 [0,3] (.seq (Jz cf93_2 [3,6,7,8] (.block 0 (.loop [3,6,7,8] (Jz cf93_3 [3,6,7,8,9] (.seq (.cond (.t 9) .skip (.exit 0)) (.seq (.block 1 (Jz cf93_4 [3,5,6,7,8] (Jz cf93_5 [3,5,6,7,8,14] (.cond (.t 14) (Jz cf93_6 [2] .ret) .skip)))) (.reg cf93_7 [3,6,7,8]))))))) (Jz cf93_8 [2] .ret))))⟩
def cf92_0 : List AOper := [
 Jc 4 (.int .i64 0)]
def cf92_1 : List AOper := [
 Jm 7 0,Jp 8 100 [.t 7],Jm 5 8]
def cf92_2 : List AOper := [
 Jm 9 1,Jp 10 100 [.t 9],Jm 6 10]
def cf92_3 : List AOper := [
 Jm 11 5]
def cf92_4 : List AOper := [
 Jm 12 6]
def cf92_5 : List AOper := [
 Jc 4 (.int .i64 0)]
def cf92_6 : List AOper := [
 Jc 4 (.int .i64 (-1))]
def cf92_7 : List AOper := [
 Jm 13 6]
def cf92_8 : List AOper := [
 Jc 4 (.int .i64 1)]
def cf92_9 : List AOper := [
 Jm 14 0,Jm 15 1,Kc 16 .lss 14 15]
def cf92_10 : List AOper := [
 Jc 4 (.int .i64 (-1))]
def cf92_11 : List AOper := [
 Jm 17 0,Jm 18 1,Kc 19 .gtr 17 18]
def cf92_12 : List AOper := [
 Jc 4 (.int .i64 1)]
def cf92_13 : List AOper := [
 Jc 4 (.int .i64 0)]
def cf92 : AFunc := ⟨20, [.slot 4],
  (Jz cf92_0 [0,1] (Jz cf92_1 [0,1,5] (Jz cf92_2 [0,1,5,6] (.seq (Jz cf92_3 [0,1,6,11] (.cond (.t 11) (.seq (Jz cf92_4 [12] (.cond (.t 12) (Jz cf92_5 [4] .ret) .skip)) (Jz cf92_6 [4] .ret)) .skip)) (.seq (Jz cf92_7 [0,1,13] (.cond (.t 13) (Jz cf92_8 [4] .ret) .skip)) (.seq (Jz cf92_9 [0,1,16] (.cond (.t 16) (Jz cf92_10 [4] .ret) .skip)) (.seq (Jz cf92_11 [19] (.cond (.t 19) (Jz cf92_12 [4] .ret) .skip)) (Jz cf92_13 [4] .ret))))))))⟩
def cf94_0 : List AOper := [
 Jc 4 (.bool false)]
def cf94_1 : List AOper := [
 Jm 5 0,Jm 6 1,Jp 7 101 [.t 5,.t 6],Jm 4 7]
def cf94 : AFunc := ⟨8, [.slot 4],
  (Jz cf94_0 [0,1] (Jz cf94_1 [4] .ret))⟩
def cf95_0 : List AOper := [
 ⟨some 4,.newH [.int .i64 0],none⟩,
 ⟨some 5,.newH [.int .i64 0],none⟩]
def cf95_1 : List AOper := [
 Jm 14 0,Jm 15 1,Jm 6 14,Jm 7 15]
def cf95_2 : List AOper := [
 Jm 16 6,Jp 17 50 [.t 16],Kn 18 17,Jm 19 18,Jv 20 7 19,
 ⟨some 21,.callp 50 [.t 20],(some (19,false))⟩,Jn 22 (.not (.t 21)) 19,Jr 23 19 22]
def cf95_3 : List AOper := [
 ⟨none,.st 1 (.t 4) (.c (.int .i64 0)),none⟩,
 ⟨none,.st 1 (.t 5) (.c (.int .i64 11)),none⟩]
def cf95_4 : List AOper := [
 Jm 24 6,Jm 25 7,Kc 26 .eql 24 25]
def cf95_5 : List AOper := [
 ⟨none,.st 1 (.t 4) (.c (.int .i64 0)),none⟩,
 ⟨none,.st 1 (.t 5) (.c (.int .i64 0)),none⟩]
def cf95_6 : List AOper := [
 Jm 27 7,Jx 28 102 [.t 27],
 ⟨some 8,.newH [.nilFunc],none⟩,Jw 1 8 28]
def cf95_7 : List AOper := [
 Jm 29 6,Js 30 (.mkf 65 [.t 29] []),Jm 9 30]
def cf95_8 : List AOper := [
 Jm 31 9]
def cf95_9 : List AOper := [
 Jm 10 32]
def cf95_10 : List AOper := [
 Jl 34 8,
 ⟨some 35,.callv (.t 34) [],none⟩,Jm 33 35,Ke 36 0 33,Ke 37 1 33,Jm 11 36,Jm 12 37]
def cf95_11 : List AOper := [
 Jm 38 12,Kn 39 38]
def cf95_12 : List AOper := [
 ⟨none,.st 1 (.t 4) (.c (.int .i64 1)),none⟩,
 ⟨none,.st 1 (.t 5) (.c (.int .i64 0)),none⟩]
def cf95_13 : List AOper := [
 Jm 40 10,Jm 41 11,Jp 42 103 [.t 40,.t 41],Jm 13 42]
def cf95_14 : List AOper := [
 Jm 43 13,Kb 44 .neq 43 0]
def cf95_15 : List AOper := [
 Jm 45 13,Jw 1 4 45,
 ⟨none,.st 1 (.t 5) (.c (.int .i64 0)),none⟩]
def cf95_16 : List AOper := [
 ⟨none,.st 1 (.t 4) (.c (.int .i64 (-1))),none⟩,
 ⟨none,.st 1 (.t 5) (.c (.int .i64 0)),none⟩]
def cf95 : AFunc := ⟨46, [.cell 4 none, .cell 5 none],
  (Jz cf95_0 [0,1,4,5] (Jz cf95_1 [4,5,6,7] (.seq (Jz cf95_2 [4,5,6,7,23] (.cond (.t 23) (Jz cf95_3 [4,5] .ret) .skip)) (.seq (Jz cf95_4 [4,5,6,7,26] (.cond (.t 26) (Jz cf95_5 [4,5] .ret) .skip)) (Jz cf95_6 [4,5,6,8] (Jz cf95_7 [4,5,8,9] (.seq (Jz cf95_8 [4,5,8,31] (.block 0 (.rangeF (.t 31) [32] (.reg cf95_9 [4,5,8,10]) (.block 1 (Jz cf95_10 [4,5,10,11,12] (.seq (Jz cf95_11 [4,5,10,11,39] (.cond (.t 39) (Jz cf95_12 [] .ret) .skip)) (Jz cf95_13 [4,5,13] (Jz cf95_14 [4,5,13,44] (.cond (.t 44) (Jz cf95_15 [] .ret) .skip))))))))) (Jz cf95_16 [4,5] .ret))))))))⟩
def cf97_0 : List AOper := [
 Kx 4 1,Jc 6 (.int .i64 0),Jc 7 (.bool false)]
def cf97_1 : List AOper := [
 Jm 12 0,Je 13 12,Jm 8 13]
def cf97_2 : List AOper := [
 Jm 14 8,Jc 9 (.int .i64 0),Jm 10 14]
def cf97_3 : List AOper := [
 Jm 15 9,Jm 16 10,Kc 17 .lss 15 16]
def cf97_4 : List AOper := [
 Jm 18 9,Jm 19 10,Kc 20 .add 18 19,Js 21 (.cvi .u64 (.t 20)),Js 22 (.bin .shr (.t 21) (.c (.int .u64 1))),Js 23 (.cvi .i64 (.t 22)),Jm 11 23]
def cf97_5 : List DOp := [
 ⟨0,Jm 24 2,[]⟩,
 ⟨1,Jm 25 0,[]⟩,
 ⟨2,Jm 26 11,[]⟩,
 ⟨3,Ji 27 5 25 26,[]⟩,
 ⟨4,Jk 28 5 27,[]⟩,
 ⟨5,Jk 29 2 4,[]⟩,
 ⟨6,⟨some 30,.callv (.t 24) [.t 28,.t 29],none⟩,[]⟩,
 ⟨7,Kb 31 .lss 30 0,[]⟩]
def cf97_6 : List AOper := [
 Jm 32 11,Kb 33 .add 32 1,Jm 9 33]
def cf97_7 : List AOper := [
 Jm 34 11,Jm 10 34]
def cf97_8 : List DOp := [
 ⟨0,Jm 35 9,[]⟩,
 ⟨1,Jm 36 9,[]⟩,
 ⟨2,Jm 37 8,[]⟩,
 ⟨3,Kc 38 .lss 36 37,[]⟩,
 ⟨4,Jm 39 38,[]⟩,
 ⟨5,Ju 40 2 39,[]⟩,
 ⟨6,Ju 41 0 39,[]⟩,
 ⟨7,Ju 42 9 39,[]⟩,
 ⟨8,Jt 43 (.idx 5 (.t 41) (.t 42)) 39,[]⟩,
 ⟨9,Jt 44 (.ld (some 5) (.t 43)) 39,[]⟩,
 ⟨10,Jt 45 (.ld (some 2) (.t 4)) 39,[]⟩,
 ⟨11,⟨some 46,.callv (.t 40) [.t 44,.t 45],(some (39,true))⟩,[0]⟩,
 ⟨12,Jt 47 (.bin .eql (.t 46) (.c (.int .i64 0))) 39,[]⟩,
 ⟨13,Ja 48 39 47,[]⟩,
 ⟨14,Jm 6 35,[]⟩,
 ⟨15,Jm 7 48,[]⟩]
def cf97 : AFunc := ⟨49, [.slot 6, .slot 7],
  (Jz cf97_0 [0,2,4] (Jz cf97_1 [0,2,4,8] (Jz cf97_2 [0,2,4,8,9,10] (.seq (.block 0 (.loop [0,2,4,8,9,10] (.seq (Jz cf97_3 [0,2,4,8,9,10,17] (.cond (.t 17) .skip (.exit 0))) (.block 1 (Jz cf97_4 [0,2,4,8,9,10,11] (.seq (.regd cf97_5 [0,2,4,8,9,10,11,31]) (.cond (.t 31) (.reg cf97_6 [0,2,4,8,9,10]) (.reg cf97_7 [0,2,4,8,9,10])))))))) (.seq (.regd cf97_8 [6,7]) .ret)))))⟩
def cf96_0 : List AOper := [
 Kx 2 0,Kx 3 1,Jc 4 (.int .i64 0)]
def cf96_1 : List AOper := [
 Jf 5 0 2,Jf 6 0 5,Jl 7 6,Jf 8 0 2,Jf 9 1 8,Jl 10 9,Jf 11 0 3,Jl 12 11,Jf 13 1 3,Jl 14 13,Jp 15 81 [.t 7,.t 10,.t 12,.t 14],Jm 4 15]
def cf96 : AFunc := ⟨16, [.slot 4],
  (Jz cf96_0 [2,3] (Jz cf96_1 [4] .ret))⟩
def cf99_0 : List AOper := [
 Jc 6 (.bool false)]
def cf99_1 : List AOper := [
 Jm 7 1,Jm 8 0,Kc 9 .leq 7 8,Jm 10 9,Ju 11 0 10,Ju 12 2 10,Jt 13 (.bin .leq (.t 11) (.t 12)) 10,Ja 14 10 13,Jm 6 14]
def cf99 : AFunc := ⟨15, [.slot 6],
  (Jz cf99_0 [0,1,2] (Jz cf99_1 [6] .ret))⟩
def cf100_0 : List AOper := [
 Jc 2 (.bool false)]
def cf100_1 : List AOper := [
 Jm 3 0,Jm 4 0,Kc 5 .neq 3 4,Jm 2 5]
def cf100 : AFunc := ⟨6, [.slot 2],
  (Jz cf100_0 [0] (Jz cf100_1 [2] .ret))⟩
def cf101_0 : List AOper := [
 Jc 4 (.bool false)]
def cf101_1 : List AOper := [
 Jm 5 0,Js 6 (.len true (.t 5)),Jm 7 1,Js 8 (.len true (.t 7)),Kc 9 .geq 6 8,Jm 10 9,Ju 11 0 10,Ju 12 0 10,Jt 13 (.len true (.t 12)) 10,Ju 14 1 10,Jt 15 (.len true (.t 14)) 10,Jt 16 (.bin .sub (.t 13) (.t 15)) 10,Jt 17 (.slcs (.t 11) (some (.t 16)) none) 10,Ju 18 1 10,Jt 19 (.bin .eql (.t 17) (.t 18)) 10,Ja 20 10 19,Jm 4 20]
def cf101 : AFunc := ⟨21, [.slot 4],
  (Jz cf101_0 [0,1] (Jz cf101_1 [4] .ret))⟩
def cf102_0 : List AOper := [
 Jc 2 (.nilFunc)]
def cf102_1 : List AOper := [
 Jm 5 0,Jm 6 0,Js 7 (.bin .neq (.t 6) (.c (.string ⟨#[46]⟩))),
 ⟨some 3,.newH [.string ⟨#[]⟩],none⟩,
 ⟨some 4,.newH [.bool false],none⟩,Jw 1 3 5,Jw 1 4 7]
def cf102_2 : List AOper := [
 Js 8 (.mkf 104 [] [.t 4,.t 3]),Jm 2 8]
def cf102 : AFunc := ⟨9, [.slot 2],
  (Jz cf102_0 [0] (Jz cf102_1 [3,4] (Jz cf102_2 [2] .ret)))⟩
def cf103_0 : List AOper := [
 Jc 4 (.int .i64 0)]
def cf103_1 : List AOper := [
 Jm 5 0,Jm 6 1,Jp 7 105 [.t 5,.t 6],Jm 4 7]
def cf103 : AFunc := ⟨8, [.slot 4],
  (Jz cf103_0 [0,1] (Jz cf103_1 [4] .ret))⟩
def cf104_0 : List AOper := [
 Jc 2 (.string ⟨#[]⟩),Jc 3 (.bool false)]
def cf104_1 : List AOper := [
 Jl 6 0,Kn 7 6]
def cf104_2 : List AOper := [
 Jc 2 (.string ⟨#[]⟩),Jc 3 (.bool false)]
def cf104_3 : List AOper := [
 Jl 8 1,Jp 9 90 [.t 8,.c (.int .u8 46)],Jm 4 9]
def cf104_4 : List AOper := [
 Jl 10 1,Jm 11 4,Kb 12 .add 11 1,Js 13 (.slcs (.t 10) (some (.t 12)) none),Jm 5 13]
def cf104_5 : List AOper := [
 Jm 14 4,Kb 15 .lss 14 0]
def cf104_6 : List AOper := [
 ⟨none,.st 1 (.t 0) (.c (.bool false)),none⟩]
def cf104_7 : List AOper := [
 Jl 16 1,Jm 17 4,Js 18 (.slcs (.t 16) none (some (.t 17))),Jw 1 1 18]
def cf104_8 : List AOper := [
 Jm 19 5,Jm 2 19,Jc 3 (.bool true)]
def cf104 : AFunc := ⟨20, [.slot 2, .slot 3],
  (Jz cf104_0 [0,1] (.seq (Jz cf104_1 [0,1,7] (.cond (.t 7) (Jz cf104_2 [2,3] .ret) .skip)) (Jz cf104_3 [0,1,4] (Jz cf104_4 [0,1,4,5] (.seq (Jz cf104_5 [0,1,4,5,15] (.cond (.t 15) (.reg cf104_6 [5]) (.reg cf104_7 [5]))) (Jz cf104_8 [2,3] .ret))))))⟩
end Go.SL

import Derived.Test.YthedjffolgeomaaGreatDoorANplL
namespace Go.SL
open Go
def yQs : List zA := [
 Kx 1 0,Jc 2 (.bool false)]
def yMU : List zA := [
 Jc 3 (.int .i64 0)]
def yNH : List zA := [
 Jm 4 3,Jf 5 1 1,Jl 6 5,Je 7 6,Kc 8 .lss 4 7,Jm 9 8,Ju 10 3 9,Jt 11 (.bin .leq (.t 10) (.c (.int .i64 100))) 9,Ja 12 9 11]
def yJn : List zA := [
 Jf 15 1 1,Jl 16 15,Jm 17 3,Ji 18 5 16 17,Jf 19 0 18,Jf 20 3 19,Jl 21 20,Je 22 21,Kb 23 .gtr 22 20,Jm 24 23,Kg 25 1 1 24,Km 26 25 24,Jv 27 3 24,Jn 28 (.idx 5 (.t 26) (.t 27)) 24,Kg 29 4 28 24,Km 30 29 24,Jn 31 (.len false (.t 30)) 24,Jn 32 (.bin .gtr (.t 31) (.c (.int .i64 20))) 24,Jr 33 24 32]
def yNx : List zA := [
 Jc 2 (.bool false)]
def yNn : List zA := [
 Jm 13 3,Kb 14 .add 13 1,Jm 3 14]
def yNw : List zA := [
 Jf 34 1 1,Jl 35 34,Je 36 35,Kb 37 .leq 36 100,Jm 2 37]
def yHR : zI := ⟨38, [.slot 2],
  (Jz yQs [1] (.seq (Jz yMU [1,3] (.block 0 (.loop [1,3] (.seq (Jz yNH [1,3,12] (.cond (.t 12) .skip (.exit 0))) (.seq (.block 1 (Jz yJn [1,3,33] (.cond (.t 33) (Jz yNx [2] .ret) .skip))) (.reg yNn [1,3])))))) (Jz yNw [2] .ret)))⟩
def yKB : List zA := [
 Kx 1 0,Jc 2 (.bool false)]
def yQH : List zA := [
 Jf 3 0 1,Jl 4 3,Jp 5 40 [.t 4],Jm 6 5,Jt 7 (.ld (some 7) (.t 1)) 6,
 ⟨some 8,.callp 41 [.t 7],(some (6,true))⟩,Ja 9 6 8,Jm 10 9,Kf 11 2 1 10,Jt 12 (.ld (some 4) (.t 11)) 10,Kf 13 6 1 10,Kl 14 13 10,
 ⟨some 15,.callp 42 [.t 12,.t 14],(some (10,true))⟩,Ja 16 10 15,Jm 2 16]
def yGF : zI := ⟨17, [.slot 2],
  (Jz yKB [1] (Jz yQH [2] .ret))⟩
def yMR : List zA := [
 Kx 2 0,Jc 4 (.bool false)]
def yII : List zA := [
 Jf 9 0 2,Jl 10 9,Je 11 10,Kb 12 .gtr 11 500]
def yJJ : List zA := [
 Jc 4 (.bool false)]
def yNT : List zA := [
 ⟨some 13,.mkmap none,none⟩,Jm 5 13]
def yKD : List zA := [
 Jf 14 0 2,Jl 15 14,Je 16 15,Jc 17 (.int .i64 0)]
def yOZ : List zA := [
 Kc 18 .lss 17 16]
def yQx : List zA := [
 Ji 19 3 15 17,Jk 20 3 19,Js 7 (.new [.int .i64 0,.string ⟨#[]⟩,.slice none 0 0]),Jw 3 7 20]
def yKT : List zA := [
 Jf 21 0 7,Jl 22 21,Jf 23 1 7,Jf 24 0 23,Jl 25 24,Js 26 (.bld [.int .i64 0,.string ⟨#[]⟩] [(0,1,.t 22),(1,1,.t 25)]),Js 8 (.new [.int .i64 0,.string ⟨#[]⟩]),Jw 2 8 26]
def yPR : List zA := [
 Jf 27 0 7,Jl 28 27,Kb 29 .lss 28 0,Jm 30 29,Kg 31 0 7 30,Km 32 31 30,Jv 33 1 30,Jn 34 (.bin .geq (.t 32) (.t 33)) 30,Jr 35 30 34,Jm 36 35,Jv 37 5 36,Jn 38 (.ld (some 2) (.t 8)) 36,
 ⟨some 39,.look true [.i,.s] (.bool false) false (.t 37) (.t 38),(some (36,false))⟩,Jr 40 36 39,Jm 41 40,Kg 42 1 7 41,Jn 43 (.ld (some 2) (.t 42)) 41,
 ⟨some 44,.callp 17 [.t 43],(some (41,false))⟩,Jn 45 (.not (.t 44)) 41,Jv 46 45 41,Kf 47 1 7 46,Jt 48 (.ld (some 2) (.t 47)) 46,
 ⟨some 49,.callp 43 [.t 48],(some (46,true))⟩,Jt 50 (.not (.t 49)) 46,Jn 51 (.pick (.t 46) (.t 50) (.c (.bool false))) 41,Jr 52 41 51]
def yPT : List zA := [
 Jc 4 (.bool false)]
def yFV : List zA := [
 Jm 53 5,Jk 54 2 8,
 ⟨none,.upd true [.i,.s] (.t 53) (.t 54) (.c (.bool true)),none⟩]
def yDy : List zA := [
 Kb 55 .add 17 1,Jm 17 55]
def yFI : List zA := [
 Jc 4 (.bool true)]
def yIo : zI := ⟨56, [.slot 4],
  (Jz yMR [1,2] (.seq (Jz yII [1,2,12] (.cond (.t 12) (Jz yJJ [4] .ret) .skip)) (Jz yNT [1,2,5] (.seq (Jz yKD [1,5,15,16,17] (.block 0 (.loop [1,5,15,16,17] (Jz yOZ [1,5,15,16,17,18] (.seq (.cond (.t 18) .skip (.exit 0)) (.seq (.block 1 (Jz yQx [1,5,7,15,16,17] (Jz yKT [1,5,7,8,15,16,17] (.seq (Jz yPR [1,5,8,15,16,17,52] (.cond (.t 52) (Jz yPT [4] .ret) .skip)) (.reg yFV [1,5,15,16,17]))))) (.reg yDy [1,5,15,16,17]))))))) (Jz yFI [4] .ret)))))⟩
def yMM : List zA := [
 Kx 1 0,Jc 2 (.bool false)]
def yLT : List zA := [
 Jf 4 0 1,Jl 5 4,Js 6 (.bin .eql (.t 5) (.c (.string ⟨#[42]⟩))),Jm 7 6,Kg 8 0 1 7,Km 9 8 7,
 ⟨some 10,.callp 44 [.t 9,.c (.string ⟨#[42,46]⟩)],(some (7,false))⟩,Jr 11 7 10,Jm 3 11]
def yJH : List zA := [
 Jf 12 1 1,Jl 13 12,Je 14 13,Kb 15 .eql 14 0,Jm 16 15,Ju 17 3 16,Jt 18 (.not (.t 17)) 16,Ja 19 16 18,Jm 20 19,Kf 21 0 1 20,Kl 22 21 20,
 ⟨some 23,.callp 45 [.t 22],(some (20,true))⟩,Ja 24 20 23,Jm 2 24]
def yHt : zI := ⟨25, [.slot 2],
  (Jz yMM [1] (Jz yLT [1,3] (Jz yJH [2] .ret)))⟩
def yOc : List zA := [
 Jc 2 (.slice none 0 0)]
def yIY : List zA := [
 Jm 3 0,Js 4 (.eqn false (.t 3) (.c (.slice none 0 0)))]
def yPd : List zA := [
 Jc 2 (.slice none 0 0)]
def yLe : List zA := [
 ⟨some 5,.mksl 3 0 [] [],none⟩,Jm 6 0,
 ⟨some 7,.app 3 32 [.string ⟨#[]⟩,.int .i64 0,.int .i64 0] (.t 5) (.t 6),none⟩,Jm 2 7]
def yHJ : zI := ⟨8, [.slot 2],
  (Jz yOc [0] (.seq (Jz yIY [0,4] (.cond (.t 4) (Jz yPd [2] .ret) .skip)) (Jz yLe [2] .ret)))⟩
def yLk : List zA := [
 Kx 2 0,Jc 4 (.bool false)]
def yOr : List zA := [
 Jk 5 9 2,Jp 6 48 [.t 5],Jm 7 6,Jt 8 (.ld (some 9) (.t 2)) 7,Ju 9 1 7,
 ⟨some 10,.callp 49 [.t 8,.t 9],(some (7,true))⟩,Ja 11 7 10,Jm 4 11]
def yGx : zI := ⟨12, [.slot 4],
  (Jz yLk [1,2] (Jz yOr [4] .ret))⟩
def yKe : List zA := [
 Jc 2 (.bool false)]
def yLY : List zA := [
 Jm 3 0,Jp 4 50 [.t 3],Jm 2 4]
def yGM : zI := ⟨5, [.slot 2],
  (Jz yKe [0] (Jz yLY [2] .ret))⟩
def yJO : List zA := [
 Jc 2 (.slice none 0 0)]
def yMH : List zA := [
 Jm 3 0,Js 4 (.eqn false (.t 3) (.c (.slice none 0 0)))]
def yLP : List zA := [
 Jc 2 (.slice none 0 0)]
def yJC : List zA := [
 ⟨some 5,.mksl 6 0 [] [],none⟩,Jm 6 0,
 ⟨some 7,.app 6 56 [.string ⟨#[]⟩,.int .i64 0,.int .i64 0,.int .i64 0,.int .i64 0,.int .u64 0] (.t 5) (.t 6),none⟩,Jm 2 7]
def yHw : zI := ⟨8, [.slot 2],
  (Jz yJO [0] (.seq (Jz yMH [0,4] (.cond (.t 4) (Jz yLP [2] .ret) .skip)) (Jz yJC [2] .ret)))⟩
def yNq : List zA := [
 Jc 2 (.bool false)]
def yLH : List zA := [
 Jm 6 0,Je 7 6,Kb 8 .gtr 7 64]
def yNX : List zA := [
 Jc 2 (.bool false)]
def yQk : List zA := [
 ⟨some 9,.mkmap none,none⟩,Jm 3 9]
def yNt : List zA := [
 Jm 10 0,Je 11 10,Jc 12 (.int .i64 0)]
def yJj : List zA := [
 Kc 13 .lss 12 11]
def yLn : List zA := [
 Ji 14 3 10 12,Jk 15 3 14,Js 5 (.new [.string ⟨#[]⟩,.int .i64 0,.int .i64 0]),Jw 3 5 15]
def yPm : List zA := [
 Jf 16 0 5,Jl 17 16,Jp 18 45 [.t 17],Kn 19 18,Jm 20 19,Kg 21 0 5 20,Km 22 21 20,
 ⟨some 23,.callp 52 [.t 22],(some (20,false))⟩,Jr 24 20 23,Jm 25 24,Kg 26 2 5 25,Km 27 26 25,Jn 28 (.bin .lss (.t 27) (.c (.int .i64 0))) 25,Jr 29 25 28,Jm 30 29,Kg 31 2 5 30,Km 32 31 30,Jn 33 (.bin .geq (.t 32) (.c (.int .i64 32))) 30,Jr 34 30 33]
def yMB : List zA := [
 Jc 2 (.bool false)]
def yOn : List zA := [
 Jf 35 1 5,Jl 36 35,Jp 37 53 [.t 36],Kn 38 37,Jm 39 38,Jv 40 3 39,Kg 41 1 5 39,Km 42 41 39,
 ⟨some 43,.look false [.i] (.bool false) false (.t 40) (.t 42),(some (39,false))⟩,Jr 44 39 43]
def yBQ : List zA := [
 Jc 2 (.bool false)]
def yBS : List zA := [
 Jm 45 3,Jf 46 1 5,Jl 47 46,
 ⟨none,.upd false [.i] (.t 45) (.t 47) (.c (.bool true)),none⟩]
def zZz : List zA := [
 Kb 48 .add 12 1,Jm 12 48]
def zZK : List zA := [
 Jc 2 (.bool true)]
def yIv : zI := ⟨49, [.slot 2],
  (Jz yNq [0] (.seq (Jz yLH [0,8] (.cond (.t 8) (Jz yNX [2] .ret) .skip)) (Jz yQk [0,3] (.seq (Jz yNt [3,10,11,12] (.block 0 (.loop [3,10,11,12] (Jz yJj [3,10,11,12,13] (.seq (.cond (.t 13) .skip (.exit 0)) (.seq (.block 1 (Jz yLn [3,5,10,11,12] (.seq (Jz yPm [3,5,10,11,12,34] (.cond (.t 34) (Jz yMB [2] .ret) .skip)) (.seq (Jz yOn [3,5,10,11,12,44] (.cond (.t 44) (Jz yBQ [2] .ret) .skip)) (.reg yBS [3,10,11,12]))))) (.reg zZz [3,10,11,12]))))))) (Jz zZK [2] .ret)))))⟩
def yMh : List zA := [
 Kx 1 0,Jc 2 (.bool false)]
def yJV : List zA := [
 Jf 8 1 1,Jl 9 8,Je 10 9,Kb 11 .gtr 10 4000]
def yLJ : List zA := [
 Jc 2 (.bool false)]
def yNA : List zA := [
 ⟨some 12,.mkmap none,none⟩,Jm 3 12]
def yKn : List zA := [
 ⟨some 13,.mkmap none,none⟩,Jm 4 13]
def yJo : List zA := [
 Jf 14 1 1,Jl 15 14,Je 16 15,Jc 17 (.int .i64 0)]
def yKi : List zA := [
 Kc 18 .lss 17 16]
def yQG : List zA := [
 Ji 19 3 15 17,Jk 20 3 19,Js 6 (.new [.int .i64 0,.string ⟨#[]⟩,.slice none 0 0]),Jw 3 6 20]
def yMG : List zA := [
 Jf 21 0 6,Jl 22 21,Jf 23 1 6,Jf 24 0 23,Jl 25 24,Js 26 (.bld [.int .i64 0,.string ⟨#[]⟩] [(0,1,.t 22),(1,1,.t 25)]),Js 7 (.new [.int .i64 0,.string ⟨#[]⟩]),Jw 2 7 26]
def yQn : List zA := [
 Jf 27 0 6,Jl 28 27,Kb 29 .lss 28 0,Jm 30 29,Kg 31 0 6 30,Km 32 31 30,Kg 33 0 1 30,Km 34 33 30,Jn 35 (.len false (.t 34)) 30,Jn 36 (.bin .geq (.t 32) (.t 35)) 30,Jr 37 30 36,Jm 38 37,Jv 39 3 38,Jn 40 (.ld (some 2) (.t 7)) 38,
 ⟨some 41,.look true [.i,.s] (.bool false) false (.t 39) (.t 40),(some (38,false))⟩,Jr 42 38 41,Jm 43 42,Kg 44 1 6 43,Jn 45 (.ld (some 2) (.t 44)) 43,
 ⟨some 46,.callp 43 [.t 45],(some (43,false))⟩,Jn 47 (.not (.t 46)) 43,Jr 48 43 47]
def yEC : List zA := [
 Jc 2 (.bool false)]
def yDp : List zA := [
 Jm 49 3,Jk 50 2 7,
 ⟨none,.upd true [.i,.s] (.t 49) (.t 50) (.c (.bool true)),none⟩]
def yFv : List zA := [
 Jm 51 4,Jf 52 1 6,Jf 53 0 52,Jl 54 53,
 ⟨none,.upd false [.s] (.t 51) (.t 54) (.c (.bool true)),none⟩]
def yAe : List zA := [
 Kb 55 .add 17 1,Jm 17 55]
def zTo : List zA := [
 Jm 56 4,
 ⟨some 57,.mlen (.t 56),none⟩,Kb 58 .leq 57 500,Jm 2 58]
def yIi : zI := ⟨59, [.slot 2],
  (Jz yMh [1] (.seq (Jz yJV [1,11] (.cond (.t 11) (Jz yLJ [2] .ret) .skip)) (Jz yNA [1,3] (Jz yKn [1,3,4] (.seq (Jz yJo [1,3,4,15,16,17] (.block 0 (.loop [1,3,4,15,16,17] (Jz yKi [1,3,4,15,16,17,18] (.seq (.cond (.t 18) .skip (.exit 0)) (.seq (.block 1 (Jz yQG [1,3,4,6,15,16,17] (Jz yMG [1,3,4,6,7,15,16,17] (.seq (Jz yQn [1,3,4,6,7,15,16,17,48] (.cond (.t 48) (Jz yEC [2] .ret) .skip)) (Jz yDp [1,3,4,6,15,16,17] (.reg yFv [1,3,4,15,16,17])))))) (.reg yAe [1,3,4,15,16,17]))))))) (Jz zTo [2] .ret))))))⟩
def yQK : List zA := [
 Kx 2 0,Jc 4 (.bool false)]
def yPq : List zA := [
 Jk 5 4 2,Jp 6 54 [.t 5],Kn 7 6,Jm 8 7,Kg 9 1 2 8,Km 10 9 8,Jn 11 (.bin .neq (.t 10) (.c (.int .i64 6))) 8,Jr 12 8 11,Jm 13 12,Kg 14 0 2 13,Km 15 14 13,Jn 16 (.bin .neq (.t 15) (.c (.string ⟨#[46]⟩))) 13,Jr 17 13 16]
def yMr : List zA := [
 Jc 4 (.bool false)]
def yJT : List zA := [
 Jm 18 1,Je 19 18,Kb 20 .lss 19 1,Jm 21 20,Jv 22 1 21,Jn 23 (.len false (.t 22)) 21,Jn 24 (.bin .gtr (.t 23) (.c (.int .i64 8))) 21,Jr 25 21 24]
def yMA : List zA := [
 Jc 4 (.bool false)]
def yNJ : List zA := [
 Jm 26 1,Jp 27 56 [.t 26,.f 55],Kn 28 27,Jm 4 28]
def yGL : zI := ⟨29, [.slot 4],
  (Jz yQK [1,2] (.seq (Jz yPq [1,17] (.cond (.t 17) (Jz yMr [4] .ret) .skip)) (.seq (Jz yJT [1,25] (.cond (.t 25) (Jz yMA [4] .ret) .skip)) (Jz yNJ [4] .ret))))⟩
def yOI : List zA := [
 Kx 1 0,Jc 2 (.bool false)]
def yIS : List zA := [
 Jk 5 2 1,Js 6 (.bld [.string ⟨#[]⟩,.slice none 0 0] [(0,2,.t 5)]),Js 3 (.new [.string ⟨#[]⟩,.slice none 0 0]),Jw 2 3 6]
def yMv : List zA := [
 Jk 7 2 3,Jp 8 57 [.t 7],Kn 9 8,Jm 10 9,Jn 11 (.ld (some 2) (.t 3)) 10,
 ⟨some 12,.callp 58 [.t 11],(some (10,false))⟩,Jn 13 (.not (.t 12)) 10,Jr 14 10 13]
def yQv : List zA := [
 Jc 2 (.bool false)]
def yKr : List zA := [
 Jk 15 2 3,Jx 16 59 [.t 15],Js 4 (.new [.string ⟨#[]⟩,.slice none 0 0,.slice none 0 0]),Jw 3 4 16]
def yPI : List zA := [
 Jk 17 3 4,Jp 18 60 [.t 17],Jm 19 18,Jt 20 (.ld (some 3) (.t 4)) 19,
 ⟨some 21,.callp 61 [.t 20],(some (19,true))⟩,Ja 22 19 21,Jm 23 22,Jt 24 (.ld (some 3) (.t 4)) 23,
 ⟨some 25,.callp 62 [.t 24],(some (23,true))⟩,Ja 26 23 25,Jm 27 26,Jt 28 (.ld (some 3) (.t 4)) 27,
 ⟨some 29,.callp 63 [.t 28],(some (27,true))⟩,Ja 30 27 29,Jm 2 30]
def yGG : zI := ⟨31, [.slot 2],
  (Jz yOI [1] (Jz yIS [3] (.seq (Jz yMv [3,14] (.cond (.t 14) (Jz yQv [2] .ret) .skip)) (Jz yKr [4] (Jz yPI [2] .ret)))))⟩
def yLU : List zA := [
 Jc 4 (.bool false)]
def yKq : List zA := [
 Jm 5 0,Jm 6 1,Jp 7 64 [.t 5,.t 6],Jm 4 7]
def yHl : zI := ⟨8, [.slot 4],
  (Jz yLU [0,1] (Jz yKq [4] .ret))⟩
def yMi : List zA := [
 Kx 2 0,Kx 3 1,Jc 4 (.bool false)]
def yLi : List zA := [
 Jf 6 0 2,Jl 7 6,Jf 8 0 3,Jl 9 8,Kc 10 .neq 7 9,Jm 11 10,Kg 12 1 2 11,Km 13 12 11,Kg 14 1 3 11,Km 15 14 11,Jn 16 (.bin .neq (.t 13) (.t 15)) 11,Jr 17 11 16,Jm 18 17,Kg 19 2 2 18,Km 20 19 18,Kg 21 2 3 18,Km 22 21 18,Jn 23 (.bin .neq (.t 20) (.t 22)) 18,Jr 24 18 23,Jm 25 24,Kg 26 3 2 25,Km 27 26 25,Jn 28 (.len false (.t 27)) 25,Kg 29 3 3 25,Km 30 29 25,Jn 31 (.len false (.t 30)) 25,Jn 32 (.bin .neq (.t 28) (.t 31)) 25,Jr 33 25 32]
def yLG : List zA := [
 Jc 4 (.bool false)]
def yMn : List zA := [
 Jc 5 (.int .i64 0)]
def yKJ : List zA := [
 Jm 34 5,Jf 35 3 2,Jl 36 35,Je 37 36,Kc 38 .lss 34 37]
def yJN : List yU := [
 ⟨0,Jf 41 3 2,[]⟩,
 ⟨1,Jl 42 41,[]⟩,
 ⟨2,Jm 43 5,[]⟩,
 ⟨3,Ji 44 3 42 43,[]⟩,
 ⟨4,Jk 45 3 44,[]⟩,
 ⟨5,Jf 46 3 3,[]⟩,
 ⟨6,Jl 47 46,[]⟩,
 ⟨7,Jm 48 5,[]⟩,
 ⟨8,Ji 49 3 47 48,[]⟩,
 ⟨9,Jk 50 3 49,[]⟩,
 ⟨10,Js 51 (.eqs true [.s,.i,.i] (.t 45) (.t 50)),[]⟩]
def yQA : List zA := [
 Jc 4 (.bool false)]
def yJq : List zA := [
 Jm 39 5,Kb 40 .add 39 1,Jm 5 40]
def yOD : List zA := [
 Jc 4 (.bool true)]
def yHk : zI := ⟨52, [.slot 4],
  (Jz yMi [2,3] (.seq (Jz yLi [2,3,33] (.cond (.t 33) (Jz yLG [4] .ret) .skip)) (.seq (Jz yMn [2,3,5] (.block 0 (.loop [2,3,5] (.seq (Jz yKJ [2,3,5,38] (.cond (.t 38) .skip (.exit 0))) (.seq (.block 1 (.seq (.regd yJN [2,3,5,51]) (.cond (.t 51) (Jz yQA [4] .ret) .skip))) (.reg yJq [2,3,5])))))) (Jz yOD [4] .ret))))⟩
def yPL : List zA := [
 Kx 2 0,Kx 3 1,Jc 4 (.bool false)]
def yPf : List zA := [
 Jf 6 0 2,Jk 7 4 6,Jf 8 0 3,Jk 9 4 8,Jp 10 46 [.t 7,.t 9],Kn 11 10,Jm 12 11,Kg 13 4 2 12,Km 14 13 12,Jn 15 (.len false (.t 14)) 12,Kg 16 4 3 12,Km 17 16 12,Jn 18 (.len false (.t 17)) 12,Jn 19 (.bin .neq (.t 15) (.t 18)) 12,Jr 20 12 19]
def yLj : List zA := [
 Jc 4 (.bool false)]
def yMF : List zA := [
 Jc 5 (.int .i64 0)]
def yOu : List zA := [
 Jm 21 5,Jf 22 4 2,Jl 23 22,Je 24 23,Kc 25 .lss 21 24]
def yQJ : List yU := [
 ⟨0,Jf 28 4 2,[]⟩,
 ⟨1,Jl 29 28,[]⟩,
 ⟨2,Jm 30 5,[]⟩,
 ⟨3,Ji 31 6 29 30,[]⟩,
 ⟨4,Jk 32 6 31,[]⟩,
 ⟨5,Jf 33 4 3,[]⟩,
 ⟨6,Jl 34 33,[]⟩,
 ⟨7,Jm 35 5,[]⟩,
 ⟨8,Ji 36 6 34 35,[]⟩,
 ⟨9,Jk 37 6 36,[]⟩,
 ⟨10,Js 38 (.eqs true [.s,.i,.i,.i,.i,.i] (.t 32) (.t 37)),[]⟩]
def yOS : List zA := [
 Jc 4 (.bool false)]
def yPi : List zA := [
 Jm 26 5,Kb 27 .add 26 1,Jm 5 27]
def yNF : List zA := [
 Jc 4 (.bool true)]
def yHG : zI := ⟨39, [.slot 4],
  (Jz yPL [2,3] (.seq (Jz yPf [2,3,20] (.cond (.t 20) (Jz yLj [4] .ret) .skip)) (.seq (Jz yMF [2,3,5] (.block 0 (.loop [2,3,5] (.seq (Jz yOu [2,3,5,25] (.cond (.t 25) .skip (.exit 0))) (.seq (.block 1 (.seq (.regd yQJ [2,3,5,38]) (.cond (.t 38) (Jz yOS [4] .ret) .skip))) (.reg yPi [2,3,5])))))) (Jz yNF [4] .ret))))⟩
def yLc : List zA := [
 Kx 2 0,Jc 4 (.bool false)]
def yLw : List zA := [
 Jm 8 1,Je 9 8,Kb 10 .gtr 9 400]
def yON : List zA := [
 Jc 4 (.bool false)]
def yOg : List zA := [
 Jc 5 (.int .i64 (-1))]
def yMJ : List zA := [
 Jm 11 1,Je 12 11,Jc 13 (.int .i64 0)]
def yPC : List zA := [
 Kc 14 .lss 13 12]
def yQl : List zA := [
 Ji 15 2 11 13,Jk 16 2 15,Js 7 (.new [.int .i64 0,.slice none 0 0]),Jw 2 7 16]
def yJr : List zA := [
 Jf 17 0 7,Jl 18 17,Jm 19 5,Kc 20 .leq 18 19,Jm 21 20,Kg 22 0 7 21,Km 23 22 21,Kg 24 8 2 21,Km 25 24 21,Jn 26 (.bin .geq (.t 23) (.t 25)) 21,Jr 27 21 26,Jm 28 27,Kg 29 1 7 28,Jn 30 (.ld (some 1) (.t 29)) 28,Kg 31 0 2 28,Km 32 31 28,Jn 33 (.len false (.t 32)) 28,
 ⟨some 34,.callp 15 [.t 30,.t 33],(some (28,false))⟩,Jn 35 (.not (.t 34)) 28,Jr 36 28 35]
def yMN : List zA := [
 Jc 4 (.bool false)]
def yQi : List zA := [
 Jf 37 0 7,Jl 38 37,Jm 5 38]
def yAn : List zA := [
 Kb 39 .add 13 1,Jm 13 39]
def zXm : List zA := [
 Jc 4 (.bool true)]
def yHV : zI := ⟨40, [.slot 4],
  (Jz yLc [1,2] (.seq (Jz yLw [1,2,10] (.cond (.t 10) (Jz yON [4] .ret) .skip)) (Jz yOg [1,2,5] (.seq (Jz yMJ [2,5,11,12,13] (.block 0 (.loop [2,5,11,12,13] (Jz yPC [2,5,11,12,13,14] (.seq (.cond (.t 14) .skip (.exit 0)) (.seq (.block 1 (Jz yQl [2,5,7,11,12,13] (.seq (Jz yJr [2,7,11,12,13,36] (.cond (.t 36) (Jz yMN [4] .ret) .skip)) (.reg yQi [2,5,11,12,13])))) (.reg yAn [2,5,11,12,13]))))))) (Jz zXm [4] .ret)))))⟩
def yKU : List zA := [
 ⟨some 2,.newH [.bool false],none⟩]
def yKW : List zA := [
 Jm 6 0,Js 7 (.bin .eql (.t 6) (.c (.string ⟨#[46]⟩)))]
def yIX : List zA := [
 ⟨none,.st 1 (.t 2) (.c (.bool true)),none⟩]
def yOh : List zA := [
 Jm 8 0,Js 9 (.len true (.t 8)),Kb 10 .gtr 9 60]
def yKu : List zA := [
 ⟨none,.st 1 (.t 2) (.c (.bool false)),none⟩]
def yJw : List zA := [
 ⟨some 3,.newH [.int .i64 0],none⟩,
 ⟨some 4,.newH [.bool false],none⟩,
 ⟨none,.st 1 (.t 3) (.c (.int .i64 0)),none⟩,
 ⟨none,.st 1 (.t 4) (.c (.bool false)),none⟩]
def yNe : List zA := [
 Jm 11 0,Js 12 (.mkf 65 [.t 11] [])]
def yIH : List zA := [
 Jm 5 13]
def yPX : List zA := [
 Jl 14 3,Kb 15 .add 14 1,Jw 1 3 15]
def yPP : List zA := [
 Jl 16 4,Jm 17 16,Km 18 3 17,Jn 19 (.bin .gtr (.t 18) (.c (.int .i64 8))) 17,Jr 20 17 19]
def zXk : List zA := [
 ⟨none,.st 1 (.t 2) (.c (.bool false)),none⟩]
def yDg : List zA := [
 Jm 21 5,Js 22 (.bin .eql (.t 21) (.c (.string ⟨#[42]⟩))),Jw 1 4 22]
def zZd : List zA := [
 Jl 23 4,Kn 24 23,Jm 25 24,Ju 26 5 25,
 ⟨some 27,.callp 66 [.t 26],(some (25,true))⟩,Jt 28 (.not (.t 27)) 25,Ja 29 25 28]
def yBP : List zA := [
 ⟨none,.st 1 (.t 2) (.c (.bool false)),none⟩]
def zTe : List zA := [
 ⟨none,.st 1 (.t 2) (.c (.bool true)),none⟩]
def yHD : zI := ⟨30, [.cell 2 none],
  (Jz yKU [0,2] (.seq (Jz yKW [0,2,7] (.cond (.t 7) (Jz yIX [2] .ret) .skip)) (.seq (Jz yOh [0,2,10] (.cond (.t 10) (Jz yKu [2] .ret) .skip)) (Jz yJw [0,2,3,4] (.seq (Jz yNe [2,3,4,12] (.block 0 (.rangeF (.t 12) [13] (.reg yIH [2,3,4,5]) (.block 1 (Jz yPX [2,3,4,5] (.seq (Jz yPP [2,4,5,20] (.cond (.t 20) (Jz zXk [] .ret) .skip)) (Jz yDg [2,4,5] (Jz zZd [2,29] (.cond (.t 29) (Jz yBP [] .ret) .skip))))))))) (Jz zTe [2] .ret))))))⟩
def yIM : List zA := [
 Jc 2 (.bool false)]
def yLA : List zA := [
 Jm 6 0,Jx 7 73 [.t 6],Jm 5 7,Ke 8 0 5,Ke 9 1 5,Jm 3 8,Jm 4 9]
def yMt : List zA := [
 Jm 10 3,Je 11 10,Kb 12 .gtr 11 0,Jm 13 12,Ju 14 3 13,Jt 15 (.idx 1 (.t 14) (.c (.int .i64 0))) 13,Kl 16 15 13,Jt 17 (.bin .eql (.t 16) (.c (.string ⟨#[42]⟩))) 13,Ja 18 13 17,Jm 2 18]
def yHL : zI := ⟨19, [.slot 2],
  (Jz yIM [0] (Jz yLA [3] (Jz yMt [2] .ret)))⟩
def yLm : List zA := [
 Jc 2 (.bool false)]
def yKK : List zA := [
 Jm 3 0,Kb 4 .geq 3 1,Jm 5 4,Ju 6 0 5,Jt 7 (.bin .leq (.t 6) (.c (.int .i64 1000000))) 5,Ja 8 5 7,Jm 2 8]
def yHQ : zI := ⟨9, [.slot 2],
  (Jz yLm [0] (Jz yKK [2] .ret))⟩
def yPH : List zA := [
 Kx 1 0,Jc 2 (.bool false)]
def yKH : List zA := [
 Jf 6 0 1,Jl 7 6,Jp 8 45 [.t 7],Kn 9 8,Jm 10 9,Kg 11 1 1 10,Km 12 11 10,
 ⟨some 13,.callp 74 [.t 12,.c (.int .i64 1),.c (.int .i64 8)],(some (10,false))⟩,Jn 14 (.not (.t 13)) 10,Jr 15 10 14,Jm 16 15,Kg 17 2 1 16,Km 18 17 16,
 ⟨some 19,.callp 74 [.t 18,.c (.int .i64 0),.c (.int .i64 100000)],(some (16,false))⟩,Jn 20 (.not (.t 19)) 16,Jr 21 16 20]
def yIF : List zA := [
 Jc 2 (.bool false)]
def yKx : List zA := [
 Jf 22 3 1,Jl 23 22,Je 24 23,Jp 25 74 [.t 24,.c (.int .i64 1),.c (.int .i64 8)],Kn 26 25]
def yOF : List zA := [
 Jc 2 (.bool false)]
def yLp : List zA := [
 Jf 27 1 1,Jl 28 27,Js 29 (.idxa 8 9 (.g 75) (.t 28)),Jk 30 8 29,Js 3 (.new [.int .i64 0,.int .i64 0,.int .i64 0,.int .i64 0,.int .i64 0,.bool false,.bool false,.bool false]),Jw 8 3 30]
def yNj : List zA := [
 Jf 31 6 3,Jl 32 31,Jm 33 32,Kf 34 3 1 33,Kl 35 34 33,Jt 36 (.len false (.t 35)) 33,Jt 37 (.bin .neq (.t 36) (.c (.int .i64 1))) 33,Ja 38 33 37,Jm 39 38,Kg 40 0 1 39,Km 41 40 39,
 ⟨some 42,.callp 76 [.t 41],(some (39,false))⟩,Jv 43 42 39,Kf 44 7 3 43,Kl 45 44 43,Jt 46 (.not (.t 45)) 43,Jn 47 (.pick (.t 43) (.t 46) (.c (.bool false))) 39,Jr 48 39 47]
def yOH : List zA := [
 Jc 2 (.bool false)]
def yLK : List zA := [
 Jf 49 3 1,Jl 50 49,Je 51 50,Jc 52 (.int .i64 0)]
def yMl : List zA := [
 Kc 53 .lss 52 51]
def yDT : List zA := [
 Jm 54 52,Ji 55 3 50 52,Jk 56 3 55,Js 5 (.new [.string ⟨#[]⟩,.int .i64 0,.int .i64 0]),Jm 4 54,Jw 3 5 56]
def zWF : List yU := [
 ⟨0,Jk 57 8 3,[]⟩,
 ⟨1,Jk 58 3 5,[]⟩,
 ⟨2,Jp 59 77 [.t 57,.t 58],[]⟩,
 ⟨3,Kn 60 59,[]⟩,
 ⟨4,Jm 61 60,[]⟩,
 ⟨5,Jv 62 4 61,[]⟩,
 ⟨6,Jn 63 (.bin .gtr (.t 62) (.c (.int .i64 0))) 61,[]⟩,
 ⟨7,Jv 64 63 61,[]⟩,
 ⟨8,Kf 65 3 1 64,[]⟩,
 ⟨9,Kl 66 65 64,[]⟩,
 ⟨10,Ju 67 4 64,[]⟩,
 ⟨11,Jt 68 (.bin .sub (.t 67) (.c (.int .i64 1))) 64,[]⟩,
 ⟨12,Jt 69 (.idx 3 (.t 66) (.t 68)) 64,[]⟩,
 ⟨13,Jt 70 (.ld (some 3) (.t 69)) 64,[]⟩,
 ⟨14,Jt 71 (.ld (some 3) (.t 5)) 64,[]⟩,
 ⟨15,⟨some 72,.callp 78 [.t 70,.t 71],(some (64,true))⟩,[]⟩,
 ⟨16,Jt 73 (.bin .geq (.t 72) (.c (.int .i64 0))) 64,[]⟩,
 ⟨17,Jn 74 (.pick (.t 64) (.t 73) (.c (.bool false))) 61,[]⟩,
 ⟨18,Jr 75 61 74,[]⟩]
def yBh : List zA := [
 Jc 2 (.bool false)]
def yDq : List zA := [
 Kb 76 .add 52 1,Jm 52 76]
def zYf : List zA := [
 Jc 2 (.bool true)]
def yGU : zI := ⟨77, [.slot 2],
  (Jz yPH [1] (.seq (Jz yKH [1,21] (.cond (.t 21) (Jz yIF [2] .ret) .skip)) (.seq (Jz yKx [1,26] (.cond (.t 26) (Jz yOF [2] .ret) .skip)) (Jz yLp [1,3] (.seq (Jz yNj [1,3,48] (.cond (.t 48) (Jz yOH [2] .ret) .skip)) (.seq (Jz yLK [1,3,50,51,52] (.block 0 (.loop [1,3,50,51,52] (Jz yMl [1,3,50,51,52,53] (.seq (.cond (.t 53) .skip (.exit 0)) (.seq (.block 1 (Jz yDT [1,3,4,5,50,51,52] (.seq (.regd zWF [1,3,50,51,52,75]) (.cond (.t 75) (Jz yBh [2] .ret) .skip)))) (.reg yDq [1,3,50,51,52]))))))) (Jz zYf [2] .ret)))))))⟩
def yQI : List zA := [
 Jc 4 (.bool false)]
def yJe : List zA := [
 Jm 5 0,Jm 6 1,Jp 7 79 [.t 5,.t 6],Kb 8 .geq 7 0,Jm 4 8]
def yHn : zI := ⟨9, [.slot 4],
  (Jz yQI [0,1] (Jz yJe [4] .ret))⟩
def yOU : List zA := [
 Jc 2 (.bool false)]
def yOd : List zA := [
 Jm 3 0,Jp 4 53 [.t 3],Kn 5 4,Jm 2 5]
def yHr : zI := ⟨6, [.slot 2],
  (Jz yOU [0] (Jz yOd [2] .ret))⟩
def yLM : List zA := [
 Kx 1 0,Jc 2 (.bool false)]
def yKb : List zA := [
 Jf 8 0 1,Jf 9 0 8,Jl 10 9,Jp 11 45 [.t 10],Kn 12 11,Jm 13 12,Kg 14 0 1 13,Kg 15 0 14 13,Km 16 15 13,
 ⟨some 17,.callp 44 [.t 16,.c (.string ⟨#[42]⟩)],(some (13,false))⟩,Jr 18 13 17,Jm 19 18,Kg 20 0 1 19,Kg 21 1 20 19,Km 22 21 19,Jn 23 (.len false (.t 22)) 19,Jn 24 (.bin .gtr (.t 23) (.c (.int .i64 20000))) 19,Jr 25 19 24]
def yLv : List zA := [
 Jc 2 (.bool false)]
def yQd : List zA := [
 Jf 26 0 1,Jf 27 1 26,Jl 28 27,Je 29 28,Jc 30 (.int .i64 0)]
def yLr : List zA := [
 Kc 31 .lss 30 29]
def yQD : List zA := [
 Jm 32 30,Ji 33 5 28 30,Jk 34 5 33,Js 4 (.new [.string ⟨#[]⟩,.int .i64 0,.int .i64 0,.slice none 0 0,.slice none 0 0]),Jm 3 32,Jw 5 4 34]
def yNa : List zA := [
 Jf 35 0 4,Jk 36 4 35,Jp 37 54 [.t 36],Kn 38 37]
def yQa : List zA := [
 Jc 2 (.bool false)]
def yLL : List zA := [
 Jf 40 0 4,Jf 41 0 40,Jl 42 41,Jf 43 0 1,Jf 44 0 43,Jl 45 44,Jp 46 80 [.t 42,.t 45],Jm 39 46,Ke 47 0 39,Ke 48 1 39,Jm 5 47,Jm 6 48]
def yNW : List zA := [
 Jm 49 5,Kn 50 49]
def yGr : List zA := [
 Jc 2 (.bool false)]
def zUK : List zA := [
 Jm 51 3,Kb 52 .eql 51 0]
def zWI : List zA := [
 Jf 53 0 1,Jf 54 1 53,Jl 55 54,Jm 56 3,Kb 57 .sub 56 1,Ji 58 5 55 57,Jf 59 0 58,Jk 60 4 59,Js 7 (.new [.string ⟨#[]⟩,.int .i64 0,.int .i64 0,.slice none 0 0]),Jw 4 7 60]
def zYA : List zA := [
 Jf 61 0 7,Jl 62 61,Jf 63 1 7,Jl 64 63,Jf 65 0 4,Jf 66 0 65,Jl 67 66,Jf 68 0 4,Jf 69 1 68,Jl 70 69,Jp 71 81 [.t 62,.t 64,.t 67,.t 70],Kb 72 .geq 71 0]
def zVY : List zA := [
 Jc 2 (.bool false)]
def zSX : List zA := [
 Kb 73 .add 30 1,Jm 30 73]
def zWv : List zA := [
 Jc 2 (.bool true)]
def yGB : zI := ⟨74, [.slot 2],
  (Jz yLM [1] (.seq (Jz yKb [1,25] (.cond (.t 25) (Jz yLv [2] .ret) .skip)) (.seq (Jz yQd [1,28,29,30] (.block 0 (.loop [1,28,29,30] (Jz yLr [1,28,29,30,31] (.seq (.cond (.t 31) .skip (.exit 0)) (.seq (.block 1 (Jz yQD [1,3,4,28,29,30] (.seq (Jz yNa [1,3,4,28,29,30,38] (.cond (.t 38) (Jz yQa [2] .ret) .skip)) (.seq (Jz yLL [1,3,4,5,28,29,30] (Jz yNW [1,3,4,28,29,30,50] (.cond (.t 50) (Jz yGr [2] .ret) .skip))) (.seq (Jz zUK [1,3,4,28,29,30,52] (.cond (.t 52) (.exit 1) .skip)) (Jz zWI [1,4,7,28,29,30] (Jz zYA [1,28,29,30,72] (.cond (.t 72) (Jz zVY [2] .ret) .skip)))))))) (.reg zSX [1,28,29,30]))))))) (Jz zWv [2] .ret))))⟩
def yLC : List zA := [
 Kx 1 0,Jc 2 (.bool false)]
def yNd : List zA := [
 ⟨some 9,.mksl 1 2 [.int .i64 0,.int .i64 0] [(0,1,.c (.int .i64 4)),(1,1,.c (.int .i64 2))],none⟩,Je 10 9,Jc 11 (.int .i64 0)]
def yLV : List zA := [
 Kc 12 .lss 11 10]
def yNE : List zA := [
 Ji 13 1 9 11,Jl 14 13,Jm 4 14]
def yNp : List zA := [
 Jk 16 2 1,Jf 17 0 1,Jf 18 0 17,Jl 19 18,Jm 20 4,Js 21 (.bld [.string ⟨#[]⟩,.int .i64 0] [(0,1,.t 19),(1,1,.t 20)]),Jp 22 82 [.t 16,.t 21],Jm 15 22,Ke 23 0 15,Ke 24 1 15,Jm 5 23,Jm 6 24]
def yLO : List zA := [
 Jm 25 6,Kn 26 25]
def yQz : List zA := [
 Jc 2 (.bool false)]
def yKY : List zA := [
 Kb 27 .add 11 1,Jm 11 27]
def yNP : List zA := [
 Jf 28 0 1,Jf 29 1 28,Jl 30 29,Je 31 30,Jc 32 (.int .i64 0)]
def yPD : List zA := [
 Kc 33 .lss 32 31]
def yDl : List zA := [
 Ji 34 5 30 32,Jk 35 5 34,Js 8 (.new [.string ⟨#[]⟩,.int .i64 0,.int .i64 0,.slice none 0 0,.slice none 0 0]),Jw 5 8 35]
def zTc : List zA := [
 Jf 36 0 8,Jf 37 1 36,Jl 38 37,Jf 39 0 8,Jf 40 0 39,Jl 41 40,Jf 42 0 1,Jf 43 0 42,Jl 44 43,Kc 45 .eql 41 44,Jp 46 83 [.t 38,.t 45],Kn 47 46]
def zYC : List zA := [
 Jc 2 (.bool false)]
def zXI : List zA := [
 Kb 48 .add 32 1,Jm 32 48]
def zUe : List zA := [
 Jc 2 (.bool true)]
def yIs : zI := ⟨49, [.slot 2],
  (Jz yLC [1] (.seq (Jz yNd [1,9,10,11] (.block 0 (.loop [1,9,10,11] (Jz yLV [1,9,10,11,12] (.seq (.cond (.t 12) .skip (.exit 0)) (.seq (.block 1 (Jz yNE [1,4,9,10,11] (Jz yNp [1,6,9,10,11] (Jz yLO [1,9,10,11,26] (.cond (.t 26) (Jz yQz [2] .ret) .skip))))) (.reg yKY [1,9,10,11]))))))) (.seq (Jz yNP [1,30,31,32] (.block 2 (.loop [1,30,31,32] (Jz yPD [1,30,31,32,33] (.seq (.cond (.t 33) .skip (.exit 2)) (.seq (.block 3 (Jz yDl [1,8,30,31,32] (Jz zTc [1,30,31,32,47] (.cond (.t 47) (Jz zYC [2] .ret) .skip)))) (.reg zXI [1,30,31,32]))))))) (Jz zUe [2] .ret))))⟩
def yOa : List zA := [
 Kx 1 0,Js 2 (.new [.string ⟨#[]⟩,.slice none 0 0,.slice none 0 0])]
def yPj : List zA := [
 ⟨some 13,.mkmap none,none⟩,Jm 3 13]
def yOW : List zA := [
 Jf 14 0 1,Jf 15 1 14,Jl 16 15,Je 17 16,Jc 18 (.int .i64 0)]
def yOP : List zA := [
 Kc 19 .lss 18 17]
def yOL : List zA := [
 Ji 20 5 16 18,Jk 21 5 20,Js 5 (.new [.string ⟨#[]⟩,.int .i64 0,.int .i64 0,.slice none 0 0,.slice none 0 0]),Jw 5 5 21]
def yMC : List zA := [
 Jf 22 0 5,Jf 23 1 22,Jl 24 23,Kb 25 .eql 24 2,Jm 26 25,Kf 27 0 5 26,Kf 28 0 27 26,Kl 29 28 26,Kf 30 0 1 26,Kf 31 0 30 26,Kl 32 31 26,Jt 33 (.bin .neq (.t 29) (.t 32)) 26,Ja 34 26 33]
def yOx : List zA := [
 Jm 35 3,Jf 36 0 5,Jf 37 0 36,Jl 38 37,
 ⟨none,.upd false [.s] (.t 35) (.t 38) (.c (.bool true)),none⟩]
def yMb : List zA := [
 Kb 39 .add 18 1,Jm 18 39]
def yKM : List yU := [
 ⟨0,Jk 40 2 1,[]⟩,
 ⟨1,Jf 41 0 1,[]⟩,
 ⟨2,Jf 42 1 41,[]⟩,
 ⟨3,Jl 43 42,[]⟩,
 ⟨4,Je 44 43,[]⟩,
 ⟨7,Js 6 (.new [.string ⟨#[]⟩,.slice none 0 0,.slice none 0 0]),[]⟩,
 ⟨5,⟨some 45,.mk 1 16 [.string ⟨#[]⟩] (.t 44) (.t 44),none⟩,[0,7]⟩,
 ⟨6,Js 46 (.bld [.string ⟨#[]⟩,.slice none 0 0,.slice none 0 0] [(0,2,.t 40),(2,1,.t 45)]),[]⟩,
 ⟨8,Jw 3 6 46,[]⟩]
def yOk : List zA := [
 Jc 7 (.string ⟨#[]⟩)]
def zTv : List zA := [
 Jf 47 0 1,Jf 48 1 47,Jl 49 48,Je 50 49,Jc 51 (.int .i64 0)]
def yDL : List zA := [
 Kc 52 .lss 51 50]
def zZJ : List zA := [
 Jm 53 51,Ji 54 5 49 51,Jk 55 5 54,Js 9 (.new [.string ⟨#[]⟩,.int .i64 0,.int .i64 0,.slice none 0 0,.slice none 0 0]),Jm 8 53,Jw 5 9 55]
def yCo : List zA := [
 Jf 56 0 9,Jf 57 0 56,Jl 58 57,Jm 10 58]
def yCB : List zA := [
 Jm 59 7,Js 60 (.bin .neq (.t 59) (.c (.string ⟨#[]⟩)))]
def yBx : List zA := [
 Jm 62 10,Jm 63 7,Jp 64 80 [.t 62,.t 63],Jm 61 64,Ke 65 0 61,Ke 66 1 61,Jm 11 65,Jm 12 66]
def zWJ : List zA := [
 Jm 67 11,Kn 68 67]
def yBo : List zA := [
 Jc 7 (.string ⟨#[]⟩)]
def zXJ : List zA := [
 Jm 69 7,Js 70 (.bin .eql (.t 69) (.c (.string ⟨#[]⟩))),Jm 71 70,Ju 72 3 71,Ju 73 10 71,
 ⟨some 74,.look false [.s] (.bool false) false (.t 72) (.t 73),(some (71,true))⟩,Ja 75 71 74]
def zZl : List zA := [
 Jm 76 10,Jm 7 76]
def yDU : List zA := [
 Jf 77 2 6,Jl 78 77,Jm 79 8,Jm 80 7,Ji 81 1 78 79,Jw 1 81 80]
def yCt : List zA := [
 Kb 82 .add 51 1,Jm 51 82]
def yDB : List zA := [
 Jk 83 3 6,Jw 3 2 83]
def yHK : zI := ⟨84, [.cell 2 (some 3)],
  (Jz yOa [1,2] (Jz yPj [1,2,3] (.seq (Jz yOW [1,2,3,16,17,18] (.block 0 (.loop [1,2,3,16,17,18] (Jz yOP [1,2,3,16,17,18,19] (.seq (.cond (.t 19) .skip (.exit 0)) (.seq (.block 1 (Jz yOL [1,2,3,5,16,17,18] (Jz yMC [1,2,3,5,16,17,18,34] (.cond (.t 34) (.reg yOx [1,2,3,16,17,18]) .skip)))) (.reg yMb [1,2,3,16,17,18]))))))) (.seq (.regd yKM [1,2,3,6]) (Jz yOk [1,2,3,6,7] (.seq (Jz zTv [2,3,6,7,49,50,51] (.block 2 (.loop [2,3,6,7,49,50,51] (Jz yDL [2,3,6,7,49,50,51,52] (.seq (.cond (.t 52) .skip (.exit 2)) (.seq (.block 3 (Jz zZJ [2,3,6,7,8,9,49,50,51] (Jz yCo [2,3,6,7,8,10,49,50,51] (.seq (Jz yCB [2,3,6,7,8,10,49,50,51,60] (.cond (.t 60) (Jz yBx [2,3,6,7,8,10,11,49,50,51] (Jz zWJ [2,3,6,7,8,10,49,50,51,68] (.cond (.t 68) (.reg yBo [2,3,6,7,8,10,49,50,51]) .skip))) .skip)) (.seq (Jz zXJ [2,3,6,7,8,10,49,50,51,75] (.cond (.t 75) (.reg zZl [2,3,6,7,8,49,50,51]) .skip)) (.reg yDU [2,3,6,7,49,50,51])))))) (.reg yCt [2,3,6,7,49,50,51]))))))) (Jz yDB [2] .ret)))))))⟩
def yJd : List zA := [
 Kx 1 0,Jc 2 (.bool false)]
def yJY : List zA := [
 Jf 5 0 1,Jf 6 0 5,Jf 7 1 6,Jl 8 7,Je 9 8,Jc 10 (.int .i64 0)]
def yIJ : List zA := [
 Kc 11 .lss 10 9]
def yOz : List zA := [
 Jm 12 10,Ji 13 5 8 10,Jk 14 5 13,Js 4 (.new [.string ⟨#[]⟩,.int .i64 0,.int .i64 0,.slice none 0 0,.slice none 0 0]),Jm 3 12,Jw 5 4 14]
def yJa : List zA := [
 Jf 15 0 4,Jf 16 1 15,Jl 17 16,Kb 18 .neq 17 3]
def yPw : List yU := [
 ⟨0,Jm 19 3,[]⟩,
 ⟨1,Kb 20 .gtr 19 0,[]⟩,
 ⟨2,Jm 21 20,[]⟩,
 ⟨3,Kf 22 0 1 21,[]⟩,
 ⟨4,Kf 23 0 22 21,[]⟩,
 ⟨5,Kf 24 1 23 21,[]⟩,
 ⟨6,Kl 25 24 21,[]⟩,
 ⟨7,Ju 26 3 21,[]⟩,
 ⟨8,Jt 27 (.bin .sub (.t 26) (.c (.int .i64 1))) 21,[]⟩,
 ⟨9,Jt 28 (.idx 5 (.t 25) (.t 27)) 21,[]⟩,
 ⟨10,Kf 29 0 28 21,[]⟩,
 ⟨11,Kf 30 0 29 21,[]⟩,
 ⟨12,Kl 31 30 21,[]⟩,
 ⟨13,Kf 32 0 4 21,[]⟩,
 ⟨14,Kf 33 0 32 21,[]⟩,
 ⟨15,Kl 34 33 21,[]⟩,
 ⟨16,Jt 35 (.bin .eql (.t 31) (.t 34)) 21,[]⟩,
 ⟨17,Ja 36 21 35,[]⟩]
def yNQ : List zA := [
 Jc 2 (.bool false)]
def yNb : List yU := [
 ⟨0,Jm 37 3,[]⟩,
 ⟨1,Kb 38 .add 37 1,[]⟩,
 ⟨2,Jf 39 0 1,[]⟩,
 ⟨3,Jf 40 0 39,[]⟩,
 ⟨4,Jf 41 1 40,[]⟩,
 ⟨5,Jl 42 41,[]⟩,
 ⟨6,Je 43 42,[]⟩,
 ⟨7,Kc 44 .lss 38 43,[]⟩,
 ⟨8,Jm 45 44,[]⟩,
 ⟨9,Kf 46 0 1 45,[]⟩,
 ⟨10,Kf 47 0 46 45,[]⟩,
 ⟨11,Kf 48 1 47 45,[]⟩,
 ⟨12,Kl 49 48 45,[]⟩,
 ⟨13,Ju 50 3 45,[]⟩,
 ⟨14,Jt 51 (.bin .add (.t 50) (.c (.int .i64 1))) 45,[]⟩,
 ⟨15,Jt 52 (.idx 5 (.t 49) (.t 51)) 45,[]⟩,
 ⟨16,Kf 53 0 52 45,[]⟩,
 ⟨17,Kf 54 0 53 45,[]⟩,
 ⟨18,Kl 55 54 45,[]⟩,
 ⟨19,Kf 56 0 4 45,[]⟩,
 ⟨20,Kf 57 0 56 45,[]⟩,
 ⟨21,Kl 58 57 45,[]⟩,
 ⟨22,Jt 59 (.bin .eql (.t 55) (.t 58)) 45,[]⟩,
 ⟨23,Ja 60 45 59,[]⟩,
 ⟨24,Jm 61 60,[]⟩,
 ⟨25,Kf 62 0 1 61,[]⟩,
 ⟨26,Kf 63 0 62 61,[]⟩,
 ⟨27,Kf 64 1 63 61,[]⟩,
 ⟨28,Kl 65 64 61,[]⟩,
 ⟨29,Ju 66 3 61,[]⟩,
 ⟨30,Jt 67 (.bin .add (.t 66) (.c (.int .i64 1))) 61,[]⟩,
 ⟨31,Jt 68 (.idx 5 (.t 65) (.t 67)) 61,[]⟩,
 ⟨32,Kf 69 0 68 61,[]⟩,
 ⟨33,Kf 70 1 69 61,[]⟩,
 ⟨34,Kl 71 70 61,[]⟩,
 ⟨35,Jt 72 (.bin .neq (.t 71) (.c (.int .i64 8))) 61,[]⟩,
 ⟨36,Ja 73 61 72,[]⟩]
def yMj : List zA := [
 Jc 2 (.bool false)]
def yPl : List zA := [
 Kb 74 .add 10 1,Jm 10 74]
def zXZ : List zA := [
 Jc 2 (.bool true)]
def yHo : zI := ⟨75, [.slot 2],
  (Jz yJd [1] (.seq (Jz yJY [1,8,9,10] (.block 0 (.loop [1,8,9,10] (Jz yIJ [1,8,9,10,11] (.seq (.cond (.t 11) .skip (.exit 0)) (.seq (.block 1 (Jz yOz [1,3,4,8,9,10] (.seq (Jz yJa [1,3,4,8,9,10,18] (.cond (.t 18) (.exit 1) .skip)) (.seq (.seq (.regd yPw [1,3,4,8,9,10,36]) (.cond (.t 36) (Jz yNQ [2] .ret) .skip)) (.seq (.regd yNb [1,8,9,10,73]) (.cond (.t 73) (Jz yMj [2] .ret) .skip)))))) (.reg yPl [1,8,9,10]))))))) (Jz zXZ [2] .ret)))⟩
def yPG : List zA := [
 Kx 1 0,Jc 2 (.bool false)]
def yOs : List zA := [
 Jf 6 0 1,Jf 7 0 6,Jf 8 1 7,Jl 9 8,Je 10 9,Jc 11 (.int .i64 0)]
def yKQ : List zA := [
 Kc 12 .lss 11 10]
def yLI : List zA := [
 Jm 13 11,Ji 14 5 9 11,Jk 15 5 14,Js 4 (.new [.string ⟨#[]⟩,.int .i64 0,.int .i64 0,.slice none 0 0,.slice none 0 0]),Jm 3 13,Jw 5 4 15]
def yLa : List zA := [
 Jf 16 0 4,Jf 17 1 16,Jl 18 17,Jm 5 18]
def yIQ : List zA := [
 Jf 19 2 1,Jl 20 19,Jm 21 3,Ji 22 1 20 21,Jl 23 22]
def yPY : List zA := [
 Js 27 (.bin .eql (.t 23) (.c (.string ⟨#[]⟩))),Jm 26 27]
def yQB : List zA := [
 Jm 28 5,Kb 29 .eql 28 6]
def zWH : List zA := [
 Jc 2 (.bool false)]
def zZH : List zA := [
 Jf 31 0 4,Jf 32 0 31,Jl 33 32,Kc 34 .eql 23 33,Jm 30 34]
def yDF : List zA := [
 Jm 35 5,Kb 36 .neq 35 2,Jm 37 36,Ju 38 5 37,Jt 39 (.bin .neq (.t 38) (.c (.int .i64 6))) 37,Ja 40 37 39,Jm 41 40,Ju 42 5 41,Jt 43 (.bin .neq (.t 42) (.c (.int .i64 8))) 41,Ja 44 41 43,Jm 45 44,Ju 46 5 45,Jt 47 (.bin .neq (.t 46) (.c (.int .i64 1))) 45,Ja 48 45 47]
def yDX : List zA := [
 Jc 2 (.bool false)]
def yOM : List zA := [
 Jm 24 5,Kb 25 .neq 24 1]
def yKd : List zA := [
 Jc 2 (.bool false)]
def zWU : List zA := [
 Kb 49 .add 11 1,Jm 11 49]
def zZb : List zA := [
 Jc 2 (.bool true)]
def yGS : zI := ⟨50, [.slot 2],
  (Jz yPG [1] (.seq (Jz yOs [1,9,10,11] (.block 0 (.loop [1,9,10,11] (Jz yKQ [1,9,10,11,12] (.seq (.cond (.t 12) .skip (.exit 0)) (.seq (.block 1 (Jz yLI [1,3,4,9,10,11] (Jz yLa [1,3,4,5,9,10,11] (Jz yIQ [1,4,5,9,10,11,23] (.block 2 (Jz yPY [1,4,5,9,10,11,23,26] (.cond (.t 26) (Jz yQB [1,9,10,11,29] (.cond (.t 29) (Jz zWH [2] .ret) .skip)) (Jz zZH [1,5,9,10,11,30] (.cond (.t 30) (Jz yDF [1,9,10,11,48] (.cond (.t 48) (Jz yDX [2] .ret) .skip)) (Jz yOM [1,9,10,11,25] (.cond (.t 25) (Jz yKd [2] .ret) .skip))))))))))) (.reg zWU [1,9,10,11]))))))) (Jz zZb [2] .ret)))⟩
def yPh : List zA := [
 Kx 1 0,Jc 2 (.bool false)]
def yOf : List zA := [
 Jf 6 0 1,Jf 7 0 6,Jf 8 1 7,Jl 9 8,Je 10 9,Jc 11 (.int .i64 0)]
def yMY : List zA := [
 Kc 12 .lss 11 10]
def yOl : List zA := [
 Jm 13 11,Ji 14 5 9 11,Jk 15 5 14,Js 4 (.new [.string ⟨#[]⟩,.int .i64 0,.int .i64 0,.slice none 0 0,.slice none 0 0]),Jm 3 13,Jw 5 4 15]
def yKV : List zA := [
 Jf 16 2 1,Jl 17 16,Jm 18 3,Ji 19 1 17 18,Jl 20 19,Js 21 (.bin .neq (.t 20) (.c (.string ⟨#[]⟩))),Jm 22 21,Kf 23 0 4 22,Kf 24 1 23 22,Kl 25 24 22,Jt 26 (.bin .eql (.t 25) (.c (.int .i64 2))) 22,Ju 27 26 22,Kg 28 0 4 27,Kg 29 1 28 27,Km 30 29 27,Jn 31 (.bin .eql (.t 30) (.c (.int .i64 1))) 27,Jt 32 (.pick (.t 27) (.c (.bool true)) (.t 31)) 22,Ja 33 22 32,Jm 5 33]
def yMy : List zA := [
 Jm 34 5,Jm 35 34,Kf 36 4 4 35,Kl 37 36 35,Jt 38 (.len false (.t 37)) 35,Jt 39 (.bin .gtr (.t 38) (.c (.int .i64 0))) 35,Ja 40 35 39]
def yLx : List zA := [
 Jc 2 (.bool false)]
def yMg : List zA := [
 Kb 41 .add 11 1,Jm 11 41]
def yPz : List zA := [
 Jc 2 (.bool true)]
def yHe : zI := ⟨42, [.slot 2],
  (Jz yPh [1] (.seq (Jz yOf [1,9,10,11] (.block 0 (.loop [1,9,10,11] (Jz yMY [1,9,10,11,12] (.seq (.cond (.t 12) .skip (.exit 0)) (.seq (.block 1 (Jz yOl [1,3,4,9,10,11] (Jz yKV [1,4,5,9,10,11] (Jz yMy [1,9,10,11,40] (.cond (.t 40) (Jz yLx [2] .ret) .skip))))) (.reg yMg [1,9,10,11]))))))) (Jz yPz [2] .ret)))⟩
def yJg : List zA := [
 Kx 1 0,Jc 2 (.bool false)]
def yKy : List zA := [
 Jf 5 0 1,Jf 6 0 5,Jf 7 1 6,Jl 8 7,Je 9 8,Jc 10 (.int .i64 0)]
def yMQ : List zA := [
 Kc 11 .lss 10 9]
def yKk : List zA := [
 Ji 12 5 8 10,Jk 13 5 12,Js 4 (.new [.string ⟨#[]⟩,.int .i64 0,.int .i64 0,.slice none 0 0,.slice none 0 0]),Jw 5 4 13]
def yKf : List zA := [
 Jf 14 4 4,Jl 15 14,Jf 16 0 1,Jf 17 0 16,Jf 18 0 17,Jl 19 18,Jp 20 84 [.t 15,.t 19],Kn 21 20]
def yLW : List zA := [
 Jc 2 (.bool false)]
def yKR : List zA := [
 Kb 22 .add 10 1,Jm 10 22]
def yKG : List zA := [
 Jc 2 (.bool true)]
def yGQ : zI := ⟨23, [.slot 2],
  (Jz yJg [1] (.seq (Jz yKy [1,8,9,10] (.block 0 (.loop [1,8,9,10] (Jz yMQ [1,8,9,10,11] (.seq (.cond (.t 11) .skip (.exit 0)) (.seq (.block 1 (Jz yKk [1,4,8,9,10] (Jz yKf [1,8,9,10,21] (.cond (.t 21) (Jz yLW [2] .ret) .skip)))) (.reg yKR [1,8,9,10]))))))) (Jz yKG [2] .ret)))⟩
def yJm : List zA := [
 Jc 4 (.bool false)]
def yKL : List zA := [
 Jm 5 0,Js 6 (.len true (.t 5)),Jm 7 1,Js 8 (.len true (.t 7)),Kc 9 .geq 6 8,Jm 10 9,Ju 11 0 10,Ju 12 1 10,Jt 13 (.len true (.t 12)) 10,Jt 14 (.slcs (.t 11) none (some (.t 13))) 10,Ju 15 1 10,Jt 16 (.bin .eql (.t 14) (.t 15)) 10,Ja 17 10 16,Jm 4 17]
def yHC : zI := ⟨18, [.slot 4],
  (Jz yJm [0,1] (Jz yKL [4] .ret))⟩
def zRd : List zA := [
 Jm 5 0,Je 6 5,Jm 4 6]
def zPv : List zA := [
 Jm 7 0,Jm 8 4,Jm 9 4,Js 10 (.cvi .u64 (.t 9)),Jp 11 85 [.t 10],Jm 12 1,Jx 13 86 [.t 7,.c (.int .i64 0),.t 8,.t 11,.t 12]]
def zJK : zI := ⟨14, [],
  (Jz zRd [0,1,4] (.reg zPv []))⟩
def yPE : List zA := [
 Jc 4 (.int .i64 0)]
def yMc : List zA := [
 Jm 7 0,Jp 8 88 [.t 7],Jm 5 8]
def yPM : List zA := [
 Jm 9 1,Jp 10 88 [.t 9],Jm 6 10]
def yIV : List zA := [
 Jm 11 5]
def yPc : List zA := [
 Jm 12 6]
def yPZ : List zA := [
 Jc 4 (.int .i64 0)]
def yMX : List zA := [
 Jc 4 (.int .i64 (-1))]
def yKg : List zA := [
 Jm 13 6]
def yQb : List zA := [
 Jc 4 (.int .i64 1)]
def yNL : List zA := [
 Jm 14 0,Jm 15 1,Kc 16 .lss 14 15]
def yFU : List zA := [
 Jc 4 (.int .i64 (-1))]
def yFT : List zA := [
 Jm 17 0,Jm 18 1,Kc 19 .gtr 17 18]
def yCC : List zA := [
 Jc 4 (.int .i64 1)]
def zYG : List zA := [
 Jc 4 (.int .i64 0)]
def yGV : zI := ⟨20, [.slot 4],
  (Jz yPE [0,1] (Jz yMc [0,1,5] (Jz yPM [0,1,5,6] (.seq (Jz yIV [0,1,6,11] (.cond (.t 11) (.seq (Jz yPc [12] (.cond (.t 12) (Jz yPZ [4] .ret) .skip)) (Jz yMX [4] .ret)) .skip)) (.seq (Jz yKg [0,1,13] (.cond (.t 13) (Jz yQb [4] .ret) .skip)) (.seq (Jz yNL [0,1,16] (.cond (.t 16) (Jz yFU [4] .ret) .skip)) (.seq (Jz yFT [19] (.cond (.t 19) (Jz yCC [4] .ret) .skip)) (Jz zYG [4] .ret))))))))⟩
def yLq : List zA := [
 Jm 6 0,Js 7 (.bin .eql (.t 6) (.c (.string ⟨#[46]⟩)))]
def yOB : List zA := [
 Jm 8 0,Jm 4 8]
def yKO : List zA := [
 Jm 9 4,Jp 10 90 [.t 9,.c (.int .u8 46)],Jm 5 10]
def yLo : List zA := [
 Jm 11 1,Jm 12 4,Jm 13 5,Kb 14 .add 13 1,Js 15 (.slcs (.t 12) (some (.t 14)) none),
 ⟨some 16,.callv (.t 11) [.t 15],none⟩,Kn 17 16,Jm 18 17,Jv 19 5 18,Jn 20 (.bin .lss (.t 19) (.c (.int .i64 0))) 18,Jr 21 18 20]
def yJx : List zA := [
 Jm 22 4,Jm 23 5,Js 24 (.slcs (.t 22) none (some (.t 23))),Jm 4 24]
def yHj : zI := ⟨25, [],
  (.seq (Jz yLq [0,1,7] (.cond (.t 7) .ret .skip)) (Jz yOB [1,4] (.block 0 (.loop [1,4] (.block 1 (Jz yKO [1,4,5] (.seq (Jz yLo [1,4,5,21] (.cond (.t 21) .ret .skip)) (.reg yJx [1,4]))))))))⟩
def yLE : List zA := [
 Jc 2 (.bool false)]
def yQt : List zA := [
 Jm 5 0,Js 6 (.len true (.t 5)),Kb 7 .lss 6 1,Jm 8 7,Jv 9 0 8,Jn 10 (.len true (.t 9)) 8,Jn 11 (.bin .gtr (.t 10) (.c (.int .i64 12))) 8,Jr 12 8 11,Jm 13 12,Jv 14 0 13,Jn 15 (.idxs (.t 14) (.c (.int .i64 0))) 13,Jn 16 (.bin .eql (.t 15) (.c (.int .u8 45))) 13,Jr 17 13 16,Jm 18 17,Jv 19 0 18,Jv 20 0 18,Jn 21 (.len true (.t 20)) 18,Jn 22 (.bin .sub (.t 21) (.c (.int .i64 1))) 18,Jn 23 (.idxs (.t 19) (.t 22)) 18,Jn 24 (.bin .eql (.t 23) (.c (.int .u8 45))) 18,Jr 25 18 24]
def yMK : List zA := [
 Jc 2 (.bool false)]
def yOb : List zA := [
 Jm 26 0,Js 27 (.len true (.t 26)),Jc 28 (.int .i64 0)]
def yJA : List zA := [
 Kc 29 .lss 28 27]
def yKN : List zA := [
 Jm 30 28,Jm 3 30]
def yKZ : List zA := [
 Jm 31 0,Jm 32 3,Js 33 (.idxs (.t 31) (.t 32)),Jm 4 33]
def yOv : List zA := [
 Jm 34 4,Js 35 (.bin .lss (.t 34) (.c (.int .u8 97))),Jm 36 35,Jv 37 4 36,Jn 38 (.bin .gtr (.t 37) (.c (.int .u8 122))) 36,Jr 39 36 38,Jm 40 39,Ju 41 4 40,Jt 42 (.bin .lss (.t 41) (.c (.int .u8 48))) 40,Ju 43 42 40,Jv 44 4 43,Jn 45 (.bin .gtr (.t 44) (.c (.int .u8 57))) 43,Jt 46 (.pick (.t 43) (.c (.bool true)) (.t 45)) 40,Ja 47 40 46,Jm 48 47,Ju 49 4 48,Jt 50 (.bin .neq (.t 49) (.c (.int .u8 45))) 48,Ja 51 48 50]
def yIT : List zA := [
 Jc 2 (.bool false)]
def yJl : List zA := [
 Kb 52 .add 28 1,Jm 28 52]
def zZU : List zA := [
 Jc 2 (.bool true)]
def yIg : zI := ⟨53, [.slot 2],
  (Jz yLE [0] (.seq (Jz yQt [0,25] (.cond (.t 25) (Jz yMK [2] .ret) .skip)) (.seq (Jz yOb [0,27,28] (.block 0 (.loop [0,27,28] (Jz yJA [0,27,28,29] (.seq (.cond (.t 29) .skip (.exit 0)) (.seq (.block 1 (Jz yKN [0,3,27,28] (Jz yKZ [0,4,27,28] (Jz yOv [0,27,28,51] (.cond (.t 51) (Jz yIT [2] .ret) .skip))))) (.reg yJl [0,27,28]))))))) (Jz zZU [2] .ret))))⟩
def yLF : List zA := [
 Jc 4 (.int .i64 0)]
def yOC : List zA := [
 Jm 6 0,Je 7 6,Jc 8 (.int .i64 0)]
def yQw : List zA := [
 Kc 9 .lss 8 7]
def yNi : List zA := [
 Jm 10 8,Jm 5 10]
def yNS : List zA := [
 Jm 11 1,Jm 12 0,Jm 13 5,Ji 14 1 12 13,Jl 15 14,
 ⟨some 16,.callv (.t 11) [.t 15],none⟩]
def yPv : List zA := [
 Jm 17 5,Jm 4 17]
def yKs : List zA := [
 Kb 18 .add 8 1,Jm 8 18]
def yMD : List zA := [
 Jc 4 (.int .i64 (-1))]
def yGW : zI := ⟨19, [.slot 4],
  (Jz yLF [0,1] (.seq (Jz yOC [0,1,7,8] (.block 0 (.loop [0,1,7,8] (Jz yQw [0,1,7,8,9] (.seq (.cond (.t 9) .skip (.exit 0)) (.seq (.block 1 (Jz yNi [0,1,5,7,8] (Jz yNS [0,1,5,7,8,16] (.cond (.t 16) (Jz yPv [4] .ret) .skip)))) (.reg yKs [0,1,7,8]))))))) (Jz yMD [4] .ret)))⟩
def yKF : List zA := [
 Jc 2 (.slice none 0 0),Jc 3 (.int .i64 0)]
def yKS : List zA := [
 Jm 9 0,Jm 4 9]
def yMk : List zA := [
 Jm 10 4,Jp 11 50 [.t 10],Kn 12 11]
def yJk : List zA := [
 Jc 2 (.slice none 0 0),Jc 3 (.int .i64 11)]
def yQy : List zA := [
 ⟨some 13,.mk 1 16 [.string ⟨#[]⟩] (.c (.int .i64 8)) (.c (.int .i64 8)),none⟩,
 ⟨some 5,.newH [.slice none 0 0],none⟩,Jw 1 5 13]
def yJy : List zA := [
 Jl 14 5,Je 15 14,
 ⟨some 6,.newH [.int .i64 0],none⟩,Jw 1 6 15]
def yJu : List zA := [
 Jm 16 4,Js 17 (.mkf 65 [.t 16] []),Jm 7 17]
def yLg : List zA := [
 Jm 18 7]
def yJZ : List zA := [
 Jm 8 19]
def yNM : List zA := [
 Jl 20 6,Kb 21 .sub 20 1,Jw 1 6 21]
def yEH : List zA := [
 Jl 22 5,Jl 23 6,Jm 24 8,Ji 25 1 22 23,Jw 1 25 24]
def yEy : List zA := [
 Jl 26 5,Jl 27 6,Jl 28 5,Je 29 28,Jl 30 5,Je 31 30,Js 32 (.slc 1 (.t 26) (some (.t 27)) (some (.t 29)) (some (.t 31))),Jm 2 32,Jc 3 (.int .i64 0)]
def yHH : zI := ⟨33, [.slot 2, .slot 3],
  (Jz yKF [0,2,3] (Jz yKS [2,3,4] (.seq (Jz yMk [2,3,4,12] (.cond (.t 12) (Jz yJk [2,3] .ret) .skip)) (Jz yQy [2,3,4,5] (Jz yJy [2,3,4,5,6] (Jz yJu [2,3,5,6,7] (.seq (Jz yLg [2,3,5,6,18] (.block 0 (.rangeF (.t 18) [19] (.reg yJZ [5,6,8]) (.block 1 (Jz yNM [5,6,8] (.reg yEH [])))))) (Jz yEy [2,3] .ret))))))))⟩
def yML : List zA := [
 Jc 6 (.bool false)]
def yNu : List zA := [
 Jm 7 1,Jm 8 0,Kc 9 .leq 7 8,Jm 10 9,Ju 11 0 10,Ju 12 2 10,Jt 13 (.bin .leq (.t 11) (.t 12)) 10,Ja 14 10 13,Jm 6 14]
def yGX : zI := ⟨15, [.slot 6],
  (Jz yML [0,1,2] (Jz yNu [6] .ret))⟩
def yQg : List zA := [
 Jc 2 (.bool false)]
def yKt : List zA := [
 Jm 3 0,
 ⟨some 4,.callp 44 [.t 3,.c (.string ⟨#[42]⟩)],none⟩,Jm 2 4]
def yGE : zI := ⟨5, [.slot 2],
  (Jz yQg [0] (Jz yKt [2] .ret))⟩
def yOp : List zA := [
 Kx 2 0,Kx 3 1,Jc 4 (.bool false)]
def yPN : List zA := [
 Jf 5 1 3,Jl 6 5,Jf 7 1 2,Jl 8 7,Jf 9 2 2,Jl 10 9,Jp 11 74 [.t 6,.t 8,.t 10],Kn 12 11,Jm 13 12,Kg 14 2 3 13,Km 15 14 13,Kg 16 3 2 13,Km 17 16 13,Kg 18 4 2 13,Km 19 18 13,
 ⟨some 20,.callp 74 [.t 15,.t 17,.t 19],(some (13,false))⟩,Jn 21 (.not (.t 20)) 13,Jr 22 13 21,Jm 23 22,Kg 24 5 2 23,Km 25 24 23,Jv 26 25 23,Kf 27 1 3 26,Kl 28 27 26,Jt 29 (.bin .rem (.t 28) (.c (.int .i64 2))) 26,Jt 30 (.bin .neq (.t 29) (.c (.int .i64 0))) 26,Jn 31 (.pick (.t 26) (.t 30) (.c (.bool false))) 23,Jr 32 23 31]
def yQr : List zA := [
 Jc 4 (.bool false)]
def yQE : List zA := [
 Jf 33 0 2,Jl 34 33]
def yPW : List zA := [
 Kb 36 .eql 34 1,Jm 35 36]
def yJF : List zA := [
 Jf 37 0 3,Jl 38 37,Jp 39 45 [.t 38],Jm 40 39,Kf 41 0 3 40,Kl 42 41 40,
 ⟨some 43,.callp 76 [.t 42],(some (40,true))⟩,Jt 44 (.not (.t 43)) 40,Ja 45 40 44,Jm 4 45]
def yOA : List zA := [
 Kb 47 .eql 34 2,Jm 46 47]
def yIG : List zA := [
 Jf 48 0 3,Jl 49 48,Jp 50 45 [.t 49],Jm 4 50]
def yMx : List zA := [
 Kb 52 .eql 34 3,Jm 51 52]
def yNU : List zA := [
 Jf 53 0 3,Jl 54 53,Jp 55 91 [.t 54],Jm 4 55]
def zWL : List zA := [
 Jf 56 0 3,Jl 57 56,Js 58 (.bin .eql (.t 57) (.c (.string ⟨#[]⟩))),Jm 4 58]
def yIn : zI := ⟨59, [.slot 4],
  (Jz yOp [2,3] (.seq (Jz yPN [2,3,32] (.cond (.t 32) (Jz yQr [4] .ret) .skip)) (.seq (Jz yQE [3,34] (.block 0 (Jz yPW [3,34,35] (.cond (.t 35) (Jz yJF [4] .ret) (Jz yOA [3,34,46] (.cond (.t 46) (Jz yIG [4] .ret) (Jz yMx [3,51] (.cond (.t 51) (Jz yNU [4] .ret) .skip)))))))) (Jz zWL [4] .ret))))⟩
def yMw : List zA := [
 Kx 2 0,Kx 3 1,Jc 4 (.int .i64 0)]
def yLX : List yU := [
 ⟨0,Jf 5 0 2,[]⟩,
 ⟨1,Jl 6 5,[]⟩,
 ⟨2,Jf 7 0 3,[]⟩,
 ⟨3,Jl 8 7,[]⟩,
 ⟨5,Jf 10 1 2,[]⟩,
 ⟨6,Jl 11 10,[]⟩,
 ⟨7,Jf 12 1 3,[]⟩,
 ⟨8,Jl 13 12,[]⟩,
 ⟨10,Jf 15 2 2,[]⟩,
 ⟨11,Jl 16 15,[]⟩,
 ⟨12,Jf 17 2 3,[]⟩,
 ⟨13,Jl 18 17,[]⟩,
 ⟨4,Jp 9 92 [.t 6,.t 8],[5,6,7,8,10,11,12,13]⟩,
 ⟨9,Jp 14 89 [.t 11,.t 13],[10,11,12,13]⟩,
 ⟨14,Jp 19 89 [.t 16,.t 18],[]⟩,
 ⟨15,⟨some 20,.mksl 1 3 [.int .i64 0,.int .i64 0,.int .i64 0] [(0,1,.t 9),(1,1,.t 14),(2,1,.t 19)],none⟩,[]⟩,
 ⟨16,Jp 21 93 [.t 20],[]⟩,
 ⟨17,Jm 4 21,[]⟩]
def yHh : zI := ⟨22, [.slot 4],
  (Jz yMw [2,3] (.seq (.regd yLX [4]) .ret))⟩
def yLB : List zA := [
 Jc 4 (.bool false),Jc 5 (.int .i64 0)]
def yNC : List zA := [
 Jm 6 0,Jp 7 50 [.t 6],Kn 8 7,Jm 9 8,Jv 10 1 9,
 ⟨some 11,.callp 50 [.t 10],(some (9,false))⟩,Jn 12 (.not (.t 11)) 9,Jr 13 9 12]
def yPu : List zA := [
 Jc 4 (.bool false),Jc 5 (.int .i64 11)]
def yMS : List zA := [
 Jm 14 0,Jm 15 1,Kc 16 .eql 14 15,Jm 17 16,Jv 18 1 17,Jn 19 (.bin .eql (.t 18) (.c (.string ⟨#[46]⟩))) 17,Jr 20 17 19]
def yKP : List zA := [
 Jc 4 (.bool true),Jc 5 (.int .i64 0)]
def yNl : List zA := [
 Jm 21 0,Js 22 (.len true (.t 21)),Jm 23 1,Js 24 (.len true (.t 23)),Kc 25 .gtr 22 24,Jm 26 25,Ju 27 0 26,Ju 28 1 26,
 ⟨some 29,.callp 94 [.t 27,.t 28],(some (26,true))⟩,Ja 30 26 29,Jm 31 30,Ju 32 0 31,Ju 33 0 31,Jt 34 (.len true (.t 33)) 31,Ju 35 1 31,Jt 36 (.len true (.t 35)) 31,Jt 37 (.bin .sub (.t 34) (.t 36)) 31,Jt 38 (.bin .sub (.t 37) (.c (.int .i64 1))) 31,Jt 39 (.idxs (.t 32) (.t 38)) 31,Jt 40 (.bin .eql (.t 39) (.c (.int .u8 46))) 31,Ja 41 31 40,Jm 4 41,Jc 5 (.int .i64 0)]
def yHS : zI := ⟨42, [.slot 4, .slot 5],
  (Jz yLB [0,1] (.seq (Jz yNC [0,1,13] (.cond (.t 13) (Jz yPu [4,5] .ret) .skip)) (.seq (Jz yMS [0,1,20] (.cond (.t 20) (Jz yKP [4,5] .ret) .skip)) (Jz yNl [4,5] .ret))))⟩
def yJt : List zA := [
 Jc 8 (.int .i64 0)]
def yOe : List zA := [
 Jm 11 0,Jm 12 2,Kc 13 .neq 11 12]
def yQe : List zA := [
 Jm 15 0,Jm 16 2,Jp 17 95 [.t 15,.t 16],Jm 14 17,Ke 18 0 14,Ke 19 1 14,Jm 9 18,Jm 10 19]
def yNB : List zA := [
 Jm 20 9,Jm 8 20]
def yNk : List zA := [
 Jm 21 1,Jm 22 3,Jp 23 89 [.t 21,.t 22],Jm 8 23]
def yHa : zI := ⟨24, [.slot 8],
  (Jz yJt [0,1,2,3] (.seq (Jz yOe [0,1,2,3,13] (.cond (.t 13) (Jz yQe [9] (Jz yNB [8] .ret)) .skip)) (Jz yNk [8] .ret)))⟩
def yLf : List zA := [
 Kx 2 0,Kx 3 1,Jc 4 (.int .i64 0),Jc 5 (.bool false)]
def yJS : List zA := [
 Jf 6 0 2,Jf 7 1 6,Jl 8 7,Jk 9 2 3,Jp 10 97 [.t 8,.t 9,.f 96],Ke 11 0 10,Ke 12 1 10,Jm 4 11,Jm 5 12]
def yIm : zI := ⟨13, [.slot 4, .slot 5],
  (Jz yLf [2,3] (Jz yJS [4,5] .ret))⟩
def yNY : List zA := [
 Jc 4 (.bool false)]
def yMW : List zA := [
 Jm 5 0]
def yJM : List zA := [
 Kb 7 .eql 5 3,Jm 6 7]
def yOG : List zA := [
 Kb 8 .eql 5 6,Jm 6 8]
def yKA : List zA := [
 Jm 9 1,Kn 10 9,Jm 4 10]
def yLS : List zA := [
 Kb 12 .eql 5 4,Jm 11 12]
def yQu : List zA := [
 Kb 13 .eql 5 7,Jm 11 13]
def yOy : List zA := [
 Jm 14 1,Jm 4 14]
def yJR : List zA := [
 Jc 4 (.bool true)]
def yGH : zI := ⟨15, [.slot 4],
  (Jz yNY [0,1] (.seq (Jz yMW [1,5] (.block 0 (.seq (Jz yJM [1,5,6] (.cond (.t 6) .skip (.reg yOG [1,5,6]))) (.cond (.t 6) (Jz yKA [4] .ret) (.seq (Jz yLS [1,5,11] (.cond (.t 11) .skip (.reg yQu [1,11]))) (.cond (.t 11) (Jz yOy [4] .ret) .skip)))))) (Jz yJR [4] .ret)))⟩
def yLs : List zA := [
 Jc 4 (.bool false)]
def yMV : List zA := [
 Jm 7 0,Je 8 7,Kb 9 .gtr 8 6]
def yJX : List zA := [
 Jc 4 (.bool false)]
def yLd : List zA := [
 Jm 10 0,Je 11 10,Jc 12 (.int .i64 0)]
def yJE : List zA := [
 Kc 13 .lss 12 11]
def yNg : List zA := [
 Jm 14 12,Ji 15 6 10 12,Jk 16 6 15,Js 6 (.new [.string ⟨#[]⟩,.int .i64 0,.int .i64 0,.int .i64 0,.int .i64 0,.int .u64 0]),Jm 5 14,Jw 6 6 16]
def yOq : List zA := [
 Jf 17 0 6,Jl 18 17,Jm 19 1,Kc 20 .neq 18 19,Jm 21 20,Kg 22 1 6 21,Km 23 22 21,Jn 24 (.bin .lss (.t 23) (.c (.int .i64 1))) 21,Jr 25 21 24,Jm 26 25,Kg 27 1 6 26,Km 28 27 26,Jn 29 (.bin .gtr (.t 28) (.c (.int .i64 1000000))) 26,Jr 30 26 29,Jm 31 30,Kg 32 2 6 31,Km 33 32 31,Jn 34 (.bin .lss (.t 33) (.c (.int .i64 1))) 31,Jr 35 31 34,Jm 36 35,Kg 37 2 6 36,Km 38 37 36,Jn 39 (.bin .gtr (.t 38) (.c (.int .i64 3))) 36,Jr 40 36 39]
def yMe : List zA := [
 Jc 4 (.bool false)]
def yKz : List zA := [
 Jf 41 3 6,Jl 42 41,Kb 43 .lss 42 0,Jm 44 43,Kg 45 3 6 44,Km 46 45 44,Kg 47 4 6 44,Km 48 47 44,Jn 49 (.bin .gtr (.t 46) (.t 48)) 44,Jr 50 44 49,Jm 51 50,Kg 52 4 6 51,Km 53 52 51,Jn 54 (.bin .gtr (.t 53) (.c (.int .i64 20000000))) 51,Jr 55 51 54]
def yKv : List zA := [
 Jc 4 (.bool false)]
def zVl : List yU := [
 ⟨0,Jm 56 5,[]⟩,
 ⟨1,Kb 57 .gtr 56 0,[]⟩,
 ⟨2,Jm 58 57,[]⟩,
 ⟨3,Kf 59 3 6 58,[]⟩,
 ⟨4,Kl 60 59 58,[]⟩,
 ⟨5,Ju 61 0 58,[]⟩,
 ⟨6,Jt 62 (.idx 6 (.t 61) (.c (.int .i64 0))) 58,[]⟩,
 ⟨7,Kf 63 3 62 58,[]⟩,
 ⟨8,Kl 64 63 58,[]⟩,
 ⟨9,Jt 65 (.bin .neq (.t 60) (.t 64)) 58,[]⟩,
 ⟨10,Ju 66 65 58,[]⟩,
 ⟨11,Kg 67 4 6 66,[]⟩,
 ⟨12,Km 68 67 66,[]⟩,
 ⟨13,Jv 69 0 66,[]⟩,
 ⟨14,Jn 70 (.idx 6 (.t 69) (.c (.int .i64 0))) 66,[]⟩,
 ⟨15,Kg 71 4 70 66,[]⟩,
 ⟨16,Km 72 71 66,[]⟩,
 ⟨17,Jn 73 (.bin .neq (.t 68) (.t 72)) 66,[]⟩,
 ⟨18,Jt 74 (.pick (.t 66) (.c (.bool true)) (.t 73)) 58,[]⟩,
 ⟨19,Ju 75 74 58,[]⟩,
 ⟨20,Kg 76 1 6 75,[]⟩,
 ⟨21,Km 77 76 75,[]⟩,
 ⟨22,Jv 78 0 75,[]⟩,
 ⟨23,Jv 79 5 75,[]⟩,
 ⟨24,Jn 80 (.bin .sub (.t 79) (.c (.int .i64 1))) 75,[]⟩,
 ⟨25,Jn 81 (.idx 6 (.t 78) (.t 80)) 75,[]⟩,
 ⟨26,Kg 82 1 81 75,[]⟩,
 ⟨27,Km 83 82 75,[]⟩,
 ⟨28,Jn 84 (.bin .leq (.t 77) (.t 83)) 75,[]⟩,
 ⟨29,Jt 85 (.pick (.t 75) (.c (.bool true)) (.t 84)) 58,[]⟩,
 ⟨30,Ja 86 58 85,[]⟩]
def yCQ : List zA := [
 Jc 4 (.bool false)]
def yBk : List zA := [
 Kb 87 .add 12 1,Jm 12 87]
def yBX : List zA := [
 Jc 4 (.bool true)]
def yHq : zI := ⟨88, [.slot 4],
  (Jz yLs [0,1] (.seq (Jz yMV [0,1,9] (.cond (.t 9) (Jz yJX [4] .ret) .skip)) (.seq (Jz yLd [0,1,10,11,12] (.block 0 (.loop [0,1,10,11,12] (Jz yJE [0,1,10,11,12,13] (.seq (.cond (.t 13) .skip (.exit 0)) (.seq (.block 1 (Jz yNg [0,1,5,6,10,11,12] (.seq (Jz yOq [0,1,5,6,10,11,12,40] (.cond (.t 40) (Jz yMe [4] .ret) .skip)) (.seq (Jz yKz [0,1,5,6,10,11,12,55] (.cond (.t 55) (Jz yKv [4] .ret) .skip)) (.seq (.regd zVl [0,1,10,11,12,86]) (.cond (.t 86) (Jz yCQ [4] .ret) .skip)))))) (.reg yBk [0,1,10,11,12]))))))) (Jz yBX [4] .ret))))⟩
def yIZ : List zA := [
 Jc 2 (.bool false)]
def yMT : List zA := [
 Jm 3 0,Jm 4 0,Kc 5 .neq 3 4,Jm 2 5]
def yIu : zI := ⟨6, [.slot 2],
  (Jz yIZ [0] (Jz yMT [2] .ret))⟩
def yPF : List zA := [
 Jc 4 (.int .i64 0)]
def yLb : List zA := [
 Jm 5 0,Jm 6 1,Jp 7 98 [.t 5,.t 6],Jm 4 7]
def yGA : zI := ⟨8, [.slot 4],
  (Jz yPF [0,1] (Jz yLb [4] .ret))⟩
def yMu : List zA := [
 Jc 2 (.bool false)]
def yKc : List zA := [
 Jm 5 0,Js 6 (.len true (.t 5)),Jp 7 74 [.t 6,.c (.int .i64 1),.c (.int .i64 40)],Kn 8 7,Jm 9 8,Jv 10 0 9,Jn 11 (.idxs (.t 10) (.c (.int .i64 0))) 9,Jn 12 (.bin .eql (.t 11) (.c (.int .u8 32))) 9,Jr 13 9 12,Jm 14 13,Jv 15 0 14,Jv 16 0 14,Jn 17 (.len true (.t 16)) 14,Jn 18 (.bin .sub (.t 17) (.c (.int .i64 1))) 14,Jn 19 (.idxs (.t 15) (.t 18)) 14,Jn 20 (.bin .eql (.t 19) (.c (.int .u8 32))) 14,Jr 21 14 20]
def yJL : List zA := [
 Jc 2 (.bool false)]
def yLu : List zA := [
 Jm 22 0,Js 23 (.len true (.t 22)),Jc 24 (.int .i64 0)]
def yPK : List zA := [
 Kc 25 .lss 24 23]
def yMI : List zA := [
 Jm 26 24,Jm 3 26]
def yNG : List zA := [
 Jm 27 0,Jm 28 3,Js 29 (.idxs (.t 27) (.t 28)),Jm 4 29]
def yKo : List zA := [
 Jm 30 4,Jp 31 99 [.t 30,.c (.int .u8 97),.c (.int .u8 122)],Kn 32 31,Jm 33 32,Ju 34 4 33,
 ⟨some 35,.callp 99 [.t 34,.c (.int .u8 48),.c (.int .u8 57)],(some (33,true))⟩,Jt 36 (.not (.t 35)) 33,Ja 37 33 36,Jm 38 37,Ju 39 4 38,Jt 40 (.bin .neq (.t 39) (.c (.int .u8 32))) 38,Ja 41 38 40]
def yKp : List zA := [
 Jc 2 (.bool false)]
def yJI : List zA := [
 Kb 42 .add 24 1,Jm 24 42]
def zZj : List zA := [
 Jc 2 (.bool true)]
def yIp : zI := ⟨43, [.slot 2],
  (Jz yMu [0] (.seq (Jz yKc [0,21] (.cond (.t 21) (Jz yJL [2] .ret) .skip)) (.seq (Jz yLu [0,23,24] (.block 0 (.loop [0,23,24] (Jz yPK [0,23,24,25] (.seq (.cond (.t 25) .skip (.exit 0)) (.seq (.block 1 (Jz yMI [0,3,23,24] (Jz yNG [0,4,23,24] (Jz yKo [0,23,24,41] (.cond (.t 41) (Jz yKp [2] .ret) .skip))))) (.reg yJI [0,23,24]))))))) (Jz zZj [2] .ret))))⟩
def yKh : List zA := [
 Jc 2 (.int .i64 0)]
def yNr : List zA := [
 Jc 3 (.int .i64 0)]
def yMO : List zA := [
 Jm 6 0,Je 7 6,Jc 8 (.int .i64 0)]
def yOX : List zA := [
 Kc 9 .lss 8 7]
def yIU : List zA := [
 Ji 10 1 6 8,Jl 11 10,Jm 5 11]
def yJQ : List zA := [
 Jm 12 5,Jm 13 3,Kc 14 .neq 12 13]
def yLh : List zA := [
 Jm 15 5,Jm 2 15]
def yOt : List zA := [
 Kb 16 .add 8 1,Jm 8 16]
def yQC : List zA := [
 Jm 17 3,Jm 2 17]
def yIx : zI := ⟨18, [.slot 2],
  (Jz yKh [0] (Jz yNr [0,3] (.seq (Jz yMO [3,6,7,8] (.block 0 (.loop [3,6,7,8] (Jz yOX [3,6,7,8,9] (.seq (.cond (.t 9) .skip (.exit 0)) (.seq (.block 1 (Jz yIU [3,5,6,7,8] (Jz yJQ [3,5,6,7,8,14] (.cond (.t 14) (Jz yLh [2] .ret) .skip)))) (.reg yOt [3,6,7,8]))))))) (Jz yQC [2] .ret))))⟩
def yNs : List zA := [
 Jc 4 (.int .i64 0)]
def yOo : List zA := [
 Jm 7 0,Jp 8 100 [.t 7],Jm 5 8]
def yKj : List zA := [
 Jm 9 1,Jp 10 100 [.t 9],Jm 6 10]
def yPe : List zA := [
 Jm 11 5]
def yNK : List zA := [
 Jm 12 6]
def yOw : List zA := [
 Jc 4 (.int .i64 0)]
def yQo : List zA := [
 Jc 4 (.int .i64 (-1))]
def yMd : List zA := [
 Jm 13 6]
def yPr : List zA := [
 Jc 4 (.int .i64 1)]
def yJU : List zA := [
 Jm 14 0,Jm 15 1,Kc 16 .lss 14 15]
def zUc : List zA := [
 Jc 4 (.int .i64 (-1))]
def zZW : List zA := [
 Jm 17 0,Jm 18 1,Kc 19 .gtr 17 18]
def zYF : List zA := [
 Jc 4 (.int .i64 1)]
def zZP : List zA := [
 Jc 4 (.int .i64 0)]
def yIj : zI := ⟨20, [.slot 4],
  (Jz yNs [0,1] (Jz yOo [0,1,5] (Jz yKj [0,1,5,6] (.seq (Jz yPe [0,1,6,11] (.cond (.t 11) (.seq (Jz yNK [12] (.cond (.t 12) (Jz yOw [4] .ret) .skip)) (Jz yQo [4] .ret)) .skip)) (.seq (Jz yMd [0,1,13] (.cond (.t 13) (Jz yPr [4] .ret) .skip)) (.seq (Jz yJU [0,1,16] (.cond (.t 16) (Jz zUc [4] .ret) .skip)) (.seq (Jz zZW [19] (.cond (.t 19) (Jz zYF [4] .ret) .skip)) (Jz zZP [4] .ret))))))))⟩
def yPy : List zA := [
 Jc 4 (.bool false)]
def yMa : List zA := [
 Jm 5 0,Jm 6 1,Jp 7 101 [.t 5,.t 6],Jm 4 7]
def yIC : zI := ⟨8, [.slot 4],
  (Jz yPy [0,1] (Jz yMa [4] .ret))⟩
def yKm : List zA := [
 ⟨some 4,.newH [.int .i64 0],none⟩,
 ⟨some 5,.newH [.int .i64 0],none⟩]
def yIK : List zA := [
 Jm 14 0,Jm 15 1,Jm 6 14,Jm 7 15]
def yJG : List zA := [
 Jm 16 6,Jp 17 50 [.t 16],Kn 18 17,Jm 19 18,Jv 20 7 19,
 ⟨some 21,.callp 50 [.t 20],(some (19,false))⟩,Jn 22 (.not (.t 21)) 19,Jr 23 19 22]
def yMZ : List zA := [
 ⟨none,.st 1 (.t 4) (.c (.int .i64 0)),none⟩,
 ⟨none,.st 1 (.t 5) (.c (.int .i64 11)),none⟩]
def yNo : List zA := [
 Jm 24 6,Jm 25 7,Kc 26 .eql 24 25]
def yPs : List zA := [
 ⟨none,.st 1 (.t 4) (.c (.int .i64 0)),none⟩,
 ⟨none,.st 1 (.t 5) (.c (.int .i64 0)),none⟩]
def yOi : List zA := [
 Jm 27 7,Jx 28 102 [.t 27],
 ⟨some 8,.newH [.nilFunc],none⟩,Jw 1 8 28]
def yPS : List zA := [
 Jm 29 6,Js 30 (.mkf 65 [.t 29] []),Jm 9 30]
def yKC : List zA := [
 Jm 31 9]
def yPp : List zA := [
 Jm 10 32]
def zYX : List zA := [
 Jl 34 8,
 ⟨some 35,.callv (.t 34) [],none⟩,Jm 33 35,Ke 36 0 33,Ke 37 1 33,Jm 11 36,Jm 12 37]
def yFb : List zA := [
 Jm 38 12,Kn 39 38]
def yEf : List zA := [
 ⟨none,.st 1 (.t 4) (.c (.int .i64 1)),none⟩,
 ⟨none,.st 1 (.t 5) (.c (.int .i64 0)),none⟩]
def zUy : List zA := [
 Jm 40 10,Jm 41 11,Jp 42 103 [.t 40,.t 41],Jm 13 42]
def zUH : List zA := [
 Jm 43 13,Kb 44 .neq 43 0]
def zVO : List zA := [
 Jm 45 13,Jw 1 4 45,
 ⟨none,.st 1 (.t 5) (.c (.int .i64 0)),none⟩]
def zZx : List zA := [
 ⟨none,.st 1 (.t 4) (.c (.int .i64 (-1))),none⟩,
 ⟨none,.st 1 (.t 5) (.c (.int .i64 0)),none⟩]
def yHx : zI := ⟨46, [.cell 4 none, .cell 5 none],
  (Jz yKm [0,1,4,5] (Jz yIK [4,5,6,7] (.seq (Jz yJG [4,5,6,7,23] (.cond (.t 23) (Jz yMZ [4,5] .ret) .skip)) (.seq (Jz yNo [4,5,6,7,26] (.cond (.t 26) (Jz yPs [4,5] .ret) .skip)) (Jz yOi [4,5,6,8] (Jz yPS [4,5,8,9] (.seq (Jz yKC [4,5,8,31] (.block 0 (.rangeF (.t 31) [32] (.reg yPp [4,5,8,10]) (.block 1 (Jz zYX [4,5,10,11,12] (.seq (Jz yFb [4,5,10,11,39] (.cond (.t 39) (Jz yEf [] .ret) .skip)) (Jz zUy [4,5,13] (Jz zUH [4,5,13,44] (.cond (.t 44) (Jz zVO [] .ret) .skip))))))))) (Jz zZx [4,5] .ret))))))))⟩
def yJb : List zA := [
 Kx 4 1,Jc 6 (.int .i64 0),Jc 7 (.bool false)]
def yNv : List zA := [
 Jm 12 0,Je 13 12,Jm 8 13]
def yLN : List zA := [
 Jm 14 8,Jc 9 (.int .i64 0),Jm 10 14]
def yLR : List zA := [
 Jm 15 9,Jm 16 10,Kc 17 .lss 15 16]
def yPU : List zA := [
 Jm 18 9,Jm 19 10,Kc 20 .add 18 19,Js 21 (.cvi .u64 (.t 20)),Js 22 (.bin .shr (.t 21) (.c (.int .u64 1))),Js 23 (.cvi .i64 (.t 22)),Jm 11 23]
def yMo : List yU := [
 ⟨0,Jm 24 2,[]⟩,
 ⟨1,Jm 25 0,[]⟩,
 ⟨2,Jm 26 11,[]⟩,
 ⟨3,Ji 27 5 25 26,[]⟩,
 ⟨4,Jk 28 5 27,[]⟩,
 ⟨5,Jk 29 2 4,[]⟩,
 ⟨6,⟨some 30,.callv (.t 24) [.t 28,.t 29],none⟩,[]⟩,
 ⟨7,Kb 31 .lss 30 0,[]⟩]
def yKw : List zA := [
 Jm 32 11,Kb 33 .add 32 1,Jm 9 33]
def yIR : List zA := [
 Jm 34 11,Jm 10 34]
def yJi : List yU := [
 ⟨0,Jm 35 9,[]⟩,
 ⟨1,Jm 36 9,[]⟩,
 ⟨2,Jm 37 8,[]⟩,
 ⟨3,Kc 38 .lss 36 37,[]⟩,
 ⟨4,Jm 39 38,[]⟩,
 ⟨5,Ju 40 2 39,[]⟩,
 ⟨6,Ju 41 0 39,[]⟩,
 ⟨7,Ju 42 9 39,[]⟩,
 ⟨8,Jt 43 (.idx 5 (.t 41) (.t 42)) 39,[]⟩,
 ⟨9,Jt 44 (.ld (some 5) (.t 43)) 39,[]⟩,
 ⟨10,Jt 45 (.ld (some 2) (.t 4)) 39,[]⟩,
 ⟨11,⟨some 46,.callv (.t 40) [.t 44,.t 45],(some (39,true))⟩,[0]⟩,
 ⟨12,Jt 47 (.bin .eql (.t 46) (.c (.int .i64 0))) 39,[]⟩,
 ⟨13,Ja 48 39 47,[]⟩,
 ⟨14,Jm 6 35,[]⟩,
 ⟨15,Jm 7 48,[]⟩]
def yHg : zI := ⟨49, [.slot 6, .slot 7],
  (Jz yJb [0,2,4] (Jz yNv [0,2,4,8] (Jz yLN [0,2,4,8,9,10] (.seq (.block 0 (.loop [0,2,4,8,9,10] (.seq (Jz yLR [0,2,4,8,9,10,17] (.cond (.t 17) .skip (.exit 0))) (.block 1 (Jz yPU [0,2,4,8,9,10,11] (.seq (.regd yMo [0,2,4,8,9,10,11,31]) (.cond (.t 31) (.reg yKw [0,2,4,8,9,10]) (.reg yIR [0,2,4,8,9,10])))))))) (.seq (.regd yJi [6,7]) .ret)))))⟩
def yNy : List zA := [
 Kx 2 0,Kx 3 1,Jc 4 (.int .i64 0)]
def yNO : List zA := [
 Jf 5 0 2,Jf 6 0 5,Jl 7 6,Jf 8 0 2,Jf 9 1 8,Jl 10 9,Jf 11 0 3,Jl 12 11,Jf 13 1 3,Jl 14 13,Jp 15 81 [.t 7,.t 10,.t 12,.t 14],Jm 4 15]
def yGO : zI := ⟨16, [.slot 4],
  (Jz yNy [2,3] (Jz yNO [4] .ret))⟩
def yPt : List zA := [
 Jc 6 (.bool false)]
def yMP : List zA := [
 Jm 7 1,Jm 8 0,Kc 9 .leq 7 8,Jm 10 9,Ju 11 0 10,Ju 12 2 10,Jt 13 (.bin .leq (.t 11) (.t 12)) 10,Ja 14 10 13,Jm 6 14]
def yGY : zI := ⟨15, [.slot 6],
  (Jz yPt [0,1,2] (Jz yMP [6] .ret))⟩
def yBl : List zA := [
 Jc 2 (.bool false)]
def zYp : List zA := [
 Jm 3 0,Jm 4 0,Kc 5 .neq 3 4,Jm 2 5]
def zLK : zI := ⟨6, [.slot 2],
  (Jz yBl [0] (Jz zYp [2] .ret))⟩
def zXd : List zA := [
 Jc 4 (.bool false)]
def zZr : List zA := [
 Jm 5 0,Js 6 (.len true (.t 5)),Jm 7 1,Js 8 (.len true (.t 7)),Kc 9 .geq 6 8,Jm 10 9,Ju 11 0 10,Ju 12 0 10,Jt 13 (.len true (.t 12)) 10,Ju 14 1 10,Jt 15 (.len true (.t 14)) 10,Jt 16 (.bin .sub (.t 13) (.t 15)) 10,Jt 17 (.slcs (.t 11) (some (.t 16)) none) 10,Ju 18 1 10,Jt 19 (.bin .eql (.t 17) (.t 18)) 10,Ja 20 10 19,Jm 4 20]
def zMN : zI := ⟨21, [.slot 4],
  (Jz zXd [0,1] (Jz zZr [4] .ret))⟩
def yBH : List zA := [
 Jc 2 (.nilFunc)]
def zWc : List zA := [
 Jm 5 0,Jm 6 0,Js 7 (.bin .neq (.t 6) (.c (.string ⟨#[46]⟩))),
 ⟨some 3,.newH [.string ⟨#[]⟩],none⟩,
 ⟨some 4,.newH [.bool false],none⟩,Jw 1 3 5,Jw 1 4 7]
def zWG : List zA := [
 Js 8 (.mkf 104 [] [.t 4,.t 3]),Jm 2 8]
def zME : zI := ⟨9, [.slot 2],
  (Jz yBH [0] (Jz zWc [3,4] (Jz zWG [2] .ret)))⟩
def zUD : List zA := [
 Jc 4 (.int .i64 0)]
def zXT : List zA := [
 Jm 5 0,Jm 6 1,Jp 7 105 [.t 5,.t 6],Jm 4 7]
def zMQ : zI := ⟨8, [.slot 4],
  (Jz zUD [0,1] (Jz zXT [4] .ret))⟩
def yCT : List zA := [
 Jc 2 (.string ⟨#[]⟩),Jc 3 (.bool false)]
def zYV : List zA := [
 Jl 6 0,Kn 7 6]
def yAu : List zA := [
 Jc 2 (.string ⟨#[]⟩),Jc 3 (.bool false)]
def yCM : List zA := [
 Jl 8 1,Jp 9 90 [.t 8,.c (.int .u8 46)],Jm 4 9]
def zZw : List zA := [
 Jl 10 1,Jm 11 4,Kb 12 .add 11 1,Js 13 (.slcs (.t 10) (some (.t 12)) none),Jm 5 13]
def zYJ : List zA := [
 Jm 14 4,Kb 15 .lss 14 0]
def yCv : List zA := [
 ⟨none,.st 1 (.t 0) (.c (.bool false)),none⟩]
def zZX : List zA := [
 Jl 16 1,Jm 17 4,Js 18 (.slcs (.t 16) none (some (.t 17))),Jw 1 1 18]
def yBu : List zA := [
 Jm 19 5,Jm 2 19,Jc 3 (.bool true)]
def zLB : zI := ⟨20, [.slot 2, .slot 3],
  (Jz yCT [0,1] (.seq (Jz zYV [0,1,7] (.cond (.t 7) (Jz yAu [2,3] .ret) .skip)) (Jz yCM [0,1,4] (Jz zZw [0,1,4,5] (.seq (Jz zYJ [0,1,4,5,15] (.cond (.t 15) (.reg yCv [5]) (.reg zZX [5]))) (Jz yBu [2,3] .ret))))))⟩
end Go.SL

import Derived.Test.YthedjffolgeomaaGreatDoorMNplL
namespace Go.SL
open Go
def ySN : List zA := [
 Kx 2 0,Kx 3 1,Jc 4 (.bool false)]
def yTi : List zA := [
 Jk 8 7 2,Jk 9 7 3,Jp 10 24 [.t 8,.t 9],Kn 11 10,Jm 12 11,Kg 13 1 2 12,Km 14 13 12,Jn 15 (.len false (.t 14)) 12,Kg 16 1 3 12,Km 17 16 12,Jn 18 (.len false (.t 17)) 12,Jn 19 (.bin .neq (.t 15) (.t 18)) 12,Jr 20 12 19]
def yST : List zA := [
 Jc 4 (.bool false)]
def yTt : List zA := [
 Jc 5 (.int .i64 0)]
def yTr : List zA := [
 Jm 21 5,Jf 22 1 2,Jl 23 22,Je 24 23,Kc 25 .lss 21 24]
def ySV : List zA := [
 Jc 6 (.bool false)]
def yTb : List zA := [
 Jc 7 (.int .i64 0)]
def ySY : List zA := [
 Jm 28 7,Jf 29 1 3,Jl 30 29,Je 31 30,Kc 32 .lss 28 31]
def yIU : List yS := [
 ⟨0,Jm 35 6,[]⟩,
 ⟨1,Jm 36 35,[]⟩,
 ⟨2,Kg 37 1 2 36,[]⟩,
 ⟨3,Km 38 37 36,[]⟩,
 ⟨4,Jv 39 5 36,[]⟩,
 ⟨5,Jn 40 (.idx 3 (.t 38) (.t 39)) 36,[]⟩,
 ⟨6,Jn 41 (.ld (some 3) (.t 40)) 36,[]⟩,
 ⟨7,Kg 42 1 3 36,[]⟩,
 ⟨8,Km 43 42 36,[]⟩,
 ⟨9,Jv 44 7 36,[]⟩,
 ⟨10,Jn 45 (.idx 3 (.t 43) (.t 44)) 36,[]⟩,
 ⟨11,Jn 46 (.ld (some 3) (.t 45)) 36,[]⟩,
 ⟨12,⟨some 47,.callp 25 [.t 41,.t 46],(some (36,false))⟩,[]⟩,
 ⟨13,Jv 48 47 36,[]⟩,
 ⟨14,Kf 49 1 2 48,[]⟩,
 ⟨15,Kl 50 49 48,[]⟩,
 ⟨16,Ju 51 5 48,[]⟩,
 ⟨17,Jt 52 (.idx 3 (.t 50) (.t 51)) 48,[]⟩,
 ⟨18,Kf 53 1 52 48,[]⟩,
 ⟨19,Jt 54 (.ld (some 2) (.t 53)) 48,[]⟩,
 ⟨20,Kf 55 1 3 48,[]⟩,
 ⟨21,Kl 56 55 48,[]⟩,
 ⟨22,Ju 57 7 48,[]⟩,
 ⟨23,Jt 58 (.idx 3 (.t 56) (.t 57)) 48,[]⟩,
 ⟨24,Kf 59 1 58 48,[]⟩,
 ⟨25,Jt 60 (.ld (some 2) (.t 59)) 48,[]⟩,
 ⟨26,⟨some 61,.callp 9 [.t 54,.t 60],(some (48,true))⟩,[]⟩,
 ⟨27,Jn 62 (.pick (.t 48) (.t 61) (.c (.bool false))) 36,[]⟩,
 ⟨28,Jr 63 36 62,[]⟩]
def yTl : List zA := [
 Jm 33 7,Kb 34 .add 33 1,Jm 7 34]
def yLE : List zA := [
 Jm 64 6,Kn 65 64]
def yJO : List zA := [
 Jc 4 (.bool false)]
def ySZ : List zA := [
 Jm 26 5,Kb 27 .add 26 1,Jm 5 27]
def yNO : List zA := [
 Jc 4 (.bool true)]
def cf5 : zJ := ⟨66, [.slot 4],
  (Jz ySN [2,3] (.seq (Jz yTi [2,3,20] (.cond (.t 20) (Jz yST [4] .ret) .skip)) (.seq (Jz yTt [2,3,5] (.block 0 (.loop [2,3,5] (.seq (Jz yTr [2,3,5,25] (.cond (.t 25) .skip (.exit 0))) (.seq (.block 1 (Jz ySV [2,3,5,6] (.seq (Jz yTb [2,3,5,6,7] (.block 2 (.loop [2,3,5,6,7] (.seq (Jz ySY [2,3,5,6,7,32] (.cond (.t 32) .skip (.exit 2))) (.seq (.block 3 (.regl yIU [2,3,5,7,63] ⟨some 6,.sim (.mov (.t 63)),none⟩ [2,3,5,6,7])) (.reg yTl [2,3,5,6,7])))))) (Jz yLE [2,3,5,65] (.cond (.t 65) (Jz yJO [4] .ret) .skip))))) (.reg ySZ [2,3,5])))))) (Jz yNO [4] .ret))))⟩
def yTg : List zA := [
 Kx 2 0,Kx 3 1,Jc 4 (.bool false)]
def yTv : List zA := [
 Jf 5 0 2,Jl 6 5,Jf 7 0 3,Jl 8 7,Kc 9 .eql 6 8,Jm 10 9,Kf 11 1 2 10,Kl 12 11 10,Kf 13 1 3 10,Kl 14 13 10,
 ⟨some 15,.callp 27 [.t 12,.t 14],(some (10,true))⟩,Ja 16 10 15,Jm 4 16]
def cf9 : zJ := ⟨17, [.slot 4],
  (Jz yTg [2,3] (Jz yTv [4] .ret))⟩
def yLH : List zA := [
 Kx 1 0,Jc 2 (.bool false)]
def yKG : List zA := [
 Jc 3 (.int .i64 0)]
def yOP : List zA := [
 Jm 4 3,Jf 5 1 1,Jl 6 5,Je 7 6,Kc 8 .lss 4 7,Jm 9 8,Ju 10 3 9,Jt 11 (.bin .leq (.t 10) (.c (.int .i64 100))) 9,Ja 12 9 11]
def yJP : List zA := [
 Jf 15 1 1,Jl 16 15,Jm 17 3,Ji 18 5 16 17,Jf 19 0 18,Jf 20 3 19,Jl 21 20,Je 22 21,Kb 23 .gtr 22 20,Jm 24 23,Kg 25 1 1 24,Km 26 25 24,Jv 27 3 24,Jn 28 (.idx 5 (.t 26) (.t 27)) 24,Kg 29 4 28 24,Km 30 29 24,Jn 31 (.len false (.t 30)) 24,Jn 32 (.bin .gtr (.t 31) (.c (.int .i64 20))) 24,Jr 33 24 32]
def yHR : List zA := [
 Jc 2 (.bool false)]
def yJe : List zA := [
 Jm 13 3,Kb 14 .add 13 1,Jm 3 14]
def yKB : List zA := [
 Jf 34 1 1,Jl 35 34,Je 36 35,Kb 37 .leq 36 100,Jm 2 37]
def yGo : zJ := ⟨38, [.slot 2],
  (Jz yLH [1] (.seq (Jz yKG [1,3] (.block 0 (.loop [1,3] (.seq (Jz yOP [1,3,12] (.cond (.t 12) .skip (.exit 0))) (.seq (.block 1 (Jz yJP [1,3,33] (.cond (.t 33) (Jz yHR [2] .ret) .skip))) (.reg yJe [1,3])))))) (Jz yKB [2] .ret)))⟩
def yJr : List zA := [
 Kx 1 0,Jc 2 (.bool false)]
def yPA : List zA := [
 Jf 3 0 1,Jl 4 3,Jp 5 40 [.t 4],Jm 6 5,Jt 7 (.ld (some 7) (.t 1)) 6,
 ⟨some 8,.callp 41 [.t 7],(some (6,true))⟩,Ja 9 6 8,Jm 10 9,Kf 11 2 1 10,Jt 12 (.ld (some 4) (.t 11)) 10,Kf 13 6 1 10,Kl 14 13 10,
 ⟨some 15,.callp 42 [.t 12,.t 14],(some (10,true))⟩,Ja 16 10 15,Jm 2 16]
def yFp : zJ := ⟨17, [.slot 2],
  (Jz yJr [1] (Jz yPA [2] .ret))⟩
def yMX : List zA := [
 Kx 2 0,Jc 4 (.bool false)]
def yJy : List zA := [
 Jf 9 0 2,Jl 10 9,Je 11 10,Kb 12 .gtr 11 500]
def yOw : List zA := [
 Jc 4 (.bool false)]
def yHC : List zA := [
 ⟨some 13,.mkmap none,none⟩,Jm 5 13]
def yNZ : List zA := [
 Jf 14 0 2,Jl 15 14,Je 16 15,Jc 17 (.int .i64 0)]
def yIn : List zA := [
 Kc 18 .lss 17 16]
def yQc : List zA := [
 Ji 19 3 15 17,Jk 20 3 19,Js 7 (.new [.int .i64 0,.string ⟨#[]⟩,.slice none 0 0]),Jw 3 7 20]
def yPG : List zA := [
 Jf 21 0 7,Jl 22 21,Jf 23 1 7,Jf 24 0 23,Jl 25 24,Js 26 (.bld [.int .i64 0,.string ⟨#[]⟩] [(0,1,.t 22),(1,1,.t 25)]),Js 8 (.new [.int .i64 0,.string ⟨#[]⟩]),Jw 2 8 26]
def yPl : List zA := [
 Jf 27 0 7,Jl 28 27,Kb 29 .lss 28 0,Jm 30 29,Kg 31 0 7 30,Km 32 31 30,Jv 33 1 30,Jn 34 (.bin .geq (.t 32) (.t 33)) 30,Jr 35 30 34,Jm 36 35,Jv 37 5 36,Jn 38 (.ld (some 2) (.t 8)) 36,
 ⟨some 39,.look true [.i,.s] (.bool false) false (.t 37) (.t 38),(some (36,false))⟩,Jr 40 36 39,Jm 41 40,Kg 42 1 7 41,Jn 43 (.ld (some 2) (.t 42)) 41,
 ⟨some 44,.callp 17 [.t 43],(some (41,false))⟩,Jn 45 (.not (.t 44)) 41,Jv 46 45 41,Kf 47 1 7 46,Jt 48 (.ld (some 2) (.t 47)) 46,
 ⟨some 49,.callp 43 [.t 48],(some (46,true))⟩,Jt 50 (.not (.t 49)) 46,Jn 51 (.pick (.t 46) (.t 50) (.c (.bool false))) 41,Jr 52 41 51]
def yKb : List zA := [
 Jc 4 (.bool false)]
def zYJ : List zA := [
 Jm 53 5,Jk 54 2 8,
 ⟨none,.upd true [.i,.s] (.t 53) (.t 54) (.c (.bool true)),none⟩]
def zXK : List zA := [
 Kb 55 .add 17 1,Jm 17 55]
def zWP : List zA := [
 Jc 4 (.bool true)]
def yFn : zJ := ⟨56, [.slot 4],
  (Jz yMX [1,2] (.seq (Jz yJy [1,2,12] (.cond (.t 12) (Jz yOw [4] .ret) .skip)) (Jz yHC [1,2,5] (.seq (Jz yNZ [1,5,15,16,17] (.block 0 (.loop [1,5,15,16,17] (Jz yIn [1,5,15,16,17,18] (.seq (.cond (.t 18) .skip (.exit 0)) (.seq (.block 1 (Jz yQc [1,5,7,15,16,17] (Jz yPG [1,5,7,8,15,16,17] (.seq (Jz yPl [1,5,8,15,16,17,52] (.cond (.t 52) (Jz yKb [4] .ret) .skip)) (.reg zYJ [1,5,15,16,17]))))) (.reg zXK [1,5,15,16,17]))))))) (Jz zWP [4] .ret)))))⟩
def yMM : List zA := [
 Kx 1 0,Jc 2 (.bool false)]
def yLL : List zA := [
 Jf 4 0 1,Jl 5 4,Js 6 (.bin .eql (.t 5) (.c (.string ⟨#[42]⟩))),Jm 7 6,Kg 8 0 1 7,Km 9 8 7,
 ⟨some 10,.callp 44 [.t 9,.c (.string ⟨#[42,46]⟩)],(some (7,false))⟩,Jr 11 7 10,Jm 3 11]
def yPM : List zA := [
 Jf 12 1 1,Jl 13 12,Je 14 13,Kb 15 .eql 14 0,Jm 16 15,Ju 17 3 16,Jt 18 (.not (.t 17)) 16,Ja 19 16 18,Jm 20 19,Kf 21 0 1 20,Kl 22 21 20,
 ⟨some 23,.callp 45 [.t 22],(some (20,true))⟩,Ja 24 20 23,Jm 2 24]
def yGh : zJ := ⟨25, [.slot 2],
  (Jz yMM [1] (Jz yLL [1,3] (Jz yPM [2] .ret)))⟩
def yMj : List zA := [
 Jc 2 (.slice none 0 0)]
def yMO : List zA := [
 Jm 3 0,Js 4 (.eqn false (.t 3) (.c (.slice none 0 0)))]
def yOy : List zA := [
 Jc 2 (.slice none 0 0)]
def yNi : List zA := [
 ⟨some 5,.mksl 3 0 [] [],none⟩,Jm 6 0,
 ⟨some 7,.app 3 32 [.string ⟨#[]⟩,.int .i64 0,.int .i64 0] (.t 5) (.t 6),none⟩,Jm 2 7]
def yGd : zJ := ⟨8, [.slot 2],
  (Jz yMj [0] (.seq (Jz yMO [0,4] (.cond (.t 4) (Jz yOy [2] .ret) .skip)) (Jz yNi [2] .ret)))⟩
def yMo : List zA := [
 Jc 2 (.slice none 0 0)]
def yJf : List zA := [
 Jm 3 0,Js 4 (.eqn false (.t 3) (.c (.slice none 0 0)))]
def yIb : List zA := [
 Jc 2 (.slice none 0 0)]
def yMZ : List zA := [
 ⟨some 5,.mksl 3 0 [] [],none⟩,Jm 6 0,
 ⟨some 7,.app 3 32 [.string ⟨#[]⟩,.int .i64 0,.int .i64 0] (.t 5) (.t 6),none⟩,Jm 2 7]
def yFR : zJ := ⟨8, [.slot 2],
  (Jz yMo [0] (.seq (Jz yJf [0,4] (.cond (.t 4) (Jz yIb [2] .ret) .skip)) (Jz yMZ [2] .ret)))⟩
def yOJ : List zA := [
 Jc 2 (.slice none 0 0)]
def yPZ : List zA := [
 Jm 3 0,Js 4 (.eqn false (.t 3) (.c (.slice none 0 0)))]
def yJV : List zA := [
 Jc 2 (.slice none 0 0)]
def yJI : List zA := [
 ⟨some 5,.mksl 1 0 [] [],none⟩,Jm 6 0,
 ⟨some 7,.app 1 8 [.int .i64 0] (.t 5) (.t 6),none⟩,Jm 2 7]
def yGe : zJ := ⟨8, [.slot 2],
  (Jz yOJ [0] (.seq (Jz yPZ [0,4] (.cond (.t 4) (Jz yJV [2] .ret) .skip)) (Jz yJI [2] .ret)))⟩
def yNr : List zA := [
 Kx 2 0,Kx 3 1,Jc 4 (.bool false)]
def yPk : List zA := [
 Jf 7 0 2,Jl 8 7,Je 9 8,Jf 10 0 3,Jl 11 10,Je 12 11,Kc 13 .neq 9 12,Jm 14 13,Kg 15 6 2 14,Km 16 15 14,Jn 17 (.len false (.t 16)) 14,Kg 18 6 3 14,Km 19 18 14,Jn 20 (.len false (.t 19)) 14,Jn 21 (.bin .neq (.t 17) (.t 20)) 14,Jr 22 14 21,Jm 23 22,Kg 24 2 2 23,Jn 25 (.ld (some 4) (.t 24)) 23,Kg 26 2 3 23,Jn 27 (.ld (some 4) (.t 26)) 23,
 ⟨some 28,.callp 46 [.t 25,.t 27],(some (23,false))⟩,Jn 29 (.not (.t 28)) 23,Jr 30 23 29]
def yKs : List zA := [
 Jc 4 (.bool false)]
def yJH : List zA := [
 Jc 5 (.int .i64 0)]
def yJL : List zA := [
 Jm 31 5,Jf 32 0 2,Jl 33 32,Je 34 33,Kc 35 .lss 31 34]
def yPn : List yS := [
 ⟨0,Jf 38 0 2,[]⟩,
 ⟨1,Jl 39 38,[]⟩,
 ⟨2,Jm 40 5,[]⟩,
 ⟨3,Ji 41 3 39 40,[]⟩,
 ⟨4,Jk 42 3 41,[]⟩,
 ⟨5,Jf 43 0 3,[]⟩,
 ⟨6,Jl 44 43,[]⟩,
 ⟨7,Jm 45 5,[]⟩,
 ⟨8,Ji 46 3 44 45,[]⟩,
 ⟨9,Jk 47 3 46,[]⟩,
 ⟨10,Js 48 (.eqs true [.s,.i,.i] (.t 42) (.t 47)),[]⟩]
def yIz : List zA := [
 Jc 4 (.bool false)]
def yLy : List zA := [
 Jm 36 5,Kb 37 .add 36 1,Jm 5 37]
def yHI : List zA := [
 Jc 6 (.int .i64 0)]
def yIt : List zA := [
 Jm 49 6,Jf 50 6 2,Jl 51 50,Je 52 51,Kc 53 .lss 49 52]
def zYE : List yS := [
 ⟨0,Jf 56 6 2,[]⟩,
 ⟨1,Jl 57 56,[]⟩,
 ⟨2,Jm 58 6,[]⟩,
 ⟨3,Ji 59 1 57 58,[]⟩,
 ⟨4,Jl 60 59,[]⟩,
 ⟨5,Jf 61 6 3,[]⟩,
 ⟨6,Jl 62 61,[]⟩,
 ⟨7,Jm 63 6,[]⟩,
 ⟨8,Ji 64 1 62 63,[]⟩,
 ⟨9,Jl 65 64,[]⟩,
 ⟨10,Kc 66 .neq 60 65,[]⟩]
def zXl : List zA := [
 Jc 4 (.bool false)]
def zWB : List zA := [
 Jm 54 6,Kb 55 .add 54 1,Jm 6 55]
def zXP : List zA := [
 Jc 4 (.bool true)]
def yFo : zJ := ⟨67, [.slot 4],
  (Jz yNr [2,3] (.seq (Jz yPk [2,3,30] (.cond (.t 30) (Jz yKs [4] .ret) .skip)) (.seq (Jz yJH [2,3,5] (.block 0 (.loop [2,3,5] (.seq (Jz yJL [2,3,5,35] (.cond (.t 35) .skip (.exit 0))) (.seq (.block 1 (.seq (.regd yPn [2,3,5,48]) (.cond (.t 48) (Jz yIz [4] .ret) .skip))) (.reg yLy [2,3,5])))))) (.seq (Jz yHI [2,3,6] (.block 2 (.loop [2,3,6] (.seq (Jz yIt [2,3,6,53] (.cond (.t 53) .skip (.exit 2))) (.seq (.block 3 (.seq (.regd zYE [2,3,6,66]) (.cond (.t 66) (Jz zXl [4] .ret) .skip))) (.reg zWB [2,3,6])))))) (Jz zXP [4] .ret)))))⟩
def yKR : List zA := [
 Kx 2 0,Kx 3 1,Jc 4 (.bool false)]
def yIE : List zA := [
 Jf 5 0 2,Jl 6 5,Jf 7 0 3,Jl 8 7,Kc 9 .eql 6 8,Jm 10 9,Kf 11 1 2 10,Kf 12 0 11 10,Kl 13 12 10,Kf 14 1 3 10,Kf 15 0 14 10,Kl 16 15 10,Jt 17 (.bin .eql (.t 13) (.t 16)) 10,Ja 18 10 17,Jm 4 18]
def yGT : zJ := ⟨19, [.slot 4],
  (Jz yKR [2,3] (Jz yIE [4] .ret))⟩
def yNX : List zA := [
 Jc 4 (.bool false)]
def yKf : List zA := [
 Jm 6 0,Je 7 6,Jm 8 1,Je 9 8,Kc 10 .neq 7 9]
def yMi : List zA := [
 Jc 4 (.bool false)]
def yJj : List zA := [
 Jc 5 (.int .i64 0)]
def yOF : List zA := [
 Jm 11 5,Jm 12 0,Je 13 12,Kc 14 .lss 11 13]
def yIw : List yS := [
 ⟨0,Jm 17 0,[]⟩,
 ⟨1,Jm 18 5,[]⟩,
 ⟨2,Ji 19 5 17 18,[]⟩,
 ⟨3,Jk 20 5 19,[]⟩,
 ⟨4,Jm 21 1,[]⟩,
 ⟨5,Jm 22 5,[]⟩,
 ⟨6,Ji 23 5 21 22,[]⟩,
 ⟨7,Jk 24 5 23,[]⟩,
 ⟨8,Jp 25 47 [.t 20,.t 24],[]⟩,
 ⟨9,Kn 26 25,[]⟩]
def yOl : List zA := [
 Jc 4 (.bool false)]
def yPr : List zA := [
 Jm 15 5,Kb 16 .add 15 1,Jm 5 16]
def yKU : List zA := [
 Jc 4 (.bool true)]
def yFj : zJ := ⟨27, [.slot 4],
  (Jz yNX [0,1] (.seq (Jz yKf [0,1,10] (.cond (.t 10) (Jz yMi [4] .ret) .skip)) (.seq (Jz yJj [0,1,5] (.block 0 (.loop [0,1,5] (.seq (Jz yOF [0,1,5,14] (.cond (.t 14) .skip (.exit 0))) (.seq (.block 1 (.seq (.regd yIw [0,1,5,26]) (.cond (.t 26) (Jz yOl [4] .ret) .skip))) (.reg yPr [0,1,5])))))) (Jz yKU [4] .ret))))⟩
def yNM : List zA := [
 Kx 2 0,Jc 4 (.bool false)]
def yKC : List zA := [
 Jk 5 9 2,Jp 6 48 [.t 5],Jm 7 6,Jt 8 (.ld (some 9) (.t 2)) 7,Ju 9 1 7,
 ⟨some 10,.callp 49 [.t 8,.t 9],(some (7,true))⟩,Ja 11 7 10,Jm 4 11]
def yGQ : zJ := ⟨12, [.slot 4],
  (Jz yNM [1,2] (Jz yKC [4] .ret))⟩
def yPT : List zA := [
 Jc 2 (.bool false)]
def yJC : List zA := [
 Jm 3 0,Jp 4 50 [.t 3],Jm 2 4]
def yFx : zJ := ⟨5, [.slot 2],
  (Jz yPT [0] (Jz yJC [2] .ret))⟩
def yKp : List zA := [
 Jc 2 (.slice none 0 0)]
def yPW : List zA := [
 Jm 3 0,Js 4 (.eqn false (.t 3) (.c (.slice none 0 0)))]
def yHK : List zA := [
 Jc 2 (.slice none 0 0)]
def yJX : List zA := [
 ⟨some 5,.mksl 6 0 [] [],none⟩,Jm 6 0,
 ⟨some 7,.app 6 56 [.string ⟨#[]⟩,.int .i64 0,.int .i64 0,.int .i64 0,.int .i64 0,.int .u64 0] (.t 5) (.t 6),none⟩,Jm 2 7]
def yGi : zJ := ⟨8, [.slot 2],
  (Jz yKp [0] (.seq (Jz yPW [0,4] (.cond (.t 4) (Jz yHK [2] .ret) .skip)) (Jz yJX [2] .ret)))⟩
def yMe : List zA := [
 Jc 2 (.bool false)]
def yHA : List zA := [
 Jm 6 0,Je 7 6,Kb 8 .gtr 7 64]
def yMU : List zA := [
 Jc 2 (.bool false)]
def yKN : List zA := [
 ⟨some 9,.mkmap none,none⟩,Jm 3 9]
def yKt : List zA := [
 Jm 10 0,Je 11 10,Jc 12 (.int .i64 0)]
def yOo : List zA := [
 Kc 13 .lss 12 11]
def yHy : List zA := [
 Ji 14 3 10 12,Jk 15 3 14,Js 5 (.new [.string ⟨#[]⟩,.int .i64 0,.int .i64 0]),Jw 3 5 15]
def yIj : List zA := [
 Jf 16 0 5,Jl 17 16,Jp 18 45 [.t 17],Kn 19 18,Jm 20 19,Kg 21 0 5 20,Km 22 21 20,
 ⟨some 23,.callp 52 [.t 22],(some (20,false))⟩,Jr 24 20 23,Jm 25 24,Kg 26 2 5 25,Km 27 26 25,Jn 28 (.bin .lss (.t 27) (.c (.int .i64 0))) 25,Jr 29 25 28,Jm 30 29,Kg 31 2 5 30,Km 32 31 30,Jn 33 (.bin .geq (.t 32) (.c (.int .i64 32))) 30,Jr 34 30 33]
def yNs : List zA := [
 Jc 2 (.bool false)]
def yPh : List zA := [
 Jf 35 1 5,Jl 36 35,Jp 37 53 [.t 36],Kn 38 37,Jm 39 38,Jv 40 3 39,Kg 41 1 5 39,Km 42 41 39,
 ⟨some 43,.look false [.i] (.bool false) false (.t 40) (.t 42),(some (39,false))⟩,Jr 44 39 43]
def zZg : List zA := [
 Jc 2 (.bool false)]
def yDl : List zA := [
 Jm 45 3,Jf 46 1 5,Jl 47 46,
 ⟨none,.upd false [.i] (.t 45) (.t 47) (.c (.bool true)),none⟩]
def yAu : List zA := [
 Kb 48 .add 12 1,Jm 12 48]
def zWo : List zA := [
 Jc 2 (.bool true)]
def yHo : zJ := ⟨49, [.slot 2],
  (Jz yMe [0] (.seq (Jz yHA [0,8] (.cond (.t 8) (Jz yMU [2] .ret) .skip)) (Jz yKN [0,3] (.seq (Jz yKt [3,10,11,12] (.block 0 (.loop [3,10,11,12] (Jz yOo [3,10,11,12,13] (.seq (.cond (.t 13) .skip (.exit 0)) (.seq (.block 1 (Jz yHy [3,5,10,11,12] (.seq (Jz yIj [3,5,10,11,12,34] (.cond (.t 34) (Jz yNs [2] .ret) .skip)) (.seq (Jz yPh [3,5,10,11,12,44] (.cond (.t 44) (Jz zZg [2] .ret) .skip)) (.reg yDl [3,10,11,12]))))) (.reg yAu [3,10,11,12]))))))) (Jz zWo [2] .ret)))))⟩
def yMC : List zA := [
 Kx 1 0,Jc 2 (.bool false)]
def yJi : List zA := [
 Jf 8 1 1,Jl 9 8,Je 10 9,Kb 11 .gtr 10 4000]
def yPa : List zA := [
 Jc 2 (.bool false)]
def yIx : List zA := [
 ⟨some 12,.mkmap none,none⟩,Jm 3 12]
def yPc : List zA := [
 ⟨some 13,.mkmap none,none⟩,Jm 4 13]
def yOZ : List zA := [
 Jf 14 1 1,Jl 15 14,Je 16 15,Jc 17 (.int .i64 0)]
def yKn : List zA := [
 Kc 18 .lss 17 16]
def yIg : List zA := [
 Ji 19 3 15 17,Jk 20 3 19,Js 6 (.new [.int .i64 0,.string ⟨#[]⟩,.slice none 0 0]),Jw 3 6 20]
def yLR : List zA := [
 Jf 21 0 6,Jl 22 21,Jf 23 1 6,Jf 24 0 23,Jl 25 24,Js 26 (.bld [.int .i64 0,.string ⟨#[]⟩] [(0,1,.t 22),(1,1,.t 25)]),Js 7 (.new [.int .i64 0,.string ⟨#[]⟩]),Jw 2 7 26]
def yJR : List zA := [
 Jf 27 0 6,Jl 28 27,Kb 29 .lss 28 0,Jm 30 29,Kg 31 0 6 30,Km 32 31 30,Kg 33 0 1 30,Km 34 33 30,Jn 35 (.len false (.t 34)) 30,Jn 36 (.bin .geq (.t 32) (.t 35)) 30,Jr 37 30 36,Jm 38 37,Jv 39 3 38,Jn 40 (.ld (some 2) (.t 7)) 38,
 ⟨some 41,.look true [.i,.s] (.bool false) false (.t 39) (.t 40),(some (38,false))⟩,Jr 42 38 41,Jm 43 42,Kg 44 1 6 43,Jn 45 (.ld (some 2) (.t 44)) 43,
 ⟨some 46,.callp 43 [.t 45],(some (43,false))⟩,Jn 47 (.not (.t 46)) 43,Jr 48 43 47]
def yBN : List zA := [
 Jc 2 (.bool false)]
def yBu : List zA := [
 Jm 49 3,Jk 50 2 7,
 ⟨none,.upd true [.i,.s] (.t 49) (.t 50) (.c (.bool true)),none⟩]
def yAx : List zA := [
 Jm 51 4,Jf 52 1 6,Jf 53 0 52,Jl 54 53,
 ⟨none,.upd false [.s] (.t 51) (.t 54) (.c (.bool true)),none⟩]
def zWk : List zA := [
 Kb 55 .add 17 1,Jm 17 55]
def yDL : List zA := [
 Jm 56 4,
 ⟨some 57,.mlen (.t 56),none⟩,Kb 58 .leq 57 500,Jm 2 58]
def yFy : zJ := ⟨59, [.slot 2],
  (Jz yMC [1] (.seq (Jz yJi [1,11] (.cond (.t 11) (Jz yPa [2] .ret) .skip)) (Jz yIx [1,3] (Jz yPc [1,3,4] (.seq (Jz yOZ [1,3,4,15,16,17] (.block 0 (.loop [1,3,4,15,16,17] (Jz yKn [1,3,4,15,16,17,18] (.seq (.cond (.t 18) .skip (.exit 0)) (.seq (.block 1 (Jz yIg [1,3,4,6,15,16,17] (Jz yLR [1,3,4,6,7,15,16,17] (.seq (Jz yJR [1,3,4,6,7,15,16,17,48] (.cond (.t 48) (Jz yBN [2] .ret) .skip)) (Jz yBu [1,3,4,6,15,16,17] (.reg yAx [1,3,4,15,16,17])))))) (.reg zWk [1,3,4,15,16,17]))))))) (Jz yDL [2] .ret))))))⟩
def yMK : List zA := [
 Kx 2 0,Jc 4 (.bool false)]
def yKr : List zA := [
 Jk 5 4 2,Jp 6 54 [.t 5],Kn 7 6,Jm 8 7,Kg 9 1 2 8,Km 10 9 8,Jn 11 (.bin .neq (.t 10) (.c (.int .i64 6))) 8,Jr 12 8 11,Jm 13 12,Kg 14 0 2 13,Km 15 14 13,Jn 16 (.bin .neq (.t 15) (.c (.string ⟨#[46]⟩))) 13,Jr 17 13 16]
def yNk : List zA := [
 Jc 4 (.bool false)]
def yMd : List zA := [
 Jm 18 1,Je 19 18,Kb 20 .lss 19 1,Jm 21 20,Jv 22 1 21,Jn 23 (.len false (.t 22)) 21,Jn 24 (.bin .gtr (.t 23) (.c (.int .i64 8))) 21,Jr 25 21 24]
def yHB : List zA := [
 Jc 4 (.bool false)]
def yJc : List zA := [
 Jm 26 1,Jp 27 56 [.t 26,.f 55],Kn 28 27,Jm 4 28]
def yFL : zJ := ⟨29, [.slot 4],
  (Jz yMK [1,2] (.seq (Jz yKr [1,17] (.cond (.t 17) (Jz yNk [4] .ret) .skip)) (.seq (Jz yMd [1,25] (.cond (.t 25) (Jz yHB [4] .ret) .skip)) (Jz yJc [4] .ret))))⟩
def yOO : List zA := [
 Kx 1 0,Jc 2 (.bool false)]
def yOG : List zA := [
 Jk 5 2 1,Js 6 (.bld [.string ⟨#[]⟩,.slice none 0 0] [(0,2,.t 5)]),Js 3 (.new [.string ⟨#[]⟩,.slice none 0 0]),Jw 2 3 6]
def yPo : List zA := [
 Jk 7 2 3,Jp 8 57 [.t 7],Kn 9 8,Jm 10 9,Jn 11 (.ld (some 2) (.t 3)) 10,
 ⟨some 12,.callp 58 [.t 11],(some (10,false))⟩,Jn 13 (.not (.t 12)) 10,Jr 14 10 13]
def yPR : List zA := [
 Jc 2 (.bool false)]
def yPJ : List zA := [
 Jk 15 2 3,Jx 16 59 [.t 15],Js 4 (.new [.string ⟨#[]⟩,.slice none 0 0,.slice none 0 0]),Jw 3 4 16]
def yKw : List zA := [
 Jk 17 3 4,Jp 18 60 [.t 17],Jm 19 18,Jt 20 (.ld (some 3) (.t 4)) 19,
 ⟨some 21,.callp 61 [.t 20],(some (19,true))⟩,Ja 22 19 21,Jm 23 22,Jt 24 (.ld (some 3) (.t 4)) 23,
 ⟨some 25,.callp 62 [.t 24],(some (23,true))⟩,Ja 26 23 25,Jm 27 26,Jt 28 (.ld (some 3) (.t 4)) 27,
 ⟨some 29,.callp 63 [.t 28],(some (27,true))⟩,Ja 30 27 29,Jm 2 30]
def yGz : zJ := ⟨31, [.slot 2],
  (Jz yOO [1] (Jz yOG [3] (.seq (Jz yPo [3,14] (.cond (.t 14) (Jz yPR [2] .ret) .skip)) (Jz yPJ [4] (Jz yKw [2] .ret)))))⟩
def yHN : List zA := [
 Jc 4 (.bool false)]
def yKJ : List zA := [
 Jm 5 0,Jm 6 1,Jp 7 64 [.t 5,.t 6],Jm 4 7]
def yGG : zJ := ⟨8, [.slot 4],
  (Jz yHN [0,1] (Jz yKJ [4] .ret))⟩
def yPf : List zA := [
 Kx 2 0,Kx 3 1,Jc 4 (.bool false)]
def yHE : List zA := [
 Jf 6 0 2,Jl 7 6,Jf 8 0 3,Jl 9 8,Kc 10 .neq 7 9,Jm 11 10,Kg 12 1 2 11,Km 13 12 11,Kg 14 1 3 11,Km 15 14 11,Jn 16 (.bin .neq (.t 13) (.t 15)) 11,Jr 17 11 16,Jm 18 17,Kg 19 2 2 18,Km 20 19 18,Kg 21 2 3 18,Km 22 21 18,Jn 23 (.bin .neq (.t 20) (.t 22)) 18,Jr 24 18 23,Jm 25 24,Kg 26 3 2 25,Km 27 26 25,Jn 28 (.len false (.t 27)) 25,Kg 29 3 3 25,Km 30 29 25,Jn 31 (.len false (.t 30)) 25,Jn 32 (.bin .neq (.t 28) (.t 31)) 25,Jr 33 25 32]
def yLS : List zA := [
 Jc 4 (.bool false)]
def yND : List zA := [
 Jc 5 (.int .i64 0)]
def yLG : List zA := [
 Jm 34 5,Jf 35 3 2,Jl 36 35,Je 37 36,Kc 38 .lss 34 37]
def yON : List yS := [
 ⟨0,Jf 41 3 2,[]⟩,
 ⟨1,Jl 42 41,[]⟩,
 ⟨2,Jm 43 5,[]⟩,
 ⟨3,Ji 44 3 42 43,[]⟩,
 ⟨4,Jk 45 3 44,[]⟩,
 ⟨5,Jf 46 3 3,[]⟩,
 ⟨6,Jl 47 46,[]⟩,
 ⟨7,Jm 48 5,[]⟩,
 ⟨8,Ji 49 3 47 48,[]⟩,
 ⟨9,Jk 50 3 49,[]⟩,
 ⟨10,Js 51 (.eqs true [.s,.i,.i] (.t 45) (.t 50)),[]⟩]
def yLs : List zA := [
 Jc 4 (.bool false)]
def yPy : List zA := [
 Jm 39 5,Kb 40 .add 39 1,Jm 5 40]
def yHW : List zA := [
 Jc 4 (.bool true)]
def yGm : zJ := ⟨52, [.slot 4],
  (Jz yPf [2,3] (.seq (Jz yHE [2,3,33] (.cond (.t 33) (Jz yLS [4] .ret) .skip)) (.seq (Jz yND [2,3,5] (.block 0 (.loop [2,3,5] (.seq (Jz yLG [2,3,5,38] (.cond (.t 38) .skip (.exit 0))) (.seq (.block 1 (.seq (.regd yON [2,3,5,51]) (.cond (.t 51) (Jz yLs [4] .ret) .skip))) (.reg yPy [2,3,5])))))) (Jz yHW [4] .ret))))⟩
def yJT : List zA := [
 Kx 2 0,Kx 3 1,Jc 4 (.bool false)]
def yIQ : List zA := [
 Jf 6 0 2,Jk 7 4 6,Jf 8 0 3,Jk 9 4 8,Jp 10 46 [.t 7,.t 9],Kn 11 10,Jm 12 11,Kg 13 4 2 12,Km 14 13 12,Jn 15 (.len false (.t 14)) 12,Kg 16 4 3 12,Km 17 16 12,Jn 18 (.len false (.t 17)) 12,Jn 19 (.bin .neq (.t 15) (.t 18)) 12,Jr 20 12 19]
def yNj : List zA := [
 Jc 4 (.bool false)]
def yPt : List zA := [
 Jc 5 (.int .i64 0)]
def yPv : List zA := [
 Jm 21 5,Jf 22 4 2,Jl 23 22,Je 24 23,Kc 25 .lss 21 24]
def yOM : List yS := [
 ⟨0,Jf 28 4 2,[]⟩,
 ⟨1,Jl 29 28,[]⟩,
 ⟨2,Jm 30 5,[]⟩,
 ⟨3,Ji 31 6 29 30,[]⟩,
 ⟨4,Jk 32 6 31,[]⟩,
 ⟨5,Jf 33 4 3,[]⟩,
 ⟨6,Jl 34 33,[]⟩,
 ⟨7,Jm 35 5,[]⟩,
 ⟨8,Ji 36 6 34 35,[]⟩,
 ⟨9,Jk 37 6 36,[]⟩,
 ⟨10,Js 38 (.eqs true [.s,.i,.i,.i,.i,.i] (.t 32) (.t 37)),[]⟩]
def yHD : List zA := [
 Jc 4 (.bool false)]
def yIX : List zA := [
 Jm 26 5,Kb 27 .add 26 1,Jm 5 27]
def yIh : List zA := [
 Jc 4 (.bool true)]
def yGb : zJ := ⟨39, [.slot 4],
  (Jz yJT [2,3] (.seq (Jz yIQ [2,3,20] (.cond (.t 20) (Jz yNj [4] .ret) .skip)) (.seq (Jz yPt [2,3,5] (.block 0 (.loop [2,3,5] (.seq (Jz yPv [2,3,5,25] (.cond (.t 25) .skip (.exit 0))) (.seq (.block 1 (.seq (.regd yOM [2,3,5,38]) (.cond (.t 38) (Jz yHD [4] .ret) .skip))) (.reg yIX [2,3,5])))))) (Jz yIh [4] .ret))))⟩
def yMV : List zA := [
 Kx 2 0,Jc 4 (.bool false)]
def yLi : List zA := [
 Jm 8 1,Je 9 8,Kb 10 .gtr 9 400]
def yHY : List zA := [
 Jc 4 (.bool false)]
def yLB : List zA := [
 Jc 5 (.int .i64 (-1))]
def yOY : List zA := [
 Jm 11 1,Je 12 11,Jc 13 (.int .i64 0)]
def yKi : List zA := [
 Kc 14 .lss 13 12]
def yLt : List zA := [
 Ji 15 2 11 13,Jk 16 2 15,Js 7 (.new [.int .i64 0,.slice none 0 0]),Jw 2 7 16]
def yMF : List zA := [
 Jf 17 0 7,Jl 18 17,Jm 19 5,Kc 20 .leq 18 19,Jm 21 20,Kg 22 0 7 21,Km 23 22 21,Kg 24 8 2 21,Km 25 24 21,Jn 26 (.bin .geq (.t 23) (.t 25)) 21,Jr 27 21 26,Jm 28 27,Kg 29 1 7 28,Jn 30 (.ld (some 1) (.t 29)) 28,Kg 31 0 2 28,Km 32 31 28,Jn 33 (.len false (.t 32)) 28,
 ⟨some 34,.callp 15 [.t 30,.t 33],(some (28,false))⟩,Jn 35 (.not (.t 34)) 28,Jr 36 28 35]
def yIp : List zA := [
 Jc 4 (.bool false)]
def yKk : List zA := [
 Jf 37 0 7,Jl 38 37,Jm 5 38]
def zYa : List zA := [
 Kb 39 .add 13 1,Jm 13 39]
def yEa : List zA := [
 Jc 4 (.bool true)]
def yGl : zJ := ⟨40, [.slot 4],
  (Jz yMV [1,2] (.seq (Jz yLi [1,2,10] (.cond (.t 10) (Jz yHY [4] .ret) .skip)) (Jz yLB [1,2,5] (.seq (Jz yOY [2,5,11,12,13] (.block 0 (.loop [2,5,11,12,13] (Jz yKi [2,5,11,12,13,14] (.seq (.cond (.t 14) .skip (.exit 0)) (.seq (.block 1 (Jz yLt [2,5,7,11,12,13] (.seq (Jz yMF [2,7,11,12,13,36] (.cond (.t 36) (Jz yIp [4] .ret) .skip)) (.reg yKk [2,5,11,12,13])))) (.reg zYa [2,5,11,12,13]))))))) (Jz yEa [4] .ret)))))⟩
def yIr : List zA := [
 ⟨some 2,.newH [.bool false],none⟩]
def yMD : List zA := [
 Jm 6 0,Js 7 (.bin .eql (.t 6) (.c (.string ⟨#[46]⟩)))]
def yME : List zA := [
 ⟨none,.st 1 (.t 2) (.c (.bool true)),none⟩]
def yMg : List zA := [
 Jm 8 0,Js 9 (.len true (.t 8)),Kb 10 .gtr 9 60]
def yOT : List zA := [
 ⟨none,.st 1 (.t 2) (.c (.bool false)),none⟩]
def yJZ : List zA := [
 ⟨some 3,.newH [.int .i64 0],none⟩,
 ⟨some 4,.newH [.bool false],none⟩,
 ⟨none,.st 1 (.t 3) (.c (.int .i64 0)),none⟩,
 ⟨none,.st 1 (.t 4) (.c (.bool false)),none⟩]
def yIi : List zA := [
 Jm 11 0,Js 12 (.mkf 65 [.t 11] [])]
def yHt : List zA := [
 Jm 5 13]
def yOq : List zA := [
 Jl 14 3,Kb 15 .add 14 1,Jw 1 3 15]
def yMs : List zA := [
 Jl 16 4,Jm 17 16,Km 18 3 17,Jn 19 (.bin .gtr (.t 18) (.c (.int .i64 8))) 17,Jr 20 17 19]
def zYn : List zA := [
 ⟨none,.st 1 (.t 2) (.c (.bool false)),none⟩]
def yDp : List zA := [
 Jm 21 5,Js 22 (.bin .eql (.t 21) (.c (.string ⟨#[42]⟩))),Jw 1 4 22]
def zYW : List zA := [
 Jl 23 4,Kn 24 23,Jm 25 24,Ju 26 5 25,
 ⟨some 27,.callp 66 [.t 26],(some (25,true))⟩,Jt 28 (.not (.t 27)) 25,Ja 29 25 28]
def yEi : List zA := [
 ⟨none,.st 1 (.t 2) (.c (.bool false)),none⟩]
def zTM : List zA := [
 ⟨none,.st 1 (.t 2) (.c (.bool true)),none⟩]
def yGr : zJ := ⟨30, [.cell 2 none],
  (Jz yIr [0,2] (.seq (Jz yMD [0,2,7] (.cond (.t 7) (Jz yME [2] .ret) .skip)) (.seq (Jz yMg [0,2,10] (.cond (.t 10) (Jz yOT [2] .ret) .skip)) (Jz yJZ [0,2,3,4] (.seq (Jz yIi [2,3,4,12] (.block 0 (.rangeF (.t 12) [13] (.reg yHt [2,3,4,5]) (.block 1 (Jz yOq [2,3,4,5] (.seq (Jz yMs [2,4,5,20] (.cond (.t 20) (Jz zYn [] .ret) .skip)) (Jz yDp [2,4,5] (Jz zYW [2,29] (.cond (.t 29) (Jz yEi [] .ret) .skip))))))))) (Jz zTM [2] .ret))))))⟩
def yMf : List zA := [
 Jc 2 (.bool false)]
def yNv : List zA := [
 Jm 6 0,Jx 7 73 [.t 6],Jm 5 7,Ke 8 0 5,Ke 9 1 5,Jm 3 8,Jm 4 9]
def yKZ : List zA := [
 Jm 10 3,Je 11 10,Kb 12 .gtr 11 0,Jm 13 12,Ju 14 3 13,Jt 15 (.idx 1 (.t 14) (.c (.int .i64 0))) 13,Kl 16 15 13,Jt 17 (.bin .eql (.t 16) (.c (.string ⟨#[42]⟩))) 13,Ja 18 13 17,Jm 2 18]
def yGP : zJ := ⟨19, [.slot 2],
  (Jz yMf [0] (Jz yNv [3] (Jz yKZ [2] .ret)))⟩
def yOV : List zA := [
 Jc 2 (.bool false)]
def yLq : List zA := [
 Jm 3 0,Kb 4 .geq 3 1,Jm 5 4,Ju 6 0 5,Jt 7 (.bin .leq (.t 6) (.c (.int .i64 1000000))) 5,Ja 8 5 7,Jm 2 8]
def yHa : zJ := ⟨9, [.slot 2],
  (Jz yOV [0] (Jz yLq [2] .ret))⟩
def yOB : List zA := [
 Kx 1 0,Jc 2 (.bool false)]
def yNd : List zA := [
 Jf 6 0 1,Jl 7 6,Jp 8 45 [.t 7],Kn 9 8,Jm 10 9,Kg 11 1 1 10,Km 12 11 10,
 ⟨some 13,.callp 74 [.t 12,.c (.int .i64 1),.c (.int .i64 8)],(some (10,false))⟩,Jn 14 (.not (.t 13)) 10,Jr 15 10 14,Jm 16 15,Kg 17 2 1 16,Km 18 17 16,
 ⟨some 19,.callp 74 [.t 18,.c (.int .i64 0),.c (.int .i64 100000)],(some (16,false))⟩,Jn 20 (.not (.t 19)) 16,Jr 21 16 20]
def yLQ : List zA := [
 Jc 2 (.bool false)]
def yJS : List zA := [
 Jf 22 3 1,Jl 23 22,Je 24 23,Jp 25 74 [.t 24,.c (.int .i64 1),.c (.int .i64 8)],Kn 26 25]
def yOg : List zA := [
 Jc 2 (.bool false)]
def yNI : List zA := [
 Jf 27 1 1,Jl 28 27,Js 29 (.idxa 8 9 (.g 75) (.t 28)),Jk 30 8 29,Js 3 (.new [.int .i64 0,.int .i64 0,.int .i64 0,.int .i64 0,.int .i64 0,.bool false,.bool false,.bool false]),Jw 8 3 30]
def yPB : List zA := [
 Jf 31 6 3,Jl 32 31,Jm 33 32,Kf 34 3 1 33,Kl 35 34 33,Jt 36 (.len false (.t 35)) 33,Jt 37 (.bin .neq (.t 36) (.c (.int .i64 1))) 33,Ja 38 33 37,Jm 39 38,Kg 40 0 1 39,Km 41 40 39,
 ⟨some 42,.callp 76 [.t 41],(some (39,false))⟩,Jv 43 42 39,Kf 44 7 3 43,Kl 45 44 43,Jt 46 (.not (.t 45)) 43,Jn 47 (.pick (.t 43) (.t 46) (.c (.bool false))) 39,Jr 48 39 47]
def yQh : List zA := [
 Jc 2 (.bool false)]
def yOv : List zA := [
 Jf 49 3 1,Jl 50 49,Je 51 50,Jc 52 (.int .i64 0)]
def yJA : List zA := [
 Kc 53 .lss 52 51]
def zUO : List zA := [
 Jm 54 52,Ji 55 3 50 52,Jk 56 3 55,Js 5 (.new [.string ⟨#[]⟩,.int .i64 0,.int .i64 0]),Jm 4 54,Jw 3 5 56]
def zYA : List yS := [
 ⟨0,Jk 57 8 3,[]⟩,
 ⟨1,Jk 58 3 5,[]⟩,
 ⟨2,Jp 59 77 [.t 57,.t 58],[]⟩,
 ⟨3,Kn 60 59,[]⟩,
 ⟨4,Jm 61 60,[]⟩,
 ⟨5,Jv 62 4 61,[]⟩,
 ⟨6,Jn 63 (.bin .gtr (.t 62) (.c (.int .i64 0))) 61,[]⟩,
 ⟨7,Jv 64 63 61,[]⟩,
 ⟨8,Kf 65 3 1 64,[]⟩,
 ⟨9,Kl 66 65 64,[]⟩,
 ⟨10,Ju 67 4 64,[]⟩,
 ⟨11,Jt 68 (.bin .sub (.t 67) (.c (.int .i64 1))) 64,[]⟩,
 ⟨12,Jt 69 (.idx 3 (.t 66) (.t 68)) 64,[]⟩,
 ⟨13,Jt 70 (.ld (some 3) (.t 69)) 64,[]⟩,
 ⟨14,Jt 71 (.ld (some 3) (.t 5)) 64,[]⟩,
 ⟨15,⟨some 72,.callp 78 [.t 70,.t 71],(some (64,true))⟩,[]⟩,
 ⟨16,Jt 73 (.bin .geq (.t 72) (.c (.int .i64 0))) 64,[]⟩,
 ⟨17,Jn 74 (.pick (.t 64) (.t 73) (.c (.bool false))) 61,[]⟩,
 ⟨18,Jr 75 61 74,[]⟩]
def yCy : List zA := [
 Jc 2 (.bool false)]
def yCn : List zA := [
 Kb 76 .add 52 1,Jm 52 76]
def zUv : List zA := [
 Jc 2 (.bool true)]
def yFO : zJ := ⟨77, [.slot 2],
  (Jz yOB [1] (.seq (Jz yNd [1,21] (.cond (.t 21) (Jz yLQ [2] .ret) .skip)) (.seq (Jz yJS [1,26] (.cond (.t 26) (Jz yOg [2] .ret) .skip)) (Jz yNI [1,3] (.seq (Jz yPB [1,3,48] (.cond (.t 48) (Jz yQh [2] .ret) .skip)) (.seq (Jz yOv [1,3,50,51,52] (.block 0 (.loop [1,3,50,51,52] (Jz yJA [1,3,50,51,52,53] (.seq (.cond (.t 53) .skip (.exit 0)) (.seq (.block 1 (Jz zUO [1,3,4,5,50,51,52] (.seq (.regd zYA [1,3,50,51,52,75]) (.cond (.t 75) (Jz yCy [2] .ret) .skip)))) (.reg yCn [1,3,50,51,52]))))))) (Jz zUv [2] .ret)))))))⟩
def yPS : List zA := [
 Jc 4 (.bool false)]
def yOz : List zA := [
 Jm 5 0,Jm 6 1,Jp 7 79 [.t 5,.t 6],Kb 8 .geq 7 0,Jm 4 8]
def yFD : zJ := ⟨9, [.slot 4],
  (Jz yPS [0,1] (Jz yOz [4] .ret))⟩
def yMy : List zA := [
 Jc 2 (.bool false)]
def yOk : List zA := [
 Jm 3 0,Jp 4 53 [.t 3],Kn 5 4,Jm 2 5]
def yGU : zJ := ⟨6, [.slot 2],
  (Jz yMy [0] (Jz yOk [2] .ret))⟩
def yMP : List zA := [
 Kx 1 0,Jc 2 (.bool false)]
def yLa : List zA := [
 Jf 8 0 1,Jf 9 0 8,Jl 10 9,Jp 11 45 [.t 10],Kn 12 11,Jm 13 12,Kg 14 0 1 13,Kg 15 0 14 13,Km 16 15 13,
 ⟨some 17,.callp 44 [.t 16,.c (.string ⟨#[42]⟩)],(some (13,false))⟩,Jr 18 13 17,Jm 19 18,Kg 20 0 1 19,Kg 21 1 20 19,Km 22 21 19,Jn 23 (.len false (.t 22)) 19,Jn 24 (.bin .gtr (.t 23) (.c (.int .i64 20000))) 19,Jr 25 19 24]
def yJs : List zA := [
 Jc 2 (.bool false)]
def yJx : List zA := [
 Jf 26 0 1,Jf 27 1 26,Jl 28 27,Je 29 28,Jc 30 (.int .i64 0)]
def yNP : List zA := [
 Kc 31 .lss 30 29]
def yJN : List zA := [
 Jm 32 30,Ji 33 5 28 30,Jk 34 5 33,Js 4 (.new [.string ⟨#[]⟩,.int .i64 0,.int .i64 0,.slice none 0 0,.slice none 0 0]),Jm 3 32,Jw 5 4 34]
def yOS : List zA := [
 Jf 35 0 4,Jk 36 4 35,Jp 37 54 [.t 36],Kn 38 37]
def yHJ : List zA := [
 Jc 2 (.bool false)]
def yPq : List zA := [
 Jf 40 0 4,Jf 41 0 40,Jl 42 41,Jf 43 0 1,Jf 44 0 43,Jl 45 44,Jp 46 80 [.t 42,.t 45],Jm 39 46,Ke 47 0 39,Ke 48 1 39,Jm 5 47,Jm 6 48]
def yQg : List zA := [
 Jm 49 5,Kn 50 49]
def zVt : List zA := [
 Jc 2 (.bool false)]
def zUj : List zA := [
 Jm 51 3,Kb 52 .eql 51 0]
def zVN : List zA := [
 Jf 53 0 1,Jf 54 1 53,Jl 55 54,Jm 56 3,Kb 57 .sub 56 1,Ji 58 5 55 57,Jf 59 0 58,Jk 60 4 59,Js 7 (.new [.string ⟨#[]⟩,.int .i64 0,.int .i64 0,.slice none 0 0]),Jw 4 7 60]
def yCa : List zA := [
 Jf 61 0 7,Jl 62 61,Jf 63 1 7,Jl 64 63,Jf 65 0 4,Jf 66 0 65,Jl 67 66,Jf 68 0 4,Jf 69 1 68,Jl 70 69,Jp 71 81 [.t 62,.t 64,.t 67,.t 70],Kb 72 .geq 71 0]
def yDj : List zA := [
 Jc 2 (.bool false)]
def zXR : List zA := [
 Kb 73 .add 30 1,Jm 30 73]
def zYR : List zA := [
 Jc 2 (.bool true)]
def yHe : zJ := ⟨74, [.slot 2],
  (Jz yMP [1] (.seq (Jz yLa [1,25] (.cond (.t 25) (Jz yJs [2] .ret) .skip)) (.seq (Jz yJx [1,28,29,30] (.block 0 (.loop [1,28,29,30] (Jz yNP [1,28,29,30,31] (.seq (.cond (.t 31) .skip (.exit 0)) (.seq (.block 1 (Jz yJN [1,3,4,28,29,30] (.seq (Jz yOS [1,3,4,28,29,30,38] (.cond (.t 38) (Jz yHJ [2] .ret) .skip)) (.seq (Jz yPq [1,3,4,5,28,29,30] (Jz yQg [1,3,4,28,29,30,50] (.cond (.t 50) (Jz zVt [2] .ret) .skip))) (.seq (Jz zUj [1,3,4,28,29,30,52] (.cond (.t 52) (.exit 1) .skip)) (Jz zVN [1,4,7,28,29,30] (Jz yCa [1,28,29,30,72] (.cond (.t 72) (Jz yDj [2] .ret) .skip)))))))) (.reg zXR [1,28,29,30]))))))) (Jz zYR [2] .ret))))⟩
def yPQ : List zA := [
 Kx 1 0,Jc 2 (.bool false)]
def yPN : List zA := [
 ⟨some 9,.mksl 1 2 [.int .i64 0,.int .i64 0] [(0,1,.c (.int .i64 4)),(1,1,.c (.int .i64 2))],none⟩,Je 10 9,Jc 11 (.int .i64 0)]
def yOL : List zA := [
 Kc 12 .lss 11 10]
def yJQ : List zA := [
 Ji 13 1 9 11,Jl 14 13,Jm 4 14]
def yNt : List zA := [
 Jk 16 2 1,Jf 17 0 1,Jf 18 0 17,Jl 19 18,Jm 20 4,Js 21 (.bld [.string ⟨#[]⟩,.int .i64 0] [(0,1,.t 19),(1,1,.t 20)]),Jp 22 82 [.t 16,.t 21],Jm 15 22,Ke 23 0 15,Ke 24 1 15,Jm 5 23,Jm 6 24]
def yOh : List zA := [
 Jm 25 6,Kn 26 25]
def yPU : List zA := [
 Jc 2 (.bool false)]
def yIM : List zA := [
 Kb 27 .add 11 1,Jm 11 27]
def yLl : List zA := [
 Jf 28 0 1,Jf 29 1 28,Jl 30 29,Je 31 30,Jc 32 (.int .i64 0)]
def yNF : List zA := [
 Kc 33 .lss 32 31]
def yEr : List zA := [
 Ji 34 5 30 32,Jk 35 5 34,Js 8 (.new [.string ⟨#[]⟩,.int .i64 0,.int .i64 0,.slice none 0 0,.slice none 0 0]),Jw 5 8 35]
def zXX : List zA := [
 Jf 36 0 8,Jf 37 1 36,Jl 38 37,Jf 39 0 8,Jf 40 0 39,Jl 41 40,Jf 42 0 1,Jf 43 0 42,Jl 44 43,Kc 45 .eql 41 44,Jp 46 83 [.t 38,.t 45],Kn 47 46]
def zYl : List zA := [
 Jc 2 (.bool false)]
def zSN : List zA := [
 Kb 48 .add 32 1,Jm 32 48]
def zVr : List zA := [
 Jc 2 (.bool true)]
def yFT : zJ := ⟨49, [.slot 2],
  (Jz yPQ [1] (.seq (Jz yPN [1,9,10,11] (.block 0 (.loop [1,9,10,11] (Jz yOL [1,9,10,11,12] (.seq (.cond (.t 12) .skip (.exit 0)) (.seq (.block 1 (Jz yJQ [1,4,9,10,11] (Jz yNt [1,6,9,10,11] (Jz yOh [1,9,10,11,26] (.cond (.t 26) (Jz yPU [2] .ret) .skip))))) (.reg yIM [1,9,10,11]))))))) (.seq (Jz yLl [1,30,31,32] (.block 2 (.loop [1,30,31,32] (Jz yNF [1,30,31,32,33] (.seq (.cond (.t 33) .skip (.exit 2)) (.seq (.block 3 (Jz yEr [1,8,30,31,32] (Jz zXX [1,30,31,32,47] (.cond (.t 47) (Jz zYl [2] .ret) .skip)))) (.reg zSN [1,30,31,32]))))))) (Jz zVr [2] .ret))))⟩
def yIu : List zA := [
 Kx 1 0,Js 2 (.new [.string ⟨#[]⟩,.slice none 0 0,.slice none 0 0])]
def yOW : List zA := [
 ⟨some 13,.mkmap none,none⟩,Jm 3 13]
def yMQ : List zA := [
 Jf 14 0 1,Jf 15 1 14,Jl 16 15,Je 17 16,Jc 18 (.int .i64 0)]
def yKe : List zA := [
 Kc 19 .lss 18 17]
def yNY : List zA := [
 Ji 20 5 16 18,Jk 21 5 20,Js 5 (.new [.string ⟨#[]⟩,.int .i64 0,.int .i64 0,.slice none 0 0,.slice none 0 0]),Jw 5 5 21]
def yOj : List zA := [
 Jf 22 0 5,Jf 23 1 22,Jl 24 23,Kb 25 .eql 24 2,Jm 26 25,Kf 27 0 5 26,Kf 28 0 27 26,Kl 29 28 26,Kf 30 0 1 26,Kf 31 0 30 26,Kl 32 31 26,Jt 33 (.bin .neq (.t 29) (.t 32)) 26,Ja 34 26 33]
def yKW : List zA := [
 Jm 35 3,Jf 36 0 5,Jf 37 0 36,Jl 38 37,
 ⟨none,.upd false [.s] (.t 35) (.t 38) (.c (.bool true)),none⟩]
def yPD : List zA := [
 Kb 39 .add 18 1,Jm 18 39]
def yJg : List yS := [
 ⟨0,Jk 40 2 1,[]⟩,
 ⟨1,Jf 41 0 1,[]⟩,
 ⟨2,Jf 42 1 41,[]⟩,
 ⟨3,Jl 43 42,[]⟩,
 ⟨4,Je 44 43,[]⟩,
 ⟨7,Js 6 (.new [.string ⟨#[]⟩,.slice none 0 0,.slice none 0 0]),[]⟩,
 ⟨5,⟨some 45,.mk 1 16 [.string ⟨#[]⟩] (.t 44) (.t 44),none⟩,[0,7]⟩,
 ⟨6,Js 46 (.bld [.string ⟨#[]⟩,.slice none 0 0,.slice none 0 0] [(0,2,.t 40),(2,1,.t 45)]),[]⟩,
 ⟨8,Jw 3 6 46,[]⟩]
def yOt : List zA := [
 Jc 7 (.string ⟨#[]⟩)]
def zUr : List zA := [
 Jf 47 0 1,Jf 48 1 47,Jl 49 48,Je 50 49,Jc 51 (.int .i64 0)]
def zVT : List zA := [
 Kc 52 .lss 51 50]
def zYe : List zA := [
 Jm 53 51,Ji 54 5 49 51,Jk 55 5 54,Js 9 (.new [.string ⟨#[]⟩,.int .i64 0,.int .i64 0,.slice none 0 0,.slice none 0 0]),Jm 8 53,Jw 5 9 55]
def yCM : List zA := [
 Jf 56 0 9,Jf 57 0 56,Jl 58 57,Jm 10 58]
def yEw : List zA := [
 Jm 59 7,Js 60 (.bin .neq (.t 59) (.c (.string ⟨#[]⟩)))]
def yEk : List zA := [
 Jm 62 10,Jm 63 7,Jp 64 80 [.t 62,.t 63],Jm 61 64,Ke 65 0 61,Ke 66 1 61,Jm 11 65,Jm 12 66]
def zZH : List zA := [
 Jm 67 11,Kn 68 67]
def zSY : List zA := [
 Jc 7 (.string ⟨#[]⟩)]
def zUI : List zA := [
 Jm 69 7,Js 70 (.bin .eql (.t 69) (.c (.string ⟨#[]⟩))),Jm 71 70,Ju 72 3 71,Ju 73 10 71,
 ⟨some 74,.look false [.s] (.bool false) false (.t 72) (.t 73),(some (71,true))⟩,Ja 75 71 74]
def yCH : List zA := [
 Jm 76 10,Jm 7 76]
def yCT : List zA := [
 Jf 77 2 6,Jl 78 77,Jm 79 8,Jm 80 7,Ji 81 1 78 79,Jw 1 81 80]
def yDW : List zA := [
 Kb 82 .add 51 1,Jm 51 82]
def yEX : List zA := [
 Jk 83 3 6,Jw 3 2 83]
def yHd : zJ := ⟨84, [.cell 2 (some 3)],
  (Jz yIu [1,2] (Jz yOW [1,2,3] (.seq (Jz yMQ [1,2,3,16,17,18] (.block 0 (.loop [1,2,3,16,17,18] (Jz yKe [1,2,3,16,17,18,19] (.seq (.cond (.t 19) .skip (.exit 0)) (.seq (.block 1 (Jz yNY [1,2,3,5,16,17,18] (Jz yOj [1,2,3,5,16,17,18,34] (.cond (.t 34) (.reg yKW [1,2,3,16,17,18]) .skip)))) (.reg yPD [1,2,3,16,17,18]))))))) (.seq (.regd yJg [1,2,3,6]) (Jz yOt [1,2,3,6,7] (.seq (Jz zUr [2,3,6,7,49,50,51] (.block 2 (.loop [2,3,6,7,49,50,51] (Jz zVT [2,3,6,7,49,50,51,52] (.seq (.cond (.t 52) .skip (.exit 2)) (.seq (.block 3 (Jz zYe [2,3,6,7,8,9,49,50,51] (Jz yCM [2,3,6,7,8,10,49,50,51] (.seq (Jz yEw [2,3,6,7,8,10,49,50,51,60] (.cond (.t 60) (Jz yEk [2,3,6,7,8,10,11,49,50,51] (Jz zZH [2,3,6,7,8,10,49,50,51,68] (.cond (.t 68) (.reg zSY [2,3,6,7,8,10,49,50,51]) .skip))) .skip)) (.seq (Jz zUI [2,3,6,7,8,10,49,50,51,75] (.cond (.t 75) (.reg yCH [2,3,6,7,8,49,50,51]) .skip)) (.reg yCT [2,3,6,7,49,50,51])))))) (.reg yDW [2,3,6,7,49,50,51]))))))) (Jz yEX [2] .ret)))))))⟩
def yIl : List zA := [
 Kx 1 0,Jc 2 (.bool false)]
def yPO : List zA := [
 Jf 5 0 1,Jf 6 0 5,Jf 7 1 6,Jl 8 7,Je 9 8,Jc 10 (.int .i64 0)]
def yLV : List zA := [
 Kc 11 .lss 10 9]
def yPY : List zA := [
 Jm 12 10,Ji 13 5 8 10,Jk 14 5 13,Js 4 (.new [.string ⟨#[]⟩,.int .i64 0,.int .i64 0,.slice none 0 0,.slice none 0 0]),Jm 3 12,Jw 5 4 14]
def yMH : List zA := [
 Jf 15 0 4,Jf 16 1 15,Jl 17 16,Kb 18 .neq 17 3]
def yMB : List yS := [
 ⟨0,Jm 19 3,[]⟩,
 ⟨1,Kb 20 .gtr 19 0,[]⟩,
 ⟨2,Jm 21 20,[]⟩,
 ⟨3,Kf 22 0 1 21,[]⟩,
 ⟨4,Kf 23 0 22 21,[]⟩,
 ⟨5,Kf 24 1 23 21,[]⟩,
 ⟨6,Kl 25 24 21,[]⟩,
 ⟨7,Ju 26 3 21,[]⟩,
 ⟨8,Jt 27 (.bin .sub (.t 26) (.c (.int .i64 1))) 21,[]⟩,
 ⟨9,Jt 28 (.idx 5 (.t 25) (.t 27)) 21,[]⟩,
 ⟨10,Kf 29 0 28 21,[]⟩,
 ⟨11,Kf 30 0 29 21,[]⟩,
 ⟨12,Kl 31 30 21,[]⟩,
 ⟨13,Kf 32 0 4 21,[]⟩,
 ⟨14,Kf 33 0 32 21,[]⟩,
 ⟨15,Kl 34 33 21,[]⟩,
 ⟨16,Jt 35 (.bin .eql (.t 31) (.t 34)) 21,[]⟩,
 ⟨17,Ja 36 21 35,[]⟩]
def yNa : List zA := [
 Jc 2 (.bool false)]
def yNo : List yS := [
 ⟨0,Jm 37 3,[]⟩,
 ⟨1,Kb 38 .add 37 1,[]⟩,
 ⟨2,Jf 39 0 1,[]⟩,
 ⟨3,Jf 40 0 39,[]⟩,
 ⟨4,Jf 41 1 40,[]⟩,
 ⟨5,Jl 42 41,[]⟩,
 ⟨6,Je 43 42,[]⟩,
 ⟨7,Kc 44 .lss 38 43,[]⟩,
 ⟨8,Jm 45 44,[]⟩,
 ⟨9,Kf 46 0 1 45,[]⟩,
 ⟨10,Kf 47 0 46 45,[]⟩,
 ⟨11,Kf 48 1 47 45,[]⟩,
 ⟨12,Kl 49 48 45,[]⟩,
 ⟨13,Ju 50 3 45,[]⟩,
 ⟨14,Jt 51 (.bin .add (.t 50) (.c (.int .i64 1))) 45,[]⟩,
 ⟨15,Jt 52 (.idx 5 (.t 49) (.t 51)) 45,[]⟩,
 ⟨16,Kf 53 0 52 45,[]⟩,
 ⟨17,Kf 54 0 53 45,[]⟩,
 ⟨18,Kl 55 54 45,[]⟩,
 ⟨19,Kf 56 0 4 45,[]⟩,
 ⟨20,Kf 57 0 56 45,[]⟩,
 ⟨21,Kl 58 57 45,[]⟩,
 ⟨22,Jt 59 (.bin .eql (.t 55) (.t 58)) 45,[]⟩,
 ⟨23,Ja 60 45 59,[]⟩,
 ⟨24,Jm 61 60,[]⟩,
 ⟨25,Kf 62 0 1 61,[]⟩,
 ⟨26,Kf 63 0 62 61,[]⟩,
 ⟨27,Kf 64 1 63 61,[]⟩,
 ⟨28,Kl 65 64 61,[]⟩,
 ⟨29,Ju 66 3 61,[]⟩,
 ⟨30,Jt 67 (.bin .add (.t 66) (.c (.int .i64 1))) 61,[]⟩,
 ⟨31,Jt 68 (.idx 5 (.t 65) (.t 67)) 61,[]⟩,
 ⟨32,Kf 69 0 68 61,[]⟩,
 ⟨33,Kf 70 1 69 61,[]⟩,
 ⟨34,Kl 71 70 61,[]⟩,
 ⟨35,Jt 72 (.bin .neq (.t 71) (.c (.int .i64 8))) 61,[]⟩,
 ⟨36,Ja 73 61 72,[]⟩]
def yKP : List zA := [
 Jc 2 (.bool false)]
def yMc : List zA := [
 Kb 74 .add 10 1,Jm 10 74]
def yEl : List zA := [
 Jc 2 (.bool true)]
def yGA : zJ := ⟨75, [.slot 2],
  (Jz yIl [1] (.seq (Jz yPO [1,8,9,10] (.block 0 (.loop [1,8,9,10] (Jz yLV [1,8,9,10,11] (.seq (.cond (.t 11) .skip (.exit 0)) (.seq (.block 1 (Jz yPY [1,3,4,8,9,10] (.seq (Jz yMH [1,3,4,8,9,10,18] (.cond (.t 18) (.exit 1) .skip)) (.seq (.seq (.regd yMB [1,3,4,8,9,10,36]) (.cond (.t 36) (Jz yNa [2] .ret) .skip)) (.seq (.regd yNo [1,8,9,10,73]) (.cond (.t 73) (Jz yKP [2] .ret) .skip)))))) (.reg yMc [1,8,9,10]))))))) (Jz yEl [2] .ret)))⟩
def yHx : List zA := [
 Kx 1 0,Jc 2 (.bool false)]
def yNG : List zA := [
 Jf 6 0 1,Jf 7 0 6,Jf 8 1 7,Jl 9 8,Je 10 9,Jc 11 (.int .i64 0)]
def yIR : List zA := [
 Kc 12 .lss 11 10]
def yNR : List zA := [
 Jm 13 11,Ji 14 5 9 11,Jk 15 5 14,Js 4 (.new [.string ⟨#[]⟩,.int .i64 0,.int .i64 0,.slice none 0 0,.slice none 0 0]),Jm 3 13,Jw 5 4 15]
def yLb : List zA := [
 Jf 16 0 4,Jf 17 1 16,Jl 18 17,Jm 5 18]
def yJt : List zA := [
 Jf 19 2 1,Jl 20 19,Jm 21 3,Ji 22 1 20 21,Jl 23 22]
def yIY : List zA := [
 Js 27 (.bin .eql (.t 23) (.c (.string ⟨#[]⟩))),Jm 26 27]
def yPe : List zA := [
 Jm 28 5,Kb 29 .eql 28 6]
def yAH : List zA := [
 Jc 2 (.bool false)]
def zTi : List zA := [
 Jf 31 0 4,Jf 32 0 31,Jl 33 32,Kc 34 .eql 23 33,Jm 30 34]
def zVu : List zA := [
 Jm 35 5,Kb 36 .neq 35 2,Jm 37 36,Ju 38 5 37,Jt 39 (.bin .neq (.t 38) (.c (.int .i64 6))) 37,Ja 40 37 39,Jm 41 40,Ju 42 5 41,Jt 43 (.bin .neq (.t 42) (.c (.int .i64 8))) 41,Ja 44 41 43,Jm 45 44,Ju 46 5 45,Jt 47 (.bin .neq (.t 46) (.c (.int .i64 1))) 45,Ja 48 45 47]
def yAv : List zA := [
 Jc 2 (.bool false)]
def yJo : List zA := [
 Jm 24 5,Kb 25 .neq 24 1]
def yJh : List zA := [
 Jc 2 (.bool false)]
def zVJ : List zA := [
 Kb 49 .add 11 1,Jm 11 49]
def yEb : List zA := [
 Jc 2 (.bool true)]
def yHk : zJ := ⟨50, [.slot 2],
  (Jz yHx [1] (.seq (Jz yNG [1,9,10,11] (.block 0 (.loop [1,9,10,11] (Jz yIR [1,9,10,11,12] (.seq (.cond (.t 12) .skip (.exit 0)) (.seq (.block 1 (Jz yNR [1,3,4,9,10,11] (Jz yLb [1,3,4,5,9,10,11] (Jz yJt [1,4,5,9,10,11,23] (.block 2 (Jz yIY [1,4,5,9,10,11,23,26] (.cond (.t 26) (Jz yPe [1,9,10,11,29] (.cond (.t 29) (Jz yAH [2] .ret) .skip)) (Jz zTi [1,5,9,10,11,30] (.cond (.t 30) (Jz zVu [1,9,10,11,48] (.cond (.t 48) (Jz yAv [2] .ret) .skip)) (Jz yJo [1,9,10,11,25] (.cond (.t 25) (Jz yJh [2] .ret) .skip))))))))))) (.reg zVJ [1,9,10,11]))))))) (Jz yEb [2] .ret)))⟩
def yPL : List zA := [
 Kx 1 0,Jc 2 (.bool false)]
def yOU : List zA := [
 Jf 6 0 1,Jf 7 0 6,Jf 8 1 7,Jl 9 8,Je 10 9,Jc 11 (.int .i64 0)]
def yMA : List zA := [
 Kc 12 .lss 11 10]
def yKo : List zA := [
 Jm 13 11,Ji 14 5 9 11,Jk 15 5 14,Js 4 (.new [.string ⟨#[]⟩,.int .i64 0,.int .i64 0,.slice none 0 0,.slice none 0 0]),Jm 3 13,Jw 5 4 15]
def yKO : List zA := [
 Jf 16 2 1,Jl 17 16,Jm 18 3,Ji 19 1 17 18,Jl 20 19,Js 21 (.bin .neq (.t 20) (.c (.string ⟨#[]⟩))),Jm 22 21,Kf 23 0 4 22,Kf 24 1 23 22,Kl 25 24 22,Jt 26 (.bin .eql (.t 25) (.c (.int .i64 2))) 22,Ju 27 26 22,Kg 28 0 4 27,Kg 29 1 28 27,Km 30 29 27,Jn 31 (.bin .eql (.t 30) (.c (.int .i64 1))) 27,Jt 32 (.pick (.t 27) (.c (.bool true)) (.t 31)) 22,Ja 33 22 32,Jm 5 33]
def yHU : List zA := [
 Jm 34 5,Jm 35 34,Kf 36 4 4 35,Kl 37 36 35,Jt 38 (.len false (.t 37)) 35,Jt 39 (.bin .gtr (.t 38) (.c (.int .i64 0))) 35,Ja 40 35 39]
def yLA : List zA := [
 Jc 2 (.bool false)]
def yMx : List zA := [
 Kb 41 .add 11 1,Jm 11 41]
def yPE : List zA := [
 Jc 2 (.bool true)]
def yGO : zJ := ⟨42, [.slot 2],
  (Jz yPL [1] (.seq (Jz yOU [1,9,10,11] (.block 0 (.loop [1,9,10,11] (Jz yMA [1,9,10,11,12] (.seq (.cond (.t 12) .skip (.exit 0)) (.seq (.block 1 (Jz yKo [1,3,4,9,10,11] (Jz yKO [1,4,5,9,10,11] (Jz yHU [1,9,10,11,40] (.cond (.t 40) (Jz yLA [2] .ret) .skip))))) (.reg yMx [1,9,10,11]))))))) (Jz yPE [2] .ret)))⟩
def yNS : List zA := [
 Kx 1 0,Jc 2 (.bool false)]
def yKY : List zA := [
 Jf 5 0 1,Jf 6 0 5,Jf 7 1 6,Jl 8 7,Je 9 8,Jc 10 (.int .i64 0)]
def yJv : List zA := [
 Kc 11 .lss 10 9]
def yJM : List zA := [
 Ji 12 5 8 10,Jk 13 5 12,Js 4 (.new [.string ⟨#[]⟩,.int .i64 0,.int .i64 0,.slice none 0 0,.slice none 0 0]),Jw 5 4 13]
def yPg : List zA := [
 Jf 14 4 4,Jl 15 14,Jf 16 0 1,Jf 17 0 16,Jf 18 0 17,Jl 19 18,Jp 20 84 [.t 15,.t 19],Kn 21 20]
def yLm : List zA := [
 Jc 2 (.bool false)]
def yMk : List zA := [
 Kb 22 .add 10 1,Jm 10 22]
def yLK : List zA := [
 Jc 2 (.bool true)]
def yFq : zJ := ⟨23, [.slot 2],
  (Jz yNS [1] (.seq (Jz yKY [1,8,9,10] (.block 0 (.loop [1,8,9,10] (Jz yJv [1,8,9,10,11] (.seq (.cond (.t 11) .skip (.exit 0)) (.seq (.block 1 (Jz yJM [1,4,8,9,10] (Jz yPg [1,8,9,10,21] (.cond (.t 21) (Jz yLm [2] .ret) .skip)))) (.reg yMk [1,8,9,10]))))))) (Jz yLK [2] .ret)))⟩
def yJE : List zA := [
 Jc 4 (.bool false)]
def yNf : List zA := [
 Jm 5 0,Js 6 (.len true (.t 5)),Jm 7 1,Js 8 (.len true (.t 7)),Kc 9 .geq 6 8,Jm 10 9,Ju 11 0 10,Ju 12 1 10,Jt 13 (.len true (.t 12)) 10,Jt 14 (.slcs (.t 11) none (some (.t 13))) 10,Ju 15 1 10,Jt 16 (.bin .eql (.t 14) (.t 15)) 10,Ja 17 10 16,Jm 4 17]
def yFl : zJ := ⟨18, [.slot 4],
  (Jz yJE [0,1] (Jz yNf [4] .ret))⟩
def zOS : List zA := [
 Jm 5 0,Je 6 5,Jm 4 6]
def zRg : List zA := [
 Jm 7 0,Jm 8 4,Jm 9 4,Js 10 (.cvi .u64 (.t 9)),Jp 11 85 [.t 10],Jm 12 1,Jx 13 86 [.t 7,.c (.int .i64 0),.t 8,.t 11,.t 12]]
def zKr : zJ := ⟨14, [],
  (Jz zOS [0,1,4] (.reg zRg []))⟩
def yJp : List zA := [
 Jc 4 (.int .i64 0)]
def yLk : List zA := [
 Jm 7 0,Jp 8 88 [.t 7],Jm 5 8]
def yOi : List zA := [
 Jm 9 1,Jp 10 88 [.t 9],Jm 6 10]
def yLc : List zA := [
 Jm 11 5]
def yMG : List zA := [
 Jm 12 6]
def yMS : List zA := [
 Jc 4 (.int .i64 0)]
def yNE : List zA := [
 Jc 4 (.int .i64 (-1))]
def yKS : List zA := [
 Jm 13 6]
def yIo : List zA := [
 Jc 4 (.int .i64 1)]
def yJl : List zA := [
 Jm 14 0,Jm 15 1,Kc 16 .lss 14 15]
def zTg : List zA := [
 Jc 4 (.int .i64 (-1))]
def zVC : List zA := [
 Jm 17 0,Jm 18 1,Kc 19 .gtr 17 18]
def yEu : List zA := [
 Jc 4 (.int .i64 1)]
def zXT : List zA := [
 Jc 4 (.int .i64 0)]
def yFd : zJ := ⟨20, [.slot 4],
  (Jz yJp [0,1] (Jz yLk [0,1,5] (Jz yOi [0,1,5,6] (.seq (Jz yLc [0,1,6,11] (.cond (.t 11) (.seq (Jz yMG [12] (.cond (.t 12) (Jz yMS [4] .ret) .skip)) (Jz yNE [4] .ret)) .skip)) (.seq (Jz yKS [0,1,13] (.cond (.t 13) (Jz yIo [4] .ret) .skip)) (.seq (Jz yJl [0,1,16] (.cond (.t 16) (Jz zTg [4] .ret) .skip)) (.seq (Jz zVC [19] (.cond (.t 19) (Jz yEu [4] .ret) .skip)) (Jz zXT [4] .ret))))))))⟩
def yHQ : List zA := [
 Jm 6 0,Js 7 (.bin .eql (.t 6) (.c (.string ⟨#[46]⟩)))]
def yPd : List zA := [
 Jm 8 0,Jm 4 8]
def yMn : List zA := [
 Jm 9 4,Jp 10 90 [.t 9,.c (.int .u8 46)],Jm 5 10]
def yNp : List zA := [
 Jm 11 1,Jm 12 4,Jm 13 5,Kb 14 .add 13 1,Js 15 (.slcs (.t 12) (some (.t 14)) none),
 ⟨some 16,.callv (.t 11) [.t 15],none⟩,Kn 17 16,Jm 18 17,Jv 19 5 18,Jn 20 (.bin .lss (.t 19) (.c (.int .i64 0))) 18,Jr 21 18 20]
def yIA : List zA := [
 Jm 22 4,Jm 23 5,Js 24 (.slcs (.t 22) none (some (.t 23))),Jm 4 24]
def yFw : zJ := ⟨25, [],
  (.seq (Jz yHQ [0,1,7] (.cond (.t 7) .ret .skip)) (Jz yPd [1,4] (.block 0 (.loop [1,4] (.block 1 (Jz yMn [1,4,5] (.seq (Jz yNp [1,4,5,21] (.cond (.t 21) .ret .skip)) (.reg yIA [1,4]))))))))⟩
def yJD : List zA := [
 Jc 2 (.bool false)]
def yNw : List zA := [
 Jm 5 0,Js 6 (.len true (.t 5)),Kb 7 .lss 6 1,Jm 8 7,Jv 9 0 8,Jn 10 (.len true (.t 9)) 8,Jn 11 (.bin .gtr (.t 10) (.c (.int .i64 12))) 8,Jr 12 8 11,Jm 13 12,Jv 14 0 13,Jn 15 (.idxs (.t 14) (.c (.int .i64 0))) 13,Jn 16 (.bin .eql (.t 15) (.c (.int .u8 45))) 13,Jr 17 13 16,Jm 18 17,Jv 19 0 18,Jv 20 0 18,Jn 21 (.len true (.t 20)) 18,Jn 22 (.bin .sub (.t 21) (.c (.int .i64 1))) 18,Jn 23 (.idxs (.t 19) (.t 22)) 18,Jn 24 (.bin .eql (.t 23) (.c (.int .u8 45))) 18,Jr 25 18 24]
def yML : List zA := [
 Jc 2 (.bool false)]
def yKQ : List zA := [
 Jm 26 0,Js 27 (.len true (.t 26)),Jc 28 (.int .i64 0)]
def yHZ : List zA := [
 Kc 29 .lss 28 27]
def yNy : List zA := [
 Jm 30 28,Jm 3 30]
def yKq : List zA := [
 Jm 31 0,Jm 32 3,Js 33 (.idxs (.t 31) (.t 32)),Jm 4 33]
def yHP : List zA := [
 Jm 34 4,Js 35 (.bin .lss (.t 34) (.c (.int .u8 97))),Jm 36 35,Jv 37 4 36,Jn 38 (.bin .gtr (.t 37) (.c (.int .u8 122))) 36,Jr 39 36 38,Jm 40 39,Ju 41 4 40,Jt 42 (.bin .lss (.t 41) (.c (.int .u8 48))) 40,Ju 43 42 40,Jv 44 4 43,Jn 45 (.bin .gtr (.t 44) (.c (.int .u8 57))) 43,Jt 46 (.pick (.t 43) (.c (.bool true)) (.t 45)) 40,Ja 47 40 46,Jm 48 47,Ju 49 4 48,Jt 50 (.bin .neq (.t 49) (.c (.int .u8 45))) 48,Ja 51 48 50]
def yHM : List zA := [
 Jc 2 (.bool false)]
def yKA : List zA := [
 Kb 52 .add 28 1,Jm 28 52]
def yDV : List zA := [
 Jc 2 (.bool true)]
def yGg : zJ := ⟨53, [.slot 2],
  (Jz yJD [0] (.seq (Jz yNw [0,25] (.cond (.t 25) (Jz yML [2] .ret) .skip)) (.seq (Jz yKQ [0,27,28] (.block 0 (.loop [0,27,28] (Jz yHZ [0,27,28,29] (.seq (.cond (.t 29) .skip (.exit 0)) (.seq (.block 1 (Jz yNy [0,3,27,28] (Jz yKq [0,4,27,28] (Jz yHP [0,27,28,51] (.cond (.t 51) (Jz yHM [2] .ret) .skip))))) (.reg yKA [0,27,28]))))))) (Jz yDV [2] .ret))))⟩
def yJB : List zA := [
 Jc 4 (.int .i64 0)]
def yIk : List zA := [
 Jm 6 0,Je 7 6,Jc 8 (.int .i64 0)]
def yIH : List zA := [
 Kc 9 .lss 8 7]
def yMR : List zA := [
 Jm 10 8,Jm 5 10]
def yQj : List zA := [
 Jm 11 1,Jm 12 0,Jm 13 5,Ji 14 1 12 13,Jl 15 14,
 ⟨some 16,.callv (.t 11) [.t 15],none⟩]
def yQf : List zA := [
 Jm 17 5,Jm 4 17]
def yKj : List zA := [
 Kb 18 .add 8 1,Jm 8 18]
def yJW : List zA := [
 Jc 4 (.int .i64 (-1))]
def yHg : zJ := ⟨19, [.slot 4],
  (Jz yJB [0,1] (.seq (Jz yIk [0,1,7,8] (.block 0 (.loop [0,1,7,8] (Jz yIH [0,1,7,8,9] (.seq (.cond (.t 9) .skip (.exit 0)) (.seq (.block 1 (Jz yMR [0,1,5,7,8] (Jz yQj [0,1,5,7,8,16] (.cond (.t 16) (Jz yQf [4] .ret) .skip)))) (.reg yKj [0,1,7,8]))))))) (Jz yJW [4] .ret)))⟩
def yLj : List zA := [
 Jc 2 (.slice none 0 0),Jc 3 (.int .i64 0)]
def yPK : List zA := [
 Jm 9 0,Jm 4 9]
def yPw : List zA := [
 Jm 10 4,Jp 11 50 [.t 10],Kn 12 11]
def yKg : List zA := [
 Jc 2 (.slice none 0 0),Jc 3 (.int .i64 11)]
def yOb : List zA := [
 ⟨some 13,.mk 1 16 [.string ⟨#[]⟩] (.c (.int .i64 8)) (.c (.int .i64 8)),none⟩,
 ⟨some 5,.newH [.slice none 0 0],none⟩,Jw 1 5 13]
def yKz : List zA := [
 Jl 14 5,Je 15 14,
 ⟨some 6,.newH [.int .i64 0],none⟩,Jw 1 6 15]
def yOp : List zA := [
 Jm 16 4,Js 17 (.mkf 65 [.t 16] []),Jm 7 17]
def yLY : List zA := [
 Jm 18 7]
def yMv : List zA := [
 Jm 8 19]
def yIs : List zA := [
 Jl 20 6,Kb 21 .sub 20 1,Jw 1 6 21]
def zTV : List zA := [
 Jl 22 5,Jl 23 6,Jm 24 8,Ji 25 1 22 23,Jw 1 25 24]
def zUY : List zA := [
 Jl 26 5,Jl 27 6,Jl 28 5,Je 29 28,Jl 30 5,Je 31 30,Js 32 (.slc 1 (.t 26) (some (.t 27)) (some (.t 29)) (some (.t 31))),Jm 2 32,Jc 3 (.int .i64 0)]
def yGf : zJ := ⟨33, [.slot 2, .slot 3],
  (Jz yLj [0,2,3] (Jz yPK [2,3,4] (.seq (Jz yPw [2,3,4,12] (.cond (.t 12) (Jz yKg [2,3] .ret) .skip)) (Jz yOb [2,3,4,5] (Jz yKz [2,3,4,5,6] (Jz yOp [2,3,5,6,7] (.seq (Jz yLY [2,3,5,6,18] (.block 0 (.rangeF (.t 18) [19] (.reg yMv [5,6,8]) (.block 1 (Jz yIs [5,6,8] (.reg zTV [])))))) (Jz zUY [2,3] .ret))))))))⟩
def yMr : List zA := [
 Jc 6 (.bool false)]
def yIK : List zA := [
 Jm 7 1,Jm 8 0,Kc 9 .leq 7 8,Jm 10 9,Ju 11 0 10,Ju 12 2 10,Jt 13 (.bin .leq (.t 11) (.t 12)) 10,Ja 14 10 13,Jm 6 14]
def yGZ : zJ := ⟨15, [.slot 6],
  (Jz yMr [0,1,2] (Jz yIK [6] .ret))⟩
def yLf : List zA := [
 Jc 2 (.bool false)]
def yLD : List zA := [
 Jm 3 0,
 ⟨some 4,.callp 44 [.t 3,.c (.string ⟨#[42]⟩)],none⟩,Jm 2 4]
def yFi : zJ := ⟨5, [.slot 2],
  (Jz yLf [0] (Jz yLD [2] .ret))⟩
def yHX : List zA := [
 Kx 2 0,Kx 3 1,Jc 4 (.bool false)]
def yOc : List zA := [
 Jf 5 1 3,Jl 6 5,Jf 7 1 2,Jl 8 7,Jf 9 2 2,Jl 10 9,Jp 11 74 [.t 6,.t 8,.t 10],Kn 12 11,Jm 13 12,Kg 14 2 3 13,Km 15 14 13,Kg 16 3 2 13,Km 17 16 13,Kg 18 4 2 13,Km 19 18 13,
 ⟨some 20,.callp 74 [.t 15,.t 17,.t 19],(some (13,false))⟩,Jn 21 (.not (.t 20)) 13,Jr 22 13 21,Jm 23 22,Kg 24 5 2 23,Km 25 24 23,Jv 26 25 23,Kf 27 1 3 26,Kl 28 27 26,Jt 29 (.bin .rem (.t 28) (.c (.int .i64 2))) 26,Jt 30 (.bin .neq (.t 29) (.c (.int .i64 0))) 26,Jn 31 (.pick (.t 26) (.t 30) (.c (.bool false))) 23,Jr 32 23 31]
def yJK : List zA := [
 Jc 4 (.bool false)]
def yOe : List zA := [
 Jf 33 0 2,Jl 34 33]
def yJU : List zA := [
 Kb 36 .eql 34 1,Jm 35 36]
def yPu : List zA := [
 Jf 37 0 3,Jl 38 37,Jp 39 45 [.t 38],Jm 40 39,Kf 41 0 3 40,Kl 42 41 40,
 ⟨some 43,.callp 76 [.t 42],(some (40,true))⟩,Jt 44 (.not (.t 43)) 40,Ja 45 40 44,Jm 4 45]
def yIS : List zA := [
 Kb 47 .eql 34 2,Jm 46 47]
def yKy : List zA := [
 Jf 48 0 3,Jl 49 48,Jp 50 45 [.t 49],Jm 4 50]
def yOf : List zA := [
 Kb 52 .eql 34 3,Jm 51 52]
def yMl : List zA := [
 Jf 53 0 3,Jl 54 53,Jp 55 91 [.t 54],Jm 4 55]
def zZU : List zA := [
 Jf 56 0 3,Jl 57 56,Js 58 (.bin .eql (.t 57) (.c (.string ⟨#[]⟩))),Jm 4 58]
def yGv : zJ := ⟨59, [.slot 4],
  (Jz yHX [2,3] (.seq (Jz yOc [2,3,32] (.cond (.t 32) (Jz yJK [4] .ret) .skip)) (.seq (Jz yOe [3,34] (.block 0 (Jz yJU [3,34,35] (.cond (.t 35) (Jz yPu [4] .ret) (Jz yIS [3,34,46] (.cond (.t 46) (Jz yKy [4] .ret) (Jz yOf [3,51] (.cond (.t 51) (Jz yMl [4] .ret) .skip)))))))) (Jz zZU [4] .ret))))⟩
def yJb : List zA := [
 Kx 2 0,Kx 3 1,Jc 4 (.int .i64 0)]
def yNK : List yS := [
 ⟨0,Jf 5 0 2,[]⟩,
 ⟨1,Jl 6 5,[]⟩,
 ⟨2,Jf 7 0 3,[]⟩,
 ⟨3,Jl 8 7,[]⟩,
 ⟨5,Jf 10 1 2,[]⟩,
 ⟨6,Jl 11 10,[]⟩,
 ⟨7,Jf 12 1 3,[]⟩,
 ⟨8,Jl 13 12,[]⟩,
 ⟨10,Jf 15 2 2,[]⟩,
 ⟨11,Jl 16 15,[]⟩,
 ⟨12,Jf 17 2 3,[]⟩,
 ⟨13,Jl 18 17,[]⟩,
 ⟨4,Jp 9 92 [.t 6,.t 8],[5,6,7,8,10,11,12,13]⟩,
 ⟨9,Jp 14 89 [.t 11,.t 13],[10,11,12,13]⟩,
 ⟨14,Jp 19 89 [.t 16,.t 18],[]⟩,
 ⟨15,⟨some 20,.mksl 1 3 [.int .i64 0,.int .i64 0,.int .i64 0] [(0,1,.t 9),(1,1,.t 14),(2,1,.t 19)],none⟩,[]⟩,
 ⟨16,Jp 21 93 [.t 20],[]⟩,
 ⟨17,Jm 4 21,[]⟩]
def yFV : zJ := ⟨22, [.slot 4],
  (Jz yJb [2,3] (.seq (.regd yNK [4]) .ret))⟩
def yKE : List zA := [
 Jc 4 (.bool false),Jc 5 (.int .i64 0)]
def yOH : List zA := [
 Jm 6 0,Jp 7 50 [.t 6],Kn 8 7,Jm 9 8,Jv 10 1 9,
 ⟨some 11,.callp 50 [.t 10],(some (9,false))⟩,Jn 12 (.not (.t 11)) 9,Jr 13 9 12]
def yIq : List zA := [
 Jc 4 (.bool false),Jc 5 (.int .i64 11)]
def yII : List zA := [
 Jm 14 0,Jm 15 1,Kc 16 .eql 14 15,Jm 17 16,Jv 18 1 17,Jn 19 (.bin .eql (.t 18) (.c (.string ⟨#[46]⟩))) 17,Jr 20 17 19]
def yKu : List zA := [
 Jc 4 (.bool true),Jc 5 (.int .i64 0)]
def yPi : List zA := [
 Jm 21 0,Js 22 (.len true (.t 21)),Jm 23 1,Js 24 (.len true (.t 23)),Kc 25 .gtr 22 24,Jm 26 25,Ju 27 0 26,Ju 28 1 26,
 ⟨some 29,.callp 94 [.t 27,.t 28],(some (26,true))⟩,Ja 30 26 29,Jm 31 30,Ju 32 0 31,Ju 33 0 31,Jt 34 (.len true (.t 33)) 31,Ju 35 1 31,Jt 36 (.len true (.t 35)) 31,Jt 37 (.bin .sub (.t 34) (.t 36)) 31,Jt 38 (.bin .sub (.t 37) (.c (.int .i64 1))) 31,Jt 39 (.idxs (.t 32) (.t 38)) 31,Jt 40 (.bin .eql (.t 39) (.c (.int .u8 46))) 31,Ja 41 31 40,Jm 4 41,Jc 5 (.int .i64 0)]
def yFF : zJ := ⟨42, [.slot 4, .slot 5],
  (Jz yKE [0,1] (.seq (Jz yOH [0,1,13] (.cond (.t 13) (Jz yIq [4,5] .ret) .skip)) (.seq (Jz yII [0,1,20] (.cond (.t 20) (Jz yKu [4,5] .ret) .skip)) (Jz yPi [4,5] .ret))))⟩
def yPI : List zA := [
 Jc 8 (.int .i64 0)]
def yHV : List zA := [
 Jm 11 0,Jm 12 2,Kc 13 .neq 11 12]
def yOr : List zA := [
 Jm 15 0,Jm 16 2,Jp 17 95 [.t 15,.t 16],Jm 14 17,Ke 18 0 14,Ke 19 1 14,Jm 9 18,Jm 10 19]
def yNu : List zA := [
 Jm 20 9,Jm 8 20]
def yMh : List zA := [
 Jm 21 1,Jm 22 3,Jp 23 89 [.t 21,.t 22],Jm 8 23]
def yFE : zJ := ⟨24, [.slot 8],
  (Jz yPI [0,1,2,3] (.seq (Jz yHV [0,1,2,3,13] (.cond (.t 13) (Jz yOr [9] (Jz yNu [8] .ret)) .skip)) (Jz yMh [8] .ret)))⟩
def yNA : List zA := [
 Kx 2 0,Kx 3 1,Jc 4 (.int .i64 0),Jc 5 (.bool false)]
def yLC : List zA := [
 Jf 6 0 2,Jf 7 1 6,Jl 8 7,Jk 9 2 3,Jp 10 97 [.t 8,.t 9,.f 96],Ke 11 0 10,Ke 12 1 10,Jm 4 11,Jm 5 12]
def yGW : zJ := ⟨13, [.slot 4, .slot 5],
  (Jz yNA [2,3] (Jz yLC [4,5] .ret))⟩
def yHz : List zA := [
 Jc 4 (.bool false)]
def yIN : List zA := [
 Jm 5 0]
def yNz : List zA := [
 Kb 7 .eql 5 3,Jm 6 7]
def yKK : List zA := [
 Kb 8 .eql 5 6,Jm 6 8]
def yJa : List zA := [
 Jm 9 1,Kn 10 9,Jm 4 10]
def yKd : List zA := [
 Kb 12 .eql 5 4,Jm 11 12]
def yMm : List zA := [
 Kb 13 .eql 5 7,Jm 11 13]
def yIB : List zA := [
 Jm 14 1,Jm 4 14]
def yKM : List zA := [
 Jc 4 (.bool true)]
def yFB : zJ := ⟨15, [.slot 4],
  (Jz yHz [0,1] (.seq (Jz yIN [1,5] (.block 0 (.seq (Jz yNz [1,5,6] (.cond (.t 6) .skip (.reg yKK [1,5,6]))) (.cond (.t 6) (Jz yJa [4] .ret) (.seq (Jz yKd [1,5,11] (.cond (.t 11) .skip (.reg yMm [1,11]))) (.cond (.t 11) (Jz yIB [4] .ret) .skip)))))) (Jz yKM [4] .ret)))⟩
def yLX : List zA := [
 Jc 4 (.bool false)]
def yKT : List zA := [
 Jm 7 0,Je 8 7,Kb 9 .gtr 8 6]
def yKl : List zA := [
 Jc 4 (.bool false)]
def yIV : List zA := [
 Jm 10 0,Je 11 10,Jc 12 (.int .i64 0)]
def yMw : List zA := [
 Kc 13 .lss 12 11]
def yIZ : List zA := [
 Jm 14 12,Ji 15 6 10 12,Jk 16 6 15,Js 6 (.new [.string ⟨#[]⟩,.int .i64 0,.int .i64 0,.int .i64 0,.int .i64 0,.int .u64 0]),Jm 5 14,Jw 6 6 16]
def yHs : List zA := [
 Jf 17 0 6,Jl 18 17,Jm 19 1,Kc 20 .neq 18 19,Jm 21 20,Kg 22 1 6 21,Km 23 22 21,Jn 24 (.bin .lss (.t 23) (.c (.int .i64 1))) 21,Jr 25 21 24,Jm 26 25,Kg 27 1 6 26,Km 28 27 26,Jn 29 (.bin .gtr (.t 28) (.c (.int .i64 1000000))) 26,Jr 30 26 29,Jm 31 30,Kg 32 2 6 31,Km 33 32 31,Jn 34 (.bin .lss (.t 33) (.c (.int .i64 1))) 31,Jr 35 31 34,Jm 36 35,Kg 37 2 6 36,Km 38 37 36,Jn 39 (.bin .gtr (.t 38) (.c (.int .i64 3))) 36,Jr 40 36 39]
def yLO : List zA := [
 Jc 4 (.bool false)]
def yIP : List zA := [
 Jf 41 3 6,Jl 42 41,Kb 43 .lss 42 0,Jm 44 43,Kg 45 3 6 44,Km 46 45 44,Kg 47 4 6 44,Km 48 47 44,Jn 49 (.bin .gtr (.t 46) (.t 48)) 44,Jr 50 44 49,Jm 51 50,Kg 52 4 6 51,Km 53 52 51,Jn 54 (.bin .gtr (.t 53) (.c (.int .i64 20000000))) 51,Jr 55 51 54]
def yNn : List zA := [
 Jc 4 (.bool false)]
def zSF : List yS := [
 ⟨0,Jm 56 5,[]⟩,
 ⟨1,Kb 57 .gtr 56 0,[]⟩,
 ⟨2,Jm 58 57,[]⟩,
 ⟨3,Kf 59 3 6 58,[]⟩,
 ⟨4,Kl 60 59 58,[]⟩,
 ⟨5,Ju 61 0 58,[]⟩,
 ⟨6,Jt 62 (.idx 6 (.t 61) (.c (.int .i64 0))) 58,[]⟩,
 ⟨7,Kf 63 3 62 58,[]⟩,
 ⟨8,Kl 64 63 58,[]⟩,
 ⟨9,Jt 65 (.bin .neq (.t 60) (.t 64)) 58,[]⟩,
 ⟨10,Ju 66 65 58,[]⟩,
 ⟨11,Kg 67 4 6 66,[]⟩,
 ⟨12,Km 68 67 66,[]⟩,
 ⟨13,Jv 69 0 66,[]⟩,
 ⟨14,Jn 70 (.idx 6 (.t 69) (.c (.int .i64 0))) 66,[]⟩,
 ⟨15,Kg 71 4 70 66,[]⟩,
 ⟨16,Km 72 71 66,[]⟩,
 ⟨17,Jn 73 (.bin .neq (.t 68) (.t 72)) 66,[]⟩,
 ⟨18,Jt 74 (.pick (.t 66) (.c (.bool true)) (.t 73)) 58,[]⟩,
 ⟨19,Ju 75 74 58,[]⟩,
 ⟨20,Kg 76 1 6 75,[]⟩,
 ⟨21,Km 77 76 75,[]⟩,
 ⟨22,Jv 78 0 75,[]⟩,
 ⟨23,Jv 79 5 75,[]⟩,
 ⟨24,Jn 80 (.bin .sub (.t 79) (.c (.int .i64 1))) 75,[]⟩,
 ⟨25,Jn 81 (.idx 6 (.t 78) (.t 80)) 75,[]⟩,
 ⟨26,Kg 82 1 81 75,[]⟩,
 ⟨27,Km 83 82 75,[]⟩,
 ⟨28,Jn 84 (.bin .leq (.t 77) (.t 83)) 75,[]⟩,
 ⟨29,Jt 85 (.pick (.t 75) (.c (.bool true)) (.t 84)) 58,[]⟩,
 ⟨30,Ja 86 58 85,[]⟩]
def yCd : List zA := [
 Jc 4 (.bool false)]
def yBq : List zA := [
 Kb 87 .add 12 1,Jm 12 87]
def zWF : List zA := [
 Jc 4 (.bool true)]
def yFk : zJ := ⟨88, [.slot 4],
  (Jz yLX [0,1] (.seq (Jz yKT [0,1,9] (.cond (.t 9) (Jz yKl [4] .ret) .skip)) (.seq (Jz yIV [0,1,10,11,12] (.block 0 (.loop [0,1,10,11,12] (Jz yMw [0,1,10,11,12,13] (.seq (.cond (.t 13) .skip (.exit 0)) (.seq (.block 1 (Jz yIZ [0,1,5,6,10,11,12] (.seq (Jz yHs [0,1,5,6,10,11,12,40] (.cond (.t 40) (Jz yLO [4] .ret) .skip)) (.seq (Jz yIP [0,1,5,6,10,11,12,55] (.cond (.t 55) (Jz yNn [4] .ret) .skip)) (.seq (.regd zSF [0,1,10,11,12,86]) (.cond (.t 86) (Jz yCd [4] .ret) .skip)))))) (.reg yBq [0,1,10,11,12]))))))) (Jz zWF [4] .ret))))⟩
def yPp : List zA := [
 Jc 2 (.bool false)]
def yOd : List zA := [
 Jm 3 0,Jm 4 0,Kc 5 .neq 3 4,Jm 2 5]
def yGs : zJ := ⟨6, [.slot 2],
  (Jz yPp [0] (Jz yOd [2] .ret))⟩
def yIc : List zA := [
 Jc 4 (.int .i64 0)]
def yQb : List zA := [
 Jm 5 0,Jm 6 1,Jp 7 98 [.t 5,.t 6],Jm 4 7]
def yGt : zJ := ⟨8, [.slot 4],
  (Jz yIc [0,1] (Jz yQb [4] .ret))⟩
def yJY : List zA := [
 Jc 2 (.bool false)]
def yIO : List zA := [
 Jm 5 0,Js 6 (.len true (.t 5)),Jp 7 74 [.t 6,.c (.int .i64 1),.c (.int .i64 40)],Kn 8 7,Jm 9 8,Jv 10 0 9,Jn 11 (.idxs (.t 10) (.c (.int .i64 0))) 9,Jn 12 (.bin .eql (.t 11) (.c (.int .u8 32))) 9,Jr 13 9 12,Jm 14 13,Jv 15 0 14,Jv 16 0 14,Jn 17 (.len true (.t 16)) 14,Jn 18 (.bin .sub (.t 17) (.c (.int .i64 1))) 14,Jn 19 (.idxs (.t 15) (.t 18)) 14,Jn 20 (.bin .eql (.t 19) (.c (.int .u8 32))) 14,Jr 21 14 20]
def yOE : List zA := [
 Jc 2 (.bool false)]
def yIG : List zA := [
 Jm 22 0,Js 23 (.len true (.t 22)),Jc 24 (.int .i64 0)]
def yLo : List zA := [
 Kc 25 .lss 24 23]
def yIW : List zA := [
 Jm 26 24,Jm 3 26]
def yOC : List zA := [
 Jm 27 0,Jm 28 3,Js 29 (.idxs (.t 27) (.t 28)),Jm 4 29]
def yIF : List zA := [
 Jm 30 4,Jp 31 99 [.t 30,.c (.int .u8 97),.c (.int .u8 122)],Kn 32 31,Jm 33 32,Ju 34 4 33,
 ⟨some 35,.callp 99 [.t 34,.c (.int .u8 48),.c (.int .u8 57)],(some (33,true))⟩,Jt 36 (.not (.t 35)) 33,Ja 37 33 36,Jm 38 37,Ju 39 4 38,Jt 40 (.bin .neq (.t 39) (.c (.int .u8 32))) 38,Ja 41 38 40]
def yHv : List zA := [
 Jc 2 (.bool false)]
def yLT : List zA := [
 Kb 42 .add 24 1,Jm 24 42]
def zSR : List zA := [
 Jc 2 (.bool true)]
def yGH : zJ := ⟨43, [.slot 2],
  (Jz yJY [0] (.seq (Jz yIO [0,21] (.cond (.t 21) (Jz yOE [2] .ret) .skip)) (.seq (Jz yIG [0,23,24] (.block 0 (.loop [0,23,24] (Jz yLo [0,23,24,25] (.seq (.cond (.t 25) .skip (.exit 0)) (.seq (.block 1 (Jz yIW [0,3,23,24] (Jz yOC [0,4,23,24] (Jz yIF [0,23,24,41] (.cond (.t 41) (Jz yHv [2] .ret) .skip))))) (.reg yLT [0,23,24]))))))) (Jz zSR [2] .ret))))⟩
def yHu : List zA := [
 Jc 2 (.int .i64 0)]
def yKh : List zA := [
 Jc 3 (.int .i64 0)]
def yIy : List zA := [
 Jm 6 0,Je 7 6,Jc 8 (.int .i64 0)]
def yPx : List zA := [
 Kc 9 .lss 8 7]
def yID : List zA := [
 Ji 10 1 6 8,Jl 11 10,Jm 5 11]
def yNN : List zA := [
 Jm 12 5,Jm 13 3,Kc 14 .neq 12 13]
def yMb : List zA := [
 Jm 15 5,Jm 2 15]
def yNg : List zA := [
 Kb 16 .add 8 1,Jm 8 16]
def yNL : List zA := [
 Jm 17 3,Jm 2 17]
def yGj : zJ := ⟨18, [.slot 2],
  (Jz yHu [0] (Jz yKh [0,3] (.seq (Jz yIy [3,6,7,8] (.block 0 (.loop [3,6,7,8] (Jz yPx [3,6,7,8,9] (.seq (.cond (.t 9) .skip (.exit 0)) (.seq (.block 1 (Jz yID [3,5,6,7,8] (Jz yNN [3,5,6,7,8,14] (.cond (.t 14) (Jz yMb [2] .ret) .skip)))) (.reg yNg [3,6,7,8]))))))) (Jz yNL [2] .ret))))⟩
def yLI : List zA := [
 Jc 4 (.int .i64 0)]
def yPF : List zA := [
 Jm 7 0,Jp 8 100 [.t 7],Jm 5 8]
def yNB : List zA := [
 Jm 9 1,Jp 10 100 [.t 9],Jm 6 10]
def yMz : List zA := [
 Jm 11 5]
def yNe : List zA := [
 Jm 12 6]
def yOQ : List zA := [
 Jc 4 (.int .i64 0)]
def yOn : List zA := [
 Jc 4 (.int .i64 (-1))]
def yNm : List zA := [
 Jm 13 6]
def yIv : List zA := [
 Jc 4 (.int .i64 1)]
def yLn : List zA := [
 Jm 14 0,Jm 15 1,Kc 16 .lss 14 15]
def yCP : List zA := [
 Jc 4 (.int .i64 (-1))]
def yEz : List zA := [
 Jm 17 0,Jm 18 1,Kc 19 .gtr 17 18]
def zVU : List zA := [
 Jc 4 (.int .i64 1)]
def yFc : List zA := [
 Jc 4 (.int .i64 0)]
def yHj : zJ := ⟨20, [.slot 4],
  (Jz yLI [0,1] (Jz yPF [0,1,5] (Jz yNB [0,1,5,6] (.seq (Jz yMz [0,1,6,11] (.cond (.t 11) (.seq (Jz yNe [12] (.cond (.t 12) (Jz yOQ [4] .ret) .skip)) (Jz yOn [4] .ret)) .skip)) (.seq (Jz yNm [0,1,13] (.cond (.t 13) (Jz yIv [4] .ret) .skip)) (.seq (Jz yLn [0,1,16] (.cond (.t 16) (Jz yCP [4] .ret) .skip)) (.seq (Jz yEz [19] (.cond (.t 19) (Jz zVU [4] .ret) .skip)) (Jz yFc [4] .ret))))))))⟩
def yJu : List zA := [
 Jc 4 (.bool false)]
def yPX : List zA := [
 Jm 5 0,Jm 6 1,Jp 7 101 [.t 5,.t 6],Jm 4 7]
def yGS : zJ := ⟨8, [.slot 4],
  (Jz yJu [0,1] (Jz yPX [4] .ret))⟩
def yNH : List zA := [
 ⟨some 4,.newH [.int .i64 0],none⟩,
 ⟨some 5,.newH [.int .i64 0],none⟩]
def yIL : List zA := [
 Jm 14 0,Jm 15 1,Jm 6 14,Jm 7 15]
def yLp : List zA := [
 Jm 16 6,Jp 17 50 [.t 16],Kn 18 17,Jm 19 18,Jv 20 7 19,
 ⟨some 21,.callp 50 [.t 20],(some (19,false))⟩,Jn 22 (.not (.t 21)) 19,Jr 23 19 22]
def yLd : List zA := [
 ⟨none,.st 1 (.t 4) (.c (.int .i64 0)),none⟩,
 ⟨none,.st 1 (.t 5) (.c (.int .i64 11)),none⟩]
def yIT : List zA := [
 Jm 24 6,Jm 25 7,Kc 26 .eql 24 25]
def yNq : List zA := [
 ⟨none,.st 1 (.t 4) (.c (.int .i64 0)),none⟩,
 ⟨none,.st 1 (.t 5) (.c (.int .i64 0)),none⟩]
def yMp : List zA := [
 Jm 27 7,Jx 28 102 [.t 27],
 ⟨some 8,.newH [.nilFunc],none⟩,Jw 1 8 28]
def yLh : List zA := [
 Jm 29 6,Js 30 (.mkf 65 [.t 29] []),Jm 9 30]
def yLF : List zA := [
 Jm 31 9]
def yLN : List zA := [
 Jm 10 32]
def zZs : List zA := [
 Jl 34 8,
 ⟨some 35,.callv (.t 34) [],none⟩,Jm 33 35,Ke 36 0 33,Ke 37 1 33,Jm 11 36,Jm 12 37]
def zWE : List zA := [
 Jm 38 12,Kn 39 38]
def zYQ : List zA := [
 ⟨none,.st 1 (.t 4) (.c (.int .i64 1)),none⟩,
 ⟨none,.st 1 (.t 5) (.c (.int .i64 0)),none⟩]
def yCR : List zA := [
 Jm 40 10,Jm 41 11,Jp 42 103 [.t 40,.t 41],Jm 13 42]
def zUx : List zA := [
 Jm 43 13,Kb 44 .neq 43 0]
def yBr : List zA := [
 Jm 45 13,Jw 1 4 45,
 ⟨none,.st 1 (.t 5) (.c (.int .i64 0)),none⟩]
def zXm : List zA := [
 ⟨none,.st 1 (.t 4) (.c (.int .i64 (-1))),none⟩,
 ⟨none,.st 1 (.t 5) (.c (.int .i64 0)),none⟩]
def yGn : zJ := ⟨46, [.cell 4 none, .cell 5 none],
  (Jz yNH [0,1,4,5] (Jz yIL [4,5,6,7] (.seq (Jz yLp [4,5,6,7,23] (.cond (.t 23) (Jz yLd [4,5] .ret) .skip)) (.seq (Jz yIT [4,5,6,7,26] (.cond (.t 26) (Jz yNq [4,5] .ret) .skip)) (Jz yMp [4,5,6,8] (Jz yLh [4,5,8,9] (.seq (Jz yLF [4,5,8,31] (.block 0 (.rangeF (.t 31) [32] (.reg yLN [4,5,8,10]) (.block 1 (Jz zZs [4,5,10,11,12] (.seq (Jz zWE [4,5,10,11,39] (.cond (.t 39) (Jz zYQ [] .ret) .skip)) (Jz yCR [4,5,13] (Jz zUx [4,5,13,44] (.cond (.t 44) (Jz yBr [] .ret) .skip))))))))) (Jz zXm [4,5] .ret))))))))⟩
def yPm : List zA := [
 Kx 4 1,Jc 6 (.int .i64 0),Jc 7 (.bool false)]
def yMt : List zA := [
 Jm 12 0,Je 13 12,Jm 8 13]
def yNJ : List zA := [
 Jm 14 8,Jc 9 (.int .i64 0),Jm 10 14]
def yJJ : List zA := [
 Jm 15 9,Jm 16 10,Kc 17 .lss 15 16]
def yIJ : List zA := [
 Jm 18 9,Jm 19 10,Kc 20 .add 18 19,Js 21 (.cvi .u64 (.t 20)),Js 22 (.bin .shr (.t 21) (.c (.int .u64 1))),Js 23 (.cvi .i64 (.t 22)),Jm 11 23]
def yHS : List yS := [
 ⟨0,Jm 24 2,[]⟩,
 ⟨1,Jm 25 0,[]⟩,
 ⟨2,Jm 26 11,[]⟩,
 ⟨3,Ji 27 5 25 26,[]⟩,
 ⟨4,Jk 28 5 27,[]⟩,
 ⟨5,Jk 29 2 4,[]⟩,
 ⟨6,⟨some 30,.callv (.t 24) [.t 28,.t 29],none⟩,[]⟩,
 ⟨7,Kb 31 .lss 30 0,[]⟩]
def yPj : List zA := [
 Jm 32 11,Kb 33 .add 32 1,Jm 9 33]
def yIe : List zA := [
 Jm 34 11,Jm 10 34]
def yLJ : List yS := [
 ⟨0,Jm 35 9,[]⟩,
 ⟨1,Jm 36 9,[]⟩,
 ⟨2,Jm 37 8,[]⟩,
 ⟨3,Kc 38 .lss 36 37,[]⟩,
 ⟨4,Jm 39 38,[]⟩,
 ⟨5,Ju 40 2 39,[]⟩,
 ⟨6,Ju 41 0 39,[]⟩,
 ⟨7,Ju 42 9 39,[]⟩,
 ⟨8,Jt 43 (.idx 5 (.t 41) (.t 42)) 39,[]⟩,
 ⟨9,Jt 44 (.ld (some 5) (.t 43)) 39,[]⟩,
 ⟨10,Jt 45 (.ld (some 2) (.t 4)) 39,[]⟩,
 ⟨11,⟨some 46,.callv (.t 40) [.t 44,.t 45],(some (39,true))⟩,[0]⟩,
 ⟨12,Jt 47 (.bin .eql (.t 46) (.c (.int .i64 0))) 39,[]⟩,
 ⟨13,Ja 48 39 47,[]⟩,
 ⟨14,Jm 6 35,[]⟩,
 ⟨15,Jm 7 48,[]⟩]
def yGp : zJ := ⟨49, [.slot 6, .slot 7],
  (Jz yPm [0,2,4] (Jz yMt [0,2,4,8] (Jz yNJ [0,2,4,8,9,10] (.seq (.block 0 (.loop [0,2,4,8,9,10] (.seq (Jz yJJ [0,2,4,8,9,10,17] (.cond (.t 17) .skip (.exit 0))) (.block 1 (Jz yIJ [0,2,4,8,9,10,11] (.seq (.regd yHS [0,2,4,8,9,10,11,31]) (.cond (.t 31) (.reg yPj [0,2,4,8,9,10]) (.reg yIe [0,2,4,8,9,10])))))))) (.seq (.regd yLJ [6,7]) .ret)))))⟩
def yOR : List zA := [
 Kx 2 0,Kx 3 1,Jc 4 (.int .i64 0)]
def yPb : List zA := [
 Jf 5 0 2,Jf 6 0 5,Jl 7 6,Jf 8 0 2,Jf 9 1 8,Jl 10 9,Jf 11 0 3,Jl 12 11,Jf 13 1 3,Jl 14 13,Jp 15 81 [.t 7,.t 10,.t 12,.t 14],Jm 4 15]
def yGI : zJ := ⟨16, [.slot 4],
  (Jz yOR [2,3] (Jz yPb [4] .ret))⟩
def yHF : List zA := [
 Jc 6 (.bool false)]
def yLU : List zA := [
 Jm 7 1,Jm 8 0,Kc 9 .leq 7 8,Jm 10 9,Ju 11 0 10,Ju 12 2 10,Jt 13 (.bin .leq (.t 11) (.t 12)) 10,Ja 14 10 13,Jm 6 14]
def yFt : zJ := ⟨15, [.slot 6],
  (Jz yHF [0,1,2] (Jz yLU [6] .ret))⟩
def zVo : List zA := [
 Jc 2 (.bool false)]
def zUN : List zA := [
 Jm 3 0,Jm 4 0,Kc 5 .neq 3 4,Jm 2 5]
def zMQ : zJ := ⟨6, [.slot 2],
  (Jz zVo [0] (Jz zUN [2] .ret))⟩
def yDr : List zA := [
 Jc 4 (.bool false)]
def yBa : List zA := [
 Jm 5 0,Js 6 (.len true (.t 5)),Jm 7 1,Js 8 (.len true (.t 7)),Kc 9 .geq 6 8,Jm 10 9,Ju 11 0 10,Ju 12 0 10,Jt 13 (.len true (.t 12)) 10,Ju 14 1 10,Jt 15 (.len true (.t 14)) 10,Jt 16 (.bin .sub (.t 13) (.t 15)) 10,Jt 17 (.slcs (.t 11) (some (.t 16)) none) 10,Ju 18 1 10,Jt 19 (.bin .eql (.t 17) (.t 18)) 10,Ja 20 10 19,Jm 4 20]
def zMp : zJ := ⟨21, [.slot 4],
  (Jz yDr [0,1] (Jz yBa [4] .ret))⟩
def yEp : List zA := [
 Jc 2 (.nilFunc)]
def yBj : List zA := [
 Jm 5 0,Jm 6 0,Js 7 (.bin .neq (.t 6) (.c (.string ⟨#[46]⟩))),
 ⟨some 3,.newH [.string ⟨#[]⟩],none⟩,
 ⟨some 4,.newH [.bool false],none⟩,Jw 1 3 5,Jw 1 4 7]
def yAi : List zA := [
 Js 8 (.mkf 104 [] [.t 4,.t 3]),Jm 2 8]
def zNl : zJ := ⟨9, [.slot 2],
  (Jz yEp [0] (Jz yBj [3,4] (Jz yAi [2] .ret)))⟩
def yDh : List zA := [
 Jc 4 (.int .i64 0)]
def zWz : List zA := [
 Jm 5 0,Jm 6 1,Jp 7 105 [.t 5,.t 6],Jm 4 7]
def zMf : zJ := ⟨8, [.slot 4],
  (Jz yDh [0,1] (Jz zWz [4] .ret))⟩
def yBy : List zA := [
 Jc 2 (.string ⟨#[]⟩),Jc 3 (.bool false)]
def yEK : List zA := [
 Jl 6 0,Kn 7 6]
def zZp : List zA := [
 Jc 2 (.string ⟨#[]⟩),Jc 3 (.bool false)]
def yDF : List zA := [
 Jl 8 1,Jp 9 90 [.t 8,.c (.int .u8 46)],Jm 4 9]
def zWJ : List zA := [
 Jl 10 1,Jm 11 4,Kb 12 .add 11 1,Js 13 (.slcs (.t 10) (some (.t 12)) none),Jm 5 13]
def yAr : List zA := [
 Jm 14 4,Kb 15 .lss 14 0]
def yDe : List zA := [
 ⟨none,.st 1 (.t 0) (.c (.bool false)),none⟩]
def zSX : List zA := [
 Jl 16 1,Jm 17 4,Js 18 (.slcs (.t 16) none (some (.t 17))),Jw 1 1 18]
def zUg : List zA := [
 Jm 19 5,Jm 2 19,Jc 3 (.bool true)]
def zLW : zJ := ⟨20, [.slot 2, .slot 3],
  (Jz yBy [0,1] (.seq (Jz yEK [0,1,7] (.cond (.t 7) (Jz zZp [2,3] .ret) .skip)) (Jz yDF [0,1,4] (Jz zWJ [0,1,4,5] (.seq (Jz yAr [0,1,4,5,15] (.cond (.t 15) (.reg yDe [5]) (.reg zSX [5]))) (Jz zUg [2,3] .ret))))))⟩
end Go.SL

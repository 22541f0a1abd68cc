import Derived.Test.YthedjffolgeomaaGreatDoorANplL
namespace Go.SL
open Go
def zXA : List zA := [
 Kx 1 0,Jc 2 (.slice none 0 0),Jc 3 (.int .i64 0)]
def zTQ : List zA := [
 Jk 5 9 1,Jp 6 48 [.t 5],Kn 7 6]
def yFZ : List zA := [
 Jc 2 (.slice none 0 0),Jc 3 (.int .i64 1)]
def zZB : List zA := [
 Jf 8 1 1,Jl 9 8,Jx 10 119 [.t 9,.f 120],Jm 4 10]
def zUT : List zA := [
 Jm 11 4,Jx 12 123 [.t 11,.f 122]]
def yGs : List zA := [
 Jm 13 4,Jm 2 13,Jc 3 (.int .i64 0)]
def zLN : zI := ⟨14, [.slot 2, .slot 3],
  (Jz zXA [1] (.seq (Jz zTQ [1,7] (.cond (.t 7) (Jz yFZ [2,3] .ret) .skip)) (Jz zZB [4] (Jz zUT [4] (Jz yGs [2,3] .ret)))))⟩
def zZh : List zA := [
 Jc 4 (.int .i64 0)]
def zXH : List zA := [
 Jm 8 0,Jm 9 1,Jp 10 95 [.t 8,.t 9],Jm 7 10,Ke 11 0 7,Ke 12 1 7,Jm 5 11,Jm 6 12]
def zTl : List zA := [
 Jm 13 5,Jm 4 13]
def zMe : zI := ⟨14, [.slot 4],
  (Jz zZh [0,1] (Jz zXH [5] (Jz zTl [4] .ret)))⟩
def zWk : List zA := [
 Kx 2 0,
 ⟨some 3,.boxH (.t 1),none⟩,
 ⟨some 4,.newH [.slice none 0 0],none⟩,
 ⟨some 5,.newH [.int .i64 0],none⟩]
def yEU : List zA := [
 Jk 16 9 2,Jp 17 48 [.t 16],Kn 18 17,Jm 19 18,Km 20 3 19,
 ⟨some 21,.callp 45 [.t 20],(some (19,false))⟩,Jn 22 (.not (.t 21)) 19,Jr 23 19 22]
def zZt : List zA := [
 ⟨none,.st 1 (.t 4) (.c (.slice none 0 0)),none⟩,
 ⟨none,.st 1 (.t 5) (.c (.int .i64 1)),none⟩]
def zWS : List zA := [
 ⟨some 6,.newH [.slice none 0 0],none⟩]
def yDA : List zA := [
 ⟨some 7,.newH [.bool false],none⟩,
 ⟨none,.st 1 (.t 7) (.c (.bool false)),none⟩]
def yGc : List zA := [
 ⟨some 24,.mkmap none,none⟩,
 ⟨some 8,.newH [.map none],none⟩,Jw 1 8 24]
def zSR : List zA := [
 Jk 25 9 2,Js 26 (.mkf 125 [] [.t 3]),Jx 27 126 [.t 25,.t 26]]
def zVQ : List zA := [
 Js 9 (.new [.int .i64 0,.int .i64 0,.int .i64 0,.string ⟨#[]⟩,.slice none 0 0]),Jw 5 9 28]
def yEN : List zA := [
 ⟨none,.st 1 (.t 7) (.c (.bool true)),none⟩]
def zYI : List zA := [
 Jf 29 3 9,Jf 30 1 29,Jl 31 30,Je 32 31,Jc 33 (.int .i64 0)]
def zRT : List zA := [
 Kc 34 .lss 33 32]
def zRQ : List zA := [
 Ji 35 5 31 33,Jk 36 5 35,Js 11 (.new [.string ⟨#[]⟩,.int .i64 0,.int .i64 0,.slice none 0 0,.slice none 0 0]),Jw 5 11 36]
def zPJ : List zA := [
 Jk 37 5 11,Jx 38 127 [.t 37],Jm 12 38]
def zRE : List zA := [
 Jl 40 8,Jm 41 12,
 ⟨some 42,.look false [.s] (.int .i64 0) true (.t 40) (.t 41),none⟩,Jm 39 42,Ke 43 0 39,Ke 44 1 39,Jm 13 43,Jm 14 44]
def zPO : List zA := [
 Jm 45 14,Kn 46 45]
def zPH : List zA := [
 Jl 47 6,Je 48 47,Jm 13 48]
def zRY : List zA := [
 Jl 49 8,Jm 50 12,Jm 51 13,
 ⟨none,.upd false [.s] (.t 49) (.t 50) (.t 51),none⟩]
def zNE : List yU := [
 ⟨0,Jl 52 6,[]⟩,
 ⟨1,Jl 53 3,[]⟩,
 ⟨2,Jk 54 5 11,[]⟩,
 ⟨3,Jx 55 128 [.t 54],[0,1]⟩,
 ⟨4,Js 56 (.bld [.string ⟨#[]⟩,.string ⟨#[]⟩,.int .i64 0,.int .i64 0,.slice none 0 0,.slice none 0 0,.slice none 0 0,.slice none 0 0] [(0,1,.t 53),(1,5,.t 55)]),[]⟩,
 ⟨5,⟨some 57,.mksl 8 1 [.string ⟨#[]⟩,.string ⟨#[]⟩,.int .i64 0,.int .i64 0,.slice none 0 0,.slice none 0 0,.slice none 0 0,.slice none 0 0] [(0,8,.t 56)],none⟩,[0]⟩,
 ⟨6,⟨some 58,.app 8 144 [.string ⟨#[]⟩,.string ⟨#[]⟩,.int .i64 0,.int .i64 0,.slice none 0 0,.slice none 0 0,.slice none 0 0,.slice none 0 0] (.t 52) (.t 57),none⟩,[]⟩,
 ⟨7,Jw 1 6 58,[]⟩]
def zQz : List zA := [
 Jl 59 6,Je 60 59,Kb 61 .gtr 60 20000]
def zPS : List zA := [
 ⟨none,.st 1 (.t 4) (.c (.slice none 0 0)),none⟩,
 ⟨none,.st 1 (.t 5) (.c (.int .i64 2)),none⟩]
def zIh : List yU := [
 ⟨0,Jl 62 6,[]⟩,
 ⟨1,Jm 63 13,[]⟩,
 ⟨2,Jl 64 6,[]⟩,
 ⟨3,Jm 65 13,[]⟩,
 ⟨4,Ji 66 8 64 65,[]⟩,
 ⟨5,Jf 67 6 66,[]⟩,
 ⟨6,Jl 68 67,[]⟩,
 ⟨7,Jf 69 1 9,[]⟩,
 ⟨8,Jl 70 69,[]⟩,
 ⟨9,Jf 71 2 9,[]⟩,
 ⟨10,Jl 72 71,[]⟩,
 ⟨11,Js 73 (.bld [.int .i64 0,.int .i64 0] [(0,1,.t 70),(1,1,.t 72)]),[]⟩,
 ⟨12,⟨some 74,.mksl 2 1 [.int .i64 0,.int .i64 0] [(0,2,.t 73)],none⟩,[0,1,2,3,4,5,6]⟩,
 ⟨13,⟨some 75,.app 2 16 [.int .i64 0,.int .i64 0] (.t 68) (.t 74),none⟩,[0,1]⟩,
 ⟨14,Ji 76 8 62 63,[]⟩,
 ⟨15,Jf 77 6 76,[]⟩,
 ⟨16,Jw 1 77 75,[]⟩]
def zRW : List zA := [
 Kb 78 .add 33 1,Jm 33 78]
def zPk : List zA := [
 Jl 79 7,Kn 80 79]
def zOQ : List zA := [
 ⟨none,.st 1 (.t 4) (.c (.slice none 0 0)),none⟩,
 ⟨none,.st 1 (.t 5) (.c (.int .i64 4)),none⟩]
def zPo : List zA := [
 Jl 81 6,Je 82 81,Jc 83 (.int .i64 0)]
def zOV : List zA := [
 Kc 84 .lss 83 82]
def zQM : List zA := [
 Jm 85 83,Jm 15 85]
def zRf : List yU := [
 ⟨0,Jl 87 6,[]⟩,
 ⟨1,Jm 88 15,[]⟩,
 ⟨2,Jl 89 6,[]⟩,
 ⟨3,Jm 90 15,[]⟩,
 ⟨4,Ji 91 8 89 90,[]⟩,
 ⟨5,Jf 92 6 91,[]⟩,
 ⟨6,Jl 93 92,[]⟩,
 ⟨7,Jx 94 129 [.t 93],[0,1]⟩,
 ⟨8,Jm 86 94,[]⟩,
 ⟨9,Ke 95 0 86,[]⟩,
 ⟨10,Ke 96 1 86,[]⟩,
 ⟨11,Ji 97 8 87 88,[]⟩,
 ⟨12,Jf 98 6 97,[]⟩,
 ⟨13,Jw 1 98 95,[10]⟩]
def zQI : List zA := [
 Kb 99 .add 83 1,Jm 83 99]
def zOD : List zA := [
 Jl 100 6,Jw 1 4 100,
 ⟨none,.st 1 (.t 5) (.c (.int .i64 0)),none⟩]
def zMt : zI := ⟨101, [.cell 4 none, .cell 5 none],
  (Jz zWk [2,3,4,5] (.seq (Jz yEU [2,3,4,5,23] (.cond (.t 23) (Jz zZt [4,5] .ret) .skip)) (Jz zWS [2,3,4,5,6] (Jz yDA [2,3,4,5,6,7] (Jz yGc [2,3,4,5,6,7,8] (.seq (Jz zSR [3,4,5,6,7,8,27] (.block 0 (.rangeF (.t 27) [28] (.reg zVQ [3,4,5,6,7,8,9]) (.block 1 (Jz yEN [3,4,5,6,8,9] (Jz zYI [3,4,5,6,8,9,31,32,33] (.block 2 (.loop [3,4,5,6,8,9,31,32,33] (Jz zRT [3,4,5,6,8,9,31,32,33,34] (.seq (.cond (.t 34) .skip (.exit 2)) (.seq (.block 3 (Jz zRQ [3,4,5,6,8,9,11,31,32,33] (Jz zPJ [3,4,5,6,8,9,11,12,31,32,33] (Jz zRE [3,4,5,6,8,9,11,12,13,14,31,32,33] (.seq (Jz zPO [3,4,5,6,8,9,11,12,13,31,32,33,46] (.cond (.t 46) (Jz zPH [3,4,5,6,8,9,11,12,13,31,32,33] (Jz zRY [3,4,5,6,8,9,11,13,31,32,33] (.regd zNE [3,4,5,6,8,9,13,31,32,33]))) .skip)) (.seq (Jz zQz [3,4,5,6,8,9,13,31,32,33,61] (.cond (.t 61) (Jz zPS [] .ret) .skip)) (.regd zIh [3,4,5,6,8,9,31,32,33]))))))) (.reg zRW [3,4,5,6,8,9,31,32,33])))))))))))) (.seq (Jz zPk [4,5,6,80] (.cond (.t 80) (Jz zOQ [4,5] .ret) .skip)) (.seq (Jz zPo [4,5,6,82,83] (.block 4 (.loop [4,5,6,82,83] (Jz zOV [4,5,6,82,83,84] (.seq (.cond (.t 84) .skip (.exit 4)) (.seq (.block 5 (Jz zQM [4,5,6,15,82,83] (.regd zRf [4,5,6,82,83]))) (.reg zQI [4,5,6,82,83]))))))) (Jz zOD [4,5] .ret)))))))))⟩
def zWi : List zA := [
 Kx 2 0,Jc 3 (.bool false)]
def zYi : List zA := [
 Jf 4 3 2,Jf 5 0 4,Jl 6 5,Jl 7 1,Kc 8 .eql 6 7,Jm 3 8]
def zLZ : zI := ⟨9, [.slot 3],
  (Jz zWi [1,2] (Jz zYi [3] .ret))⟩
def zVU : List zA := [
 ⟨some 2,.boxH (.t 0),none⟩,
 ⟨some 3,.boxH (.t 1),none⟩,Jc 4 (.nilFunc)]
def zVL : List zA := [
 Js 5 (.mkf 131 [] [.t 2,.t 3]),Jm 4 5]
def zNr : zI := ⟨6, [.slot 4],
  (Jz zVU [2,3] (Jz zVL [4] .ret))⟩
def yBC : List zA := [
 Jf 6 1 1,Jl 7 6,Je 8 7,Jc 9 (.int .i64 0)]
def yGm : List zA := [
 Kc 10 .lss 9 8]
def zYa : List zA := [
 Ji 11 5 7 9,Jk 12 5 11,Js 5 (.new [.int .i64 0,.int .i64 0,.int .i64 0,.string ⟨#[]⟩,.slice none 0 0]),Jw 5 5 12]
def zTq : List zA := [
 Jl 13 2,Jk 14 5 5,
 ⟨some 15,.callv (.t 13) [.t 14],none⟩,Jm 16 15,Ju 17 0 16,Jt 18 (.ld (some 5) (.t 5)) 16,
 ⟨some 19,.callv (.t 17) [.t 18],(some (16,true))⟩,Jt 20 (.not (.t 19)) 16,Ja 21 16 20]
def yAY : List zA := [
 Kb 22 .add 9 1,Jm 9 22]
def zMg : zI := ⟨23, [],
  (Jz yBC [0,2,7,8,9] (.block 0 (.loop [0,2,7,8,9] (Jz yGm [0,2,7,8,9,10] (.seq (.cond (.t 10) .skip (.exit 0)) (.seq (.block 1 (Jz zYa [0,2,5,7,8,9] (Jz zTq [0,2,7,8,9,21] (.cond (.t 21) .ret .skip)))) (.reg yAY [0,2,7,8,9])))))))⟩
def zUB : List zA := [
 Kx 1 0,Js 2 (.new [.string ⟨#[]⟩,.int .i64 0,.int .i64 0,.slice none 0 0,.slice none 0 0])]
def yEo : List zA := [
 Jf 3 0 1,Jf 4 3 3,Jl 5 4,Jx 6 22 [.t 5],Jf 7 0 1,Jf 8 3 7,Jw 1 8 6]
def zUd : List zA := [
 Jf 9 4 1,Jl 10 9,Jx 11 39 [.t 10],Jf 12 4 1,Jw 1 12 11]
def yEm : List zA := [
 Jk 13 5 1,Jw 5 2 13]
def zNn : zI := ⟨14, [.cell 2 (some 5)],
  (Jz zUB [1,2] (Jz yEo [1,2] (Jz zUd [1,2] (Jz yEm [2] .ret))))⟩
def yGl : List zA := [
 Kx 1 0,Jc 2 (.string ⟨#[]⟩)]
def yDZ : List zA := [
 ⟨some 3,.newT 181 [.pointer none,.slice none 0 0],none⟩]
def yBD : List zA := [
 Js 9 (.mkf 132 [] [.t 3]),Jm 4 9]
def zYQ : List zA := [
 Jm 10 4,Jf 11 0 1,Jf 12 0 11,Jl 13 12,Jf 14 0 1,Jf 15 1 14,Jl 16 15,Jf 17 0 1,Jf 18 2 17,Jl 19 18,Jf 20 0 1,Jf 21 3 20,Jl 22 21,Je 23 22,
 ⟨some 24,.mksl 1 3 [.int .i64 0,.int .i64 0,.int .i64 0] [(0,1,.t 16),(1,1,.t 19),(2,1,.t 23)],none⟩,
 ⟨some 25,.callv (.t 10) [.t 13,.t 24],none⟩]
def yDk : List zA := [
 Jf 26 0 1,Jf 27 3 26,Jl 28 27,Je 29 28,Jc 30 (.int .i64 0)]
def zVc : List zA := [
 Kc 31 .lss 30 29]
def yCI : List zA := [
 Ji 32 3 28 30,Jk 33 3 32,Js 6 (.new [.string ⟨#[]⟩,.int .i64 0,.int .i64 0]),Jw 3 6 33]
def yFD : List zA := [
 Jm 34 4,Jf 35 0 6,Jl 36 35,Jf 37 1 6,Jl 38 37,Jf 39 2 6,Jl 40 39,
 ⟨some 41,.mksl 1 2 [.int .i64 0,.int .i64 0] [(0,1,.t 38),(1,1,.t 40)],none⟩,
 ⟨some 42,.callv (.t 34) [.t 36,.t 41],none⟩]
def zZY : List zA := [
 Kb 43 .add 30 1,Jm 30 43]
def zTO : List zA := [
 Jf 44 4 1,Jl 45 44,Je 46 45,Jc 47 (.int .i64 0)]
def zRX : List zA := [
 Kc 48 .lss 47 46]
def zOU : List zA := [
 Ji 49 6 45 47,Jk 50 6 49,Js 8 (.new [.string ⟨#[]⟩,.int .i64 0,.int .i64 0,.int .i64 0,.int .i64 0,.int .u64 0]),Jw 6 8 50]
def zQo : List zA := [
 Jm 51 4,Jf 52 0 8,Jl 53 52,Jf 54 1 8,Jl 55 54,Jf 56 2 8,Jl 57 56,Jf 58 3 8,Jl 59 58,Jf 60 4 8,Jl 61 60,
 ⟨some 62,.mksl 1 4 [.int .i64 0,.int .i64 0,.int .i64 0,.int .i64 0] [(0,1,.t 55),(1,1,.t 57),(2,1,.t 59),(3,1,.t 61)],none⟩,
 ⟨some 63,.callv (.t 51) [.t 53,.t 62],none⟩]
def zQk : List zA := [
 Jm 64 4,Jf 65 5 8,Jl 66 65,Jx 67 133 [.t 66,.c (.int .i64 10)],
 ⟨some 68,.callv (.t 64) [.t 67,.c (.slice none 0 0)],none⟩]
def zQE : List zA := [
 Kb 69 .add 47 1,Jm 47 69]
def zNZ : List zA := [
 Jx 70 134 [.t 3],Jm 2 70]
def zLD : zI := ⟨71, [.slot 2],
  (Jz yGl [1] (Jz yDZ [1,3] (Jz yBD [1,3,4] (Jz zYQ [1,3,4] (.seq (Jz yDk [1,3,4,28,29,30] (.block 0 (.loop [1,3,4,28,29,30] (Jz zVc [1,3,4,28,29,30,31] (.seq (.cond (.t 31) .skip (.exit 0)) (.seq (.block 1 (Jz yCI [1,3,4,6,28,29,30] (.reg yFD [1,3,4,28,29,30]))) (.reg zZY [1,3,4,28,29,30]))))))) (.seq (Jz zTO [3,4,45,46,47] (.block 2 (.loop [3,4,45,46,47] (Jz zRX [3,4,45,46,47,48] (.seq (.cond (.t 48) .skip (.exit 2)) (.seq (.block 3 (Jz zOU [3,4,8,45,46,47] (Jz zQo [3,4,8,45,46,47] (.reg zQk [3,4,45,46,47])))) (.reg zQE [3,4,45,46,47]))))))) (Jz zNZ [2] .ret)))))))⟩
def zWf : List zA := [
 Jm 7 0,Jx 8 135 [.t 2,.t 7]]
def yBN : List zA := [
 Jm 9 1,Je 10 9,Jc 11 (.int .i64 0)]
def yFN : List zA := [
 Kc 12 .lss 11 10]
def zZc : List zA := [
 Ji 13 1 9 11,Jl 14 13,Jm 6 14]
def yGj : List zA := [
 Jx 15 136 [.t 2,.c (.int .u8 47)]]
def zUA : List zA := [
 Jm 16 6,Jx 17 137 [.t 16],Jx 18 135 [.t 2,.t 17]]
def zWA : List zA := [
 Kb 19 .add 11 1,Jm 11 19]
def zVZ : List zA := [
 Jx 20 136 [.t 2,.c (.int .u8 47)]]
def zMZ : zI := ⟨21, [],
  (Jz zWf [1,2] (.seq (Jz yBN [2,9,10,11] (.block 0 (.loop [2,9,10,11] (Jz yFN [2,9,10,11,12] (.seq (.cond (.t 12) .skip (.exit 0)) (.seq (.block 1 (Jz zZc [2,6,9,10,11] (Jz yGj [2,6,9,10,11] (.reg zUA [2,9,10,11])))) (.reg zWA [2,9,10,11]))))))) (.reg zVZ [])))⟩
def zWs : List zA := [
 Kx 1 0,Jc 2 (.slice none 0 0),Jc 3 (.int .i64 0)]
def yDY : List zA := [
 Jk 14 9 1,Jx 15 124 [.t 14],Jm 13 15,Ke 16 0 13,Ke 17 1 13,Jm 4 16,Jm 5 17]
def yEe : List zA := [
 Jm 18 5,Kb 19 .neq 18 0]
def zWy : List zA := [
 Jm 20 5,Jc 2 (.slice none 0 0),Jm 3 20]
def zUn : List zA := [
 Jc 6 (.slice none 0 0)]
def zXB : List zA := [
 Jm 21 4,Je 22 21,Jc 23 (.int .i64 0)]
def zYw : List zA := [
 Kc 24 .lss 23 22]
def zTs : List zA := [
 Ji 25 1 21 23,Jl 26 25,Jm 8 26]
def yDd : List zA := [
 Jk 28 9 1,Jm 29 8,Jx 30 130 [.t 28,.t 29],Jm 27 30,Ke 31 0 27,Ke 32 1 27,Jm 9 31,Jm 10 32]
def yBL : List zA := [
 Jm 33 10,Kb 34 .neq 33 0]
def zNt : List zA := [
 Jm 35 10,Jc 2 (.slice none 0 0),Jm 3 35]
def zRo : List zA := [
 Jm 36 6,Jm 37 9,
 ⟨some 38,.app 8 144 [.string ⟨#[]⟩,.string ⟨#[]⟩,.int .i64 0,.int .i64 0,.slice none 0 0,.slice none 0 0,.slice none 0 0,.slice none 0 0] (.t 36) (.t 37),none⟩,Jm 6 38]
def zPL : List zA := [
 Jm 39 6,Je 40 39,Kb 41 .gtr 40 20000]
def zNM : List zA := [
 Jc 2 (.slice none 0 0),Jc 3 (.int .i64 2)]
def zPf : List zA := [
 Kb 42 .add 23 1,Jm 23 42]
def zNA : List zA := [
 Jm 43 6,Je 44 43,Jc 45 (.int .i64 0)]
def zQv : List zA := [
 Kc 46 .lss 45 44]
def zNF : List zA := [
 Jm 47 45,Ji 48 8 43 45,Jk 49 8 48,Js 12 (.new [.string ⟨#[]⟩,.string ⟨#[]⟩,.int .i64 0,.int .i64 0,.slice none 0 0,.slice none 0 0,.slice none 0 0,.slice none 0 0]),Jm 11 47,Jw 8 12 49]
def zOo : List zA := [
 Jm 50 6,Jm 51 11,Jk 52 8 12,Jf 53 7 1,Jl 54 53,Jx 55 138 [.t 52,.t 54],Ji 56 8 50 51,Jf 57 7 56,Jw 1 57 55]
def zSb : List zA := [
 Kb 58 .add 45 1,Jm 45 58]
def zQB : List zA := [
 Jm 59 6,Jm 2 59,Jc 3 (.int .i64 0)]
def zLx : zI := ⟨60, [.slot 2, .slot 3],
  (Jz zWs [1] (Jz yDY [1,4,5] (.seq (Jz yEe [1,4,5,19] (.cond (.t 19) (Jz zWy [2,3] .ret) .skip)) (Jz zUn [1,4,6] (.seq (Jz zXB [1,6,21,22,23] (.block 0 (.loop [1,6,21,22,23] (Jz zYw [1,6,21,22,23,24] (.seq (.cond (.t 24) .skip (.exit 0)) (.seq (.block 1 (Jz zTs [1,6,8,21,22,23] (Jz yDd [1,6,9,10,21,22,23] (.seq (Jz yBL [1,6,9,10,21,22,23,34] (.cond (.t 34) (Jz zNt [2,3] .ret) .skip)) (Jz zRo [1,6,21,22,23] (Jz zPL [1,6,21,22,23,41] (.cond (.t 41) (Jz zNM [2,3] .ret) .skip))))))) (.reg zPf [1,6,21,22,23]))))))) (.seq (Jz zNA [1,6,43,44,45] (.block 2 (.loop [1,6,43,44,45] (Jz zQv [1,6,43,44,45,46] (.seq (.cond (.t 46) .skip (.exit 2)) (.seq (.block 3 (Jz zNF [1,6,11,12,43,44,45] (.reg zOo [1,6,43,44,45]))) (.reg zSb [1,6,43,44,45]))))))) (Jz zQB [2,3] .ret)))))))⟩
def yEL : List zA := [
 ⟨some 2,.boxH (.t 0),none⟩,
 ⟨some 3,.boxH (.t 1),none⟩,Jc 4 (.slice none 0 0)]
def zVF : List zA := [
 Js 9 (.mkf 140 [] [.t 2,.t 3]),Jm 5 9]
def yAq : List zA := [
 Jc 6 (.slice none 0 0)]
def zVm : List zA := [
 Jf 10 6 2,Jl 11 10,Je 12 11,Jc 13 (.int .i64 0)]
def zVr : List zA := [
 Kc 14 .lss 13 12]
def zVd : List zA := [
 Ji 15 2 11 13,Jk 16 2 15,Js 8 (.new [.int .i64 0,.int .i64 0]),Jw 2 8 16]
def zUO : List zA := [
 Jm 17 6,Jm 18 5,Jk 19 2 8,
 ⟨some 20,.callv (.t 18) [.t 19],none⟩,
 ⟨some 21,.mksl 2 1 [.int .i64 0,.int .i64 0] [(0,2,.t 20)],none⟩,
 ⟨some 22,.app 2 16 [.int .i64 0,.int .i64 0] (.t 17) (.t 21),none⟩,Jm 6 22]
def zVB : List zA := [
 Kb 23 .add 13 1,Jm 13 23]
def yEr : List zA := [
 Jm 25 6,Jx 26 129 [.t 25],Jm 24 26,Ke 27 0 24,Ke 28 1 24,Jm 6 27]
def yAM : List zA := [
 Jm 29 6,Jm 4 29]
def zNm : zI := ⟨30, [.slot 4],
  (Jz yEL [2,3] (Jz zVF [2,5] (Jz yAq [2,5,6] (.seq (Jz zVm [5,6,11,12,13] (.block 0 (.loop [5,6,11,12,13] (Jz zVr [5,6,11,12,13,14] (.seq (.cond (.t 14) .skip (.exit 0)) (.seq (.block 1 (Jz zVd [5,6,8,11,12,13] (.reg zUO [5,6,11,12,13]))) (.reg zVB [5,6,11,12,13]))))))) (Jz yEr [6] (Jz yAM [4] .ret))))))⟩
def zVy : List zA := [
 Kx 3 0,Js 4 (.new [.int .i64 0,.int .i64 0])]
def zVS : List zA := [
 Jf 6 1 3,Jl 7 6,Kb 8 .sub 7 1,Jf 9 1 1,Jf 10 0 9,Jf 11 2 10,Jl 12 11,Js 13 (.mm true (.t 12) (.c (.int .i64 1))),Kc 14 .add 8 13,Jl 15 2,Js 16 (.bin .mul (.c (.int .i64 2)) (.t 15)),Kc 17 .add 14 16,Jm 5 17]
def zSV : List zA := [
 Jf 18 1 1,Jf 19 4 18,Jl 20 19,Je 21 20,Kb 22 .gtr 21 0]
def zTH : List yU := [
 ⟨0,Jm 23 5,[]⟩,
 ⟨1,Jf 24 1 1,[]⟩,
 ⟨2,Jf 25 4 24,[]⟩,
 ⟨3,Jl 26 25,[]⟩,
 ⟨4,Js 27 (.idx 6 (.t 26) (.c (.int .i64 0))),[]⟩,
 ⟨5,Jf 28 4 27,[]⟩,
 ⟨6,Jl 29 28,[]⟩,
 ⟨7,Jl 30 2,[]⟩,
 ⟨8,Kc 31 .add 29 30,[]⟩,
 ⟨9,Kb 32 .add 31 1,[]⟩,
 ⟨10,Js 33 (.mm false (.t 23) (.t 32)),[]⟩]
def zVo : List zA := [
 Jf 34 0 3,Jl 35 34,Jf 36 1 3,Jl 37 36,Jm 38 5,Js 39 (.mm true (.t 37) (.t 38)),Js 40 (.bld [.int .i64 0,.int .i64 0] [(0,1,.t 35),(1,1,.t 39)]),Jw 2 4 40]
def zLv : zI := ⟨41, [.cell 4 (some 2)],
  (Jz zVy [1,2,3,4] (Jz zVS [1,2,3,4,5] (.seq (Jz zSV [1,2,3,4,5,22] (.cond (.t 22) (.regl zTH [3,4,33] ⟨some 5,.sim (.mov (.t 33)),none⟩ [3,4,5]) .skip)) (Jz zVo [4] .ret))))⟩
def yEp : List zA := [
 Jc 2 (.slice none 0 0),Jc 3 (.int .i64 0)]
def zZF : List zA := [
 Jm 7 0,Je 8 7,Kb 9 .gtr 8 20000]
def yBe : List zA := [
 Jc 2 (.slice none 0 0),Jc 3 (.int .i64 1)]
def zUu : List zA := [
 Jm 10 0,Je 11 10,Jc 12 (.int .i64 0)]
def yCE : List zA := [
 Kc 13 .lss 12 11]
def yFh : List zA := [
 Ji 14 2 10 12,Jk 15 2 14,Js 5 (.new [.int .i64 0,.int .i64 0]),Jw 2 5 15]
def zUR : List zA := [
 Jf 16 0 5,Jl 17 16,Kb 18 .lss 17 0,Jm 19 18,Kg 20 0 5 19,Km 21 20 19,Kg 22 1 5 19,Km 23 22 19,Jn 24 (.bin .gtr (.t 21) (.t 23)) 19,Jr 25 19 24,Jm 26 25,Kg 27 1 5 26,Km 28 27 26,Jn 29 (.bin .gtr (.t 28) (.c (.int .i64 20000000))) 26,Jr 30 26 29]
def yGf : List zA := [
 Jc 2 (.slice none 0 0),Jc 3 (.int .i64 1)]
def yAs : List zA := [
 Kb 31 .add 12 1,Jm 12 31]
def yAP : List zA := [
 Jm 32 0,Jx 33 142 [.t 32,.f 141],Jm 6 33]
def zPl : List zA := [
 Jm 34 6,Jx 35 87 [.t 34,.f 143]]
def zOJ : List zA := [
 Jm 36 6,Jx 37 144 [.t 36],Jm 2 37,Jc 3 (.int .i64 0)]
def zLQ : zI := ⟨38, [.slot 2, .slot 3],
  (Jz yEp [0] (.seq (Jz zZF [0,9] (.cond (.t 9) (Jz yBe [2,3] .ret) .skip)) (.seq (Jz zUu [0,10,11,12] (.block 0 (.loop [0,10,11,12] (Jz yCE [0,10,11,12,13] (.seq (.cond (.t 13) .skip (.exit 0)) (.seq (.block 1 (Jz yFh [0,5,10,11,12] (Jz zUR [0,10,11,12,30] (.cond (.t 30) (Jz yGf [2,3] .ret) .skip)))) (.reg yAs [0,10,11,12]))))))) (Jz yAP [6] (Jz zPl [6] (Jz zOJ [2,3] .ret))))))⟩
def yAd : List zA := [
 Kx 1 0,Jc 2 (.bool false)]
def yEw : List zA := [
 Jf 3 0 1,Jl 4 3,Jf 5 1 1,Jl 6 5,Kc 7 .lss 4 6,Jm 2 7]
def zMq : zI := ⟨8, [.slot 2],
  (Jz yAd [1] (Jz yEw [2] .ret))⟩
def yBr : List zA := [
 Kx 2 0,Kx 3 1,Jc 4 (.int .i64 0)]
def zWa : List zA := [
 Jf 5 0 2,Jl 6 5,Jf 7 0 3,Jl 8 7,Jp 9 89 [.t 6,.t 8],Jm 4 9]
def zLA : zI := ⟨10, [.slot 4],
  (Jz yBr [2,3] (Jz zWa [4] .ret))⟩
def yFo : List zA := [
 Jc 4 (.slice none 0 0)]
def yFi : List zA := [
 Jc 5 (.slice none 0 0)]
def yDi : List zA := [
 Jm 8 0,Je 9 8,Jc 10 (.int .i64 0)]
def yCZ : List zA := [
 Kc 11 .lss 10 9]
def yCp : List zA := [
 Ji 12 2 8 10,Jk 13 2 12,Js 7 (.new [.int .i64 0,.int .i64 0]),Jw 2 7 13]
def yGq : List zA := [
 Jm 14 1,Jk 15 2 7,
 ⟨some 16,.callv (.t 14) [.t 15],none⟩]
def yDO : List zA := [
 Jm 17 5,Jk 18 2 7,
 ⟨some 19,.mksl 2 1 [.int .i64 0,.int .i64 0] [(0,2,.t 18)],none⟩,
 ⟨some 20,.app 2 16 [.int .i64 0,.int .i64 0] (.t 17) (.t 19),none⟩,Jm 5 20]
def yES : List zA := [
 Kb 21 .add 10 1,Jm 10 21]
def yEh : List zA := [
 Jm 22 5,Jm 4 22]
def zMc : zI := ⟨23, [.slot 4],
  (Jz yFo [0,1] (Jz yFi [0,1,5] (.seq (Jz yDi [1,5,8,9,10] (.block 0 (.loop [1,5,8,9,10] (Jz yCZ [1,5,8,9,10,11] (.seq (.cond (.t 11) .skip (.exit 0)) (.seq (.block 1 (Jz yCp [1,5,7,8,9,10] (Jz yGq [1,5,7,8,9,10,16] (.cond (.t 16) (.reg yDO [1,5,8,9,10]) .skip)))) (.reg yES [1,5,8,9,10]))))))) (Jz yEh [4] .ret))))⟩
def yEF : List zA := [
 Jc 2 (.slice none 0 0)]
def zVg : List zA := [
 Jc 3 (.slice none 0 0)]
def zYu : List zA := [
 Jm 7 0,Je 8 7,Jc 9 (.int .i64 0)]
def yFe : List zA := [
 Kc 10 .lss 9 8]
def zYn : List zA := [
 Ji 11 2 7 9,Jk 12 2 11,Js 5 (.new [.int .i64 0,.int .i64 0]),Jw 2 5 12]
def zXh : List zA := [
 Jm 13 3,Je 14 13,Jm 6 14]
def yCA : List yU := [
 ⟨0,Jm 15 6,[]⟩,
 ⟨1,Kb 16 .gtr 15 0,[]⟩,
 ⟨2,Jm 17 16,[]⟩,
 ⟨3,Kf 18 0 5 17,[]⟩,
 ⟨4,Kl 19 18 17,[]⟩,
 ⟨5,Ju 20 3 17,[]⟩,
 ⟨6,Ju 21 6 17,[]⟩,
 ⟨7,Jt 22 (.bin .sub (.t 21) (.c (.int .i64 1))) 17,[]⟩,
 ⟨8,Jt 23 (.idx 2 (.t 20) (.t 22)) 17,[]⟩,
 ⟨9,Kf 24 1 23 17,[]⟩,
 ⟨10,Kl 25 24 17,[]⟩,
 ⟨11,Jt 26 (.bin .leq (.t 19) (.t 25)) 17,[]⟩,
 ⟨12,Ja 27 17 26,[]⟩]
def yEv : List yU := [
 ⟨0,Jm 28 3,[]⟩,
 ⟨1,Jm 29 6,[]⟩,
 ⟨2,Kb 30 .sub 29 1,[]⟩,
 ⟨3,Jm 31 3,[]⟩,
 ⟨4,Jm 32 6,[]⟩,
 ⟨5,Kb 33 .sub 32 1,[]⟩,
 ⟨6,Ji 34 2 31 33,[]⟩,
 ⟨7,Jf 35 1 34,[]⟩,
 ⟨8,Jl 36 35,[]⟩,
 ⟨9,Jf 37 1 5,[]⟩,
 ⟨10,Jl 38 37,[]⟩,
 ⟨11,Js 39 (.mm true (.t 36) (.t 38)),[]⟩,
 ⟨12,Ji 40 2 28 30,[]⟩,
 ⟨13,Jf 41 1 40,[]⟩,
 ⟨14,Jw 1 41 39,[]⟩]
def yCz : List zA := [
 Jm 42 3,Jk 43 2 5,
 ⟨some 44,.mksl 2 1 [.int .i64 0,.int .i64 0] [(0,2,.t 43)],none⟩,
 ⟨some 45,.app 2 16 [.int .i64 0,.int .i64 0] (.t 42) (.t 44),none⟩,Jm 3 45]
def zZq : List zA := [
 Kb 46 .add 9 1,Jm 9 46]
def zRm : List zA := [
 Jm 47 3,Jm 2 47]
def zLP : zI := ⟨48, [.slot 2],
  (Jz yEF [0] (Jz zVg [0,3] (.seq (Jz zYu [3,7,8,9] (.block 0 (.loop [3,7,8,9] (Jz yFe [3,7,8,9,10] (.seq (.cond (.t 10) .skip (.exit 0)) (.seq (.block 1 (Jz zYn [3,5,7,8,9] (Jz zXh [3,5,6,7,8,9] (.seq (.regd yCA [3,5,6,7,8,9,27]) (.cond (.t 27) (.regd yEv [3,7,8,9]) (.reg yCz [3,7,8,9])))))) (.reg zZq [3,7,8,9]))))))) (Jz zRm [2] .ret))))⟩
def zXc : List zA := [
 Jc 4 (.int .i64 0),Jc 5 (.nilIface)]
def zYH : List zA := [
 Jm 6 0,Jx 7 145 [.t 6]]
def yEu : List zA := [
 Jm 8 0,Jm 9 0,Js 10 (.nilc (.t 9)),Jf 11 1 10,
 ⟨some 12,.ldo (.t 11),none⟩,Jm 13 1,
 ⟨some 14,.appT 182 1 [.int .u8 0] (.t 12) (.t 13),none⟩,Js 15 (.nilc (.t 8)),Jf 16 1 15,
 ⟨none,.sto (.t 16) (.t 14),none⟩]
def yCD : List zA := [
 Jm 17 1,Js 18 (.len true (.t 17)),Jm 4 18,Jc 5 (.nilIface)]
def zMD : zI := ⟨19, [.slot 4, .slot 5],
  (Jz zXc [0,1] (Jz zYH [0,1] (Jz yEu [1] (Jz yCD [4,5] .ret))))⟩
def yAt : List zA := [
 Jc 4 (.nilIface)]
def zXq : List zA := [
 Jm 5 0,Jx 6 145 [.t 5]]
def yGn : List zA := [
 Jm 7 0,Jm 8 0,Js 9 (.nilc (.t 8)),Jf 10 1 9,
 ⟨some 11,.ldo (.t 10),none⟩,Jm 12 1,
 ⟨some 13,.mksl 1 1 [.int .u8 0] [(0,1,.t 12)],none⟩,
 ⟨some 14,.appT 182 1 [.int .u8 0] (.t 11) (.t 13),none⟩,Js 15 (.nilc (.t 7)),Jf 16 1 15,
 ⟨none,.sto (.t 16) (.t 14),none⟩]
def yBj : List zA := [
 Jc 4 (.nilIface)]
def zMS : zI := ⟨17, [.slot 4],
  (Jz yAt [0,1] (Jz zXq [0,1] (Jz yGn [] (Jz yBj [4] .ret))))⟩
def zKt : List zA := [
 Jm 5 0,Je 6 5,Jm 4 6]
def zKh : List zA := [
 Jm 7 0,Jm 8 4,Jm 9 4,Js 10 (.cvi .u64 (.t 9)),Jp 11 85 [.t 10],Jm 12 1,Jx 13 146 [.t 7,.c (.int .i64 0),.t 8,.t 11,.t 12]]
def zHa : zI := ⟨14, [],
  (Jz zKt [0,1,4] (.reg zKh []))⟩
def zJP : List zA := [
 Jc 10 (.bool true)]
def zKr : List zA := [
 Jc 11 (.bool true)]
def zJN : List zA := [
 Jm 21 2,Jm 22 1,Kc 23 .sub 21 22,Jm 12 23]
def zJY : List zA := [
 Jm 24 12,Kb 25 .leq 24 12]
def zJR : List zA := [
 Jm 26 0,Jm 27 1,Jm 28 2,Jm 29 4,Jx 30 147 [.t 26,.t 27,.t 28,.t 29]]
def yUb : List zA := [
 Jm 31 3,Kb 32 .eql 31 0]
def yUU : List zA := [
 Jm 33 0,Jm 34 1,Jm 35 2,Jm 36 4,Jx 37 148 [.t 33,.t 34,.t 35,.t 36]]
def yVh : List zA := [
 Jm 38 10,Kn 39 38]
def yVc : List zA := [
 Jm 40 0,Jm 41 1,Jm 42 2,Jm 43 4,Jx 44 149 [.t 40,.t 41,.t 42,.t 43]]
def yTL : List zA := [
 Jm 45 3,Kb 46 .sub 45 1,Jm 3 46]
def yQP : List zA := [
 Jm 48 0,Jm 49 1,Jm 50 2,Jm 51 4,Jx 52 150 [.t 48,.t 49,.t 50,.t 51],Jm 47 52,Ke 53 0 47,Ke 54 1 47,Jm 13 53,Jm 14 54]
def ySh : List zA := [
 Jm 55 14,Kb 56 .eql 55 2]
def yQM : List zA := [
 Jm 57 0,Jm 58 1,Jm 59 2,Jm 60 4,Jx 61 151 [.t 57,.t 58,.t 59,.t 60]]
def yRT : List zA := [
 Jm 62 2,Kb 63 .sub 62 1,Jm 64 13,Jm 65 1,Kc 66 .sub 64 65,Kc 67 .sub 63 66,Jm 13 67]
def yRY : List zA := [
 Jc 14 (.int .i64 1)]
def yRM : List zA := [
 Jm 68 10,Jm 69 68,Ju 70 11 69,Ja 71 69 70,Jm 72 71,Ju 73 14 72,Jt 74 (.bin .eql (.t 73) (.c (.int .i64 1))) 72,Ja 75 72 74]
def yQS : List zA := [
 Jm 76 0,Jm 77 1,Jm 78 2,Jm 79 4,Jx 80 152 [.t 76,.t 77,.t 78,.t 79]]
def yRb : List yU := [
 ⟨0,Jm 81 1,[]⟩,
 ⟨1,Kb 82 .gtr 81 0,[]⟩,
 ⟨2,Jm 83 82,[]⟩,
 ⟨3,Ju 84 4 83,[]⟩,
 ⟨4,Ju 85 0 83,[]⟩,
 ⟨5,Ju 86 1 83,[]⟩,
 ⟨6,Jt 87 (.bin .sub (.t 86) (.c (.int .i64 1))) 83,[]⟩,
 ⟨7,Jt 88 (.idx 1 (.t 85) (.t 87)) 83,[]⟩,
 ⟨8,Kl 89 88 83,[]⟩,
 ⟨9,Ju 90 0 83,[]⟩,
 ⟨10,Ju 91 13 83,[]⟩,
 ⟨11,Jt 92 (.idx 1 (.t 90) (.t 91)) 83,[]⟩,
 ⟨12,Kl 93 92 83,[]⟩,
 ⟨13,⟨some 94,.callv (.t 84) [.t 89,.t 93],(some (83,true))⟩,[]⟩,
 ⟨14,Jt 95 (.bin .lss (.t 94) (.c (.int .i64 0))) 83,[]⟩,
 ⟨15,Jt 96 (.not (.t 95)) 83,[]⟩,
 ⟨16,Ja 97 83 96,[]⟩]
def yRh : List zA := [
 Jm 98 0,Jm 99 1,Jm 100 2,Jm 101 13,Jm 102 4,Jx 103 153 [.t 98,.t 99,.t 100,.t 101,.t 102],Jm 15 103]
def ySy : List zA := [
 Jm 104 15,Jm 1 104]
def yRO : List zA := [
 Jm 106 0,Jm 107 1,Jm 108 2,Jm 109 13,Jm 110 4,Jx 111 154 [.t 106,.t 107,.t 108,.t 109,.t 110],Jm 105 111,Ke 112 0 105,Ke 113 1 105,Jm 16 112,Jm 17 113]
def ySj : List zA := [
 Jm 114 17,Jm 11 114]
def ySp : List zA := [
 Jm 115 16,Jm 116 1,Kc 117 .sub 115 116,Jm 118 2,Jm 119 16,Kc 120 .sub 118 119,Jm 18 117,Jm 19 120]
def yTg : List zA := [
 Jm 121 12,Kb 122 .quo 121 8,Jm 20 122]
def ySv : List zA := [
 Jm 123 18,Jm 124 19,Kc 125 .lss 123 124]
def ySP : List zA := [
 Jm 126 18,Jm 127 20,Kc 128 .geq 126 127,Jm 10 128]
def yRn : List zA := [
 Jm 129 0,Jm 130 1,Jm 131 16,Jm 132 3,Jm 133 4,Jx 134 146 [.t 129,.t 130,.t 131,.t 132,.t 133]]
def ySd : List zA := [
 Jm 135 16,Kb 136 .add 135 1,Jm 1 136]
def ySN : List zA := [
 Jm 137 19,Jm 138 20,Kc 139 .geq 137 138,Jm 10 139]
def ySz : List zA := [
 Jm 140 0,Jm 141 16,Kb 142 .add 141 1,Jm 143 2,Jm 144 3,Jm 145 4,Jx 146 146 [.t 140,.t 142,.t 143,.t 144,.t 145]]
def yQO : List zA := [
 Jm 147 16,Jm 2 147]
def zHh : zI := ⟨148, [],
  (Jz zJP [0,1,2,3,4,10] (Jz zKr [0,1,2,3,4,10,11] (.block 0 (.loop [0,1,2,3,4,10,11] (.block 1 (Jz zJN [0,1,2,3,4,10,11,12] (.seq (Jz zJY [0,1,2,3,4,10,11,12,25] (.cond (.t 25) (Jz zJR [] .ret) .skip)) (.seq (Jz yUb [0,1,2,3,4,10,11,12,32] (.cond (.t 32) (Jz yUU [] .ret) .skip)) (.seq (Jz yVh [0,1,2,3,4,10,11,12,39] (.cond (.t 39) (Jz yVc [0,1,2,3,4,10,11,12] (.reg yTL [0,1,2,3,4,10,11,12])) .skip)) (Jz yQP [0,1,2,3,4,10,11,12,13,14] (.seq (Jz ySh [0,1,2,3,4,10,11,12,13,14,56] (.cond (.t 56) (Jz yQM [0,1,2,3,4,10,11,12,13] (Jz yRT [0,1,2,3,4,10,11,12,13] (.reg yRY [0,1,2,3,4,10,11,12,13,14]))) .skip)) (.seq (Jz yRM [0,1,2,3,4,10,11,12,13,75] (.cond (.t 75) (Jz yQS [0,1,2,3,4,10,11,12,13,80] (.cond (.t 80) .ret .skip)) .skip)) (.seq (.seq (.regd yRb [0,1,2,3,4,10,11,12,13,97]) (.cond (.t 97) (Jz yRh [0,2,3,4,10,11,15] (Jz ySy [0,1,2,3,4,10,11] (.exit 1))) .skip)) (Jz yRO [0,1,2,3,4,12,16,17] (Jz ySj [0,1,2,3,4,11,12,16] (Jz ySp [0,1,2,3,4,11,12,16,18,19] (Jz yTg [0,1,2,3,4,11,16,18,19,20] (Jz ySv [0,1,2,3,4,11,16,18,19,20,125] (.cond (.t 125) (Jz ySP [0,1,2,3,4,10,11,16] (Jz yRn [0,2,3,4,10,11,16] (.reg ySd [0,1,2,3,4,10,11]))) (Jz ySN [0,1,2,3,4,10,11,16] (Jz ySz [0,1,3,4,10,11,16] (.reg yQO [0,1,2,3,4,10,11]))))))))))))))))))))))⟩
def zKu : List zA := [
 Jm 10 1,Kb 11 .add 10 1,Jm 8 11]
def zKd : List zA := [
 Jm 12 8,Jm 13 2,Kc 14 .lss 12 13]
def zKe : List zA := [
 Jm 17 8,Jm 9 17]
def zKg : List yU := [
 ⟨0,Jm 18 9,[]⟩,
 ⟨1,Jm 19 1,[]⟩,
 ⟨2,Kc 20 .gtr 18 19,[]⟩,
 ⟨3,Jm 21 20,[]⟩,
 ⟨4,Ju 22 3 21,[]⟩,
 ⟨5,Ju 23 0 21,[]⟩,
 ⟨6,Ju 24 9 21,[]⟩,
 ⟨7,Jt 25 (.idx 1 (.t 23) (.t 24)) 21,[]⟩,
 ⟨8,Kl 26 25 21,[]⟩,
 ⟨9,Ju 27 0 21,[]⟩,
 ⟨10,Ju 28 9 21,[]⟩,
 ⟨11,Jt 29 (.bin .sub (.t 28) (.c (.int .i64 1))) 21,[]⟩,
 ⟨12,Jt 30 (.idx 1 (.t 27) (.t 29)) 21,[]⟩,
 ⟨13,Kl 31 30 21,[]⟩,
 ⟨14,⟨some 32,.callv (.t 22) [.t 26,.t 31],(some (21,true))⟩,[]⟩,
 ⟨15,Jt 33 (.bin .lss (.t 32) (.c (.int .i64 0))) 21,[]⟩,
 ⟨16,Ja 34 21 33,[]⟩]
def zKj : List yU := [
 ⟨0,Jm 37 0,[]⟩,
 ⟨1,Jm 38 9,[]⟩,
 ⟨2,Jm 39 0,[]⟩,
 ⟨3,Jm 40 9,[]⟩,
 ⟨4,Kb 41 .sub 40 1,[]⟩,
 ⟨5,Jm 42 0,[]⟩,
 ⟨6,Jm 43 9,[]⟩,
 ⟨7,Kb 44 .sub 43 1,[]⟩,
 ⟨8,Ji 45 1 42 44,[]⟩,
 ⟨9,Jl 46 45,[]⟩,
 ⟨10,Jm 47 0,[]⟩,
 ⟨11,Jm 48 9,[]⟩,
 ⟨12,Ji 49 1 47 48,[]⟩,
 ⟨13,Jl 50 49,[]⟩,
 ⟨14,Ji 51 1 37 38,[]⟩,
 ⟨15,Jw 1 51 46,[2,3,4]⟩,
 ⟨16,Ji 52 1 39 41,[]⟩,
 ⟨17,Jw 1 52 50,[]⟩]
def zKi : List zA := [
 Jm 35 9,Kb 36 .sub 35 1,Jm 9 36]
def zJH : List zA := [
 Jm 15 8,Kb 16 .add 15 1,Jm 8 16]
def zHq : zI := ⟨53, [],
  (Jz zKu [0,1,2,3,8] (.block 0 (.loop [0,1,2,3,8] (.seq (Jz zKd [0,1,2,3,8,14] (.cond (.t 14) .skip (.exit 0))) (.seq (.block 1 (Jz zKe [0,1,2,3,8,9] (.block 2 (.loop [0,1,2,3,8,9] (.seq (.seq (.regd zKg [0,1,2,3,8,9,34]) (.cond (.t 34) .skip (.exit 2))) (.seq (.block 3 (.regd zKj [0,1,2,3,8,9])) (.reg zKi [0,1,2,3,8,9]))))))) (.reg zJH [0,1,2,3,8]))))))⟩
def zXU : List zA := [
 ⟨some 1,.boxH (.t 0),none⟩,Jc 2 (.slice none 0 0),Jc 3 (.int .i64 0)]
def zXj : List zA := [
 Jk 18 9 1,Jx 19 139 [.t 18],Jm 17 19,Ke 20 0 17,Ke 21 1 17,Jm 4 20,Jm 5 21]
def zVe : List zA := [
 Jm 22 5,Kb 23 .neq 22 0]
def yAh : List zA := [
 Jm 24 5,Jc 2 (.slice none 0 0),Jm 3 24]
def yFA : List zA := [
 ⟨some 25,.mkmap none,none⟩,
 ⟨some 6,.newH [.map none],none⟩,Jw 1 6 25]
def yBZ : List zA := [
 Js 26 (.mkf 155 [] [.t 1,.t 6]),Jm 7 26]
def yBR : List zA := [
 Jf 27 1 1,Jl 28 27,Je 29 28,Jc 30 (.int .i64 0)]
def yCn : List zA := [
 Kc 31 .lss 30 29]
def zTW : List zA := [
 Ji 32 5 28 30,Jk 33 5 32,Js 9 (.new [.int .i64 0,.int .i64 0,.int .i64 0,.string ⟨#[]⟩,.slice none 0 0]),Jw 5 9 33]
def yCe : List zA := [
 Jm 34 7,Jf 35 1 9,Jl 36 35,Jf 37 2 9,Jl 38 37,
 ⟨some 39,.mksl 1 2 [.int .i64 0,.int .i64 0] [(0,1,.t 36),(1,1,.t 38)],none⟩,
 ⟨some 40,.callv (.t 34) [.t 39],none⟩]
def zPg : List zA := [
 Kb 41 .add 30 1,Jm 30 41]
def zQR : List zA := [
 Jm 42 4,Je 43 42,Jc 44 (.int .i64 0)]
def zOM : List zA := [
 Kc 45 .lss 44 43]
def zPD : List zA := [
 Ji 46 8 42 44,Jk 47 8 46,Js 11 (.new [.string ⟨#[]⟩,.string ⟨#[]⟩,.int .i64 0,.int .i64 0,.slice none 0 0,.slice none 0 0,.slice none 0 0,.slice none 0 0]),Jw 8 11 47]
def zOC : List zA := [
 Jf 48 6 11,Jl 49 48,Je 50 49,Jc 51 (.int .i64 0)]
def zQc : List zA := [
 Kc 52 .lss 51 50]
def zNU : List zA := [
 Ji 53 2 49 51,Jk 54 2 53,Js 13 (.new [.int .i64 0,.int .i64 0]),Jw 2 13 54]
def zRw : List zA := [
 Jm 55 7,Jf 56 0 13,Jl 57 56,Jf 58 1 13,Jl 59 58,
 ⟨some 60,.mksl 1 2 [.int .i64 0,.int .i64 0] [(0,1,.t 57),(1,1,.t 59)],none⟩,
 ⟨some 61,.callv (.t 55) [.t 60],none⟩]
def zQJ : List zA := [
 Kb 62 .add 51 1,Jm 51 62]
def zRj : List zA := [
 Jf 63 7 11,Jl 64 63,Je 65 64,Jc 66 (.int .i64 0)]
def zRR : List zA := [
 Kc 67 .lss 66 65]
def zOS : List zA := [
 Ji 68 2 64 66,Jk 69 2 68,Js 15 (.new [.int .i64 0,.int .i64 0]),Jw 2 15 69]
def zNz : List zA := [
 Jm 70 7,Jf 71 0 15,Jl 72 71,Jf 73 1 15,Jl 74 73,
 ⟨some 75,.mksl 1 2 [.int .i64 0,.int .i64 0] [(0,1,.t 72),(1,1,.t 74)],none⟩,
 ⟨some 76,.callv (.t 70) [.t 75],none⟩]
def zRh : List zA := [
 Kb 77 .add 66 1,Jm 66 77]
def zIc : List zA := [
 Jf 78 1 11,Jf 79 4 78,Jl 80 79,Je 81 80,Kb 82 .gtr 81 0]
def zOY : List zA := [
 Jf 83 1 11,Jf 84 4 83,Jl 85 84,Js 86 (.idx 6 (.t 85) (.c (.int .i64 0))),Jk 87 6 86,Js 16 (.new [.string ⟨#[]⟩,.int .i64 0,.int .i64 0,.int .i64 0,.int .i64 0,.int .u64 0]),Jw 6 16 87]
def zNw : List zA := [
 Jm 88 7,Jf 89 3 16,Jl 90 89,Jf 91 7 1,Jl 92 91,Kc 93 .add 90 92,Jf 94 4 16,Jl 95 94,Jf 96 7 1,Jl 97 96,Kc 98 .sub 95 97,Kb 99 .add 98 1,Jf 100 4 16,Jl 101 100,Jf 102 7 1,Jl 103 102,Kc 104 .add 101 103,Kb 105 .add 104 1,
 ⟨some 106,.mksl 1 3 [.int .i64 0,.int .i64 0,.int .i64 0] [(0,1,.t 93),(1,1,.t 99),(2,1,.t 105)],none⟩,
 ⟨some 107,.callv (.t 88) [.t 106],none⟩]
def zNH : List zA := [
 Kb 108 .add 44 1,Jm 44 108]
def zNB : List zA := [
 Jl 109 6,Jx 110 156 [.t 109],Jx 111 157 [.t 110],Jm 2 111,Jc 3 (.int .i64 0)]
def zNp : zI := ⟨112, [.slot 2, .slot 3],
  (Jz zXU [1] (Jz zXj [1,4,5] (.seq (Jz zVe [1,4,5,23] (.cond (.t 23) (Jz yAh [2,3] .ret) .skip)) (Jz yFA [1,4,6] (Jz yBZ [1,4,6,7] (.seq (Jz yBR [1,4,6,7,28,29,30] (.block 0 (.loop [1,4,6,7,28,29,30] (Jz yCn [1,4,6,7,28,29,30,31] (.seq (.cond (.t 31) .skip (.exit 0)) (.seq (.block 1 (Jz zTW [1,4,6,7,9,28,29,30] (.reg yCe [1,4,6,7,28,29,30]))) (.reg zPg [1,4,6,7,28,29,30]))))))) (.seq (Jz zQR [1,6,7,42,43,44] (.block 2 (.loop [1,6,7,42,43,44] (Jz zOM [1,6,7,42,43,44,45] (.seq (.cond (.t 45) .skip (.exit 2)) (.seq (.block 3 (Jz zPD [1,6,7,11,42,43,44] (.seq (Jz zOC [1,6,7,11,42,43,44,49,50,51] (.block 4 (.loop [1,6,7,11,42,43,44,49,50,51] (Jz zQc [1,6,7,11,42,43,44,49,50,51,52] (.seq (.cond (.t 52) .skip (.exit 4)) (.seq (.block 5 (Jz zNU [1,6,7,11,13,42,43,44,49,50,51] (.reg zRw [1,6,7,11,42,43,44,49,50,51]))) (.reg zQJ [1,6,7,11,42,43,44,49,50,51]))))))) (.seq (Jz zRj [1,6,7,11,42,43,44,64,65,66] (.block 6 (.loop [1,6,7,11,42,43,44,64,65,66] (Jz zRR [1,6,7,11,42,43,44,64,65,66,67] (.seq (.cond (.t 67) .skip (.exit 6)) (.seq (.block 7 (Jz zOS [1,6,7,11,15,42,43,44,64,65,66] (.reg zNz [1,6,7,11,42,43,44,64,65,66]))) (.reg zRh [1,6,7,11,42,43,44,64,65,66]))))))) (Jz zIc [1,6,7,11,42,43,44,82] (.cond (.t 82) (Jz zOY [1,6,7,16,42,43,44] (.reg zNw [1,6,7,42,43,44])) .skip)))))) (.reg zNH [1,6,7,42,43,44]))))))) (Jz zNB [2,3] .ret))))))))⟩
def zZE : List zA := [
 Jm 6 0,Je 7 6,Jc 8 (.int .i64 0)]
def yDC : List zA := [
 Kc 9 .lss 8 7]
def zWW : List zA := [
 Ji 10 1 6 8,Jl 11 10,Jm 5 11]
def yGp : List zA := [
 Jm 12 5,Kb 13 .geq 12 0,Jm 14 13,Ju 15 5 14,Kf 16 8 1 14,Kl 17 16 14,Jt 18 (.bin .leq (.t 15) (.t 17)) 14,Ja 19 14 18]
def yCa : List zA := [
 Jl 20 2,Jm 21 5,
 ⟨none,.upd false [.i] (.t 20) (.t 21) (.c (.bool true)),none⟩]
def yFK : List zA := [
 Kb 22 .add 8 1,Jm 8 22]
def zMB : zI := ⟨23, [],
  (Jz zZE [1,2,6,7,8] (.block 0 (.loop [1,2,6,7,8] (Jz yDC [1,2,6,7,8,9] (.seq (.cond (.t 9) .skip (.exit 0)) (.seq (.block 1 (Jz zWW [1,2,5,6,7,8] (Jz yGp [1,2,5,6,7,8,19] (.cond (.t 19) (.reg yCa [1,2,6,7,8]) .skip)))) (.reg yFK [1,2,6,7,8])))))))⟩
def yGh : List zA := [
 Jc 2 (.slice none 0 0)]
def zVa : List zA := [
 Jm 4 0,Jx 5 159 [.t 4],Jm 3 5]
def yCH : List zA := [
 Jm 6 3,Jx 7 160 [.t 6]]
def yFc : List zA := [
 Jm 8 3,Jm 2 8]
def zNb : zI := ⟨9, [.slot 2],
  (Jz yGh [0] (Jz zVa [3] (Jz yCH [3] (Jz yFc [2] .ret))))⟩
def yEc : List zA := [
 Jc 2 (.slice none 0 0)]
def zWE : List zA := [
 Jm 3 0,Jx 4 161 [.c (.slice none 0 0),.t 3],Jm 2 4]
def zMy : zI := ⟨5, [.slot 2],
  (Jz yEc [0] (Jz zWE [2] .ret))⟩
def zYL : List zA := [
 ⟨some 2,.boxH (.t 0),none⟩,Jc 4 (.slice none 0 0)]
def yBz : List zA := [
 Jm 6 1]
def zTZ : List zA := [
 Jm 5 7]
def yAg : List zA := [
 Jl 8 2,Jm 9 5,
 ⟨some 10,.mksl 1 1 [.int .i64 0] [(0,1,.t 9)],none⟩,
 ⟨some 11,.app 1 8 [.int .i64 0] (.t 8) (.t 10),none⟩,Jw 1 2 11]
def zUS : List zA := [
 Jl 12 2,Jm 4 12]
def zNk : zI := ⟨13, [.slot 4],
  (Jz zYL [1,2,4] (.seq (Jz yBz [2,4,6] (.block 0 (.rangeF (.t 6) [7] (.reg zTZ [2,5]) (.block 1 (.reg yAg []))))) (Jz zUS [4] .ret)))⟩
def zKv : List zA := [
 Jm 3 0,Je 4 3,Jm 2 4]
def zJZ : List zA := [
 Jm 5 0,Jm 6 2,Jm 7 2,Js 8 (.cvi .u64 (.t 7)),Jp 9 85 [.t 8],Jx 10 162 [.t 5,.c (.int .i64 0),.t 6,.t 9]]
def zHt : zI := ⟨11, [],
  (Jz zKv [0,2] (.reg zJZ []))⟩
def zKw : List zA := [
 Jc 8 (.bool true)]
def zKb : List zA := [
 Jc 9 (.bool true)]
def zJz : List zA := [
 Jm 19 2,Jm 20 1,Kc 21 .sub 19 20,Jm 10 21]
def zKo : List zA := [
 Jm 22 10,Kb 23 .leq 22 12]
def zJJ : List zA := [
 Jm 24 0,Jm 25 1,Jm 26 2,Jx 27 163 [.t 24,.t 25,.t 26]]
def yTE : List zA := [
 Jm 28 3,Kb 29 .eql 28 0]
def yTH : List zA := [
 Jm 30 0,Jm 31 1,Jm 32 2,Jx 33 164 [.t 30,.t 31,.t 32]]
def yUX : List zA := [
 Jm 34 8,Kn 35 34]
def yTJ : List zA := [
 Jm 36 0,Jm 37 1,Jm 38 2,Jx 39 165 [.t 36,.t 37,.t 38]]
def yUv : List zA := [
 Jm 40 3,Kb 41 .sub 40 1,Jm 3 41]
def yRr : List zA := [
 Jm 43 0,Jm 44 1,Jm 45 2,Jx 46 166 [.t 43,.t 44,.t 45],Jm 42 46,Ke 47 0 42,Ke 48 1 42,Jm 11 47,Jm 12 48]
def yRS : List zA := [
 Jm 49 12,Kb 50 .eql 49 2]
def ySD : List zA := [
 Jm 51 0,Jm 52 1,Jm 53 2,Jx 54 167 [.t 51,.t 52,.t 53]]
def ySC : List zA := [
 Jm 55 2,Kb 56 .sub 55 1,Jm 57 11,Jm 58 1,Kc 59 .sub 57 58,Kc 60 .sub 56 59,Jm 11 60]
def ySR : List zA := [
 Jc 12 (.int .i64 1)]
def yQX : List zA := [
 Jm 61 8,Jm 62 61,Ju 63 9 62,Ja 64 62 63,Jm 65 64,Ju 66 12 65,Jt 67 (.bin .eql (.t 66) (.c (.int .i64 1))) 65,Ja 68 65 67]
def yTd : List zA := [
 Jm 69 0,Jm 70 1,Jm 71 2,Jx 72 168 [.t 69,.t 70,.t 71]]
def yRm : List yU := [
 ⟨0,Jm 73 1,[]⟩,
 ⟨1,Kb 74 .gtr 73 0,[]⟩,
 ⟨2,Jm 75 74,[]⟩,
 ⟨3,Ju 76 0 75,[]⟩,
 ⟨4,Ju 77 1 75,[]⟩,
 ⟨5,Jt 78 (.bin .sub (.t 77) (.c (.int .i64 1))) 75,[]⟩,
 ⟨6,Jt 79 (.idx 1 (.t 76) (.t 78)) 75,[]⟩,
 ⟨7,Kl 80 79 75,[]⟩,
 ⟨8,Ju 81 0 75,[]⟩,
 ⟨9,Ju 82 11 75,[]⟩,
 ⟨10,Jt 83 (.idx 1 (.t 81) (.t 82)) 75,[]⟩,
 ⟨11,Kl 84 83 75,[]⟩,
 ⟨12,⟨some 85,.call 169 [.t 80,.t 84],(some (75,true))⟩,[]⟩,
 ⟨13,Jt 86 (.not (.t 85)) 75,[]⟩,
 ⟨14,Ja 87 75 86,[]⟩]
def ySb : List zA := [
 Jm 88 0,Jm 89 1,Jm 90 2,Jm 91 11,Jx 92 170 [.t 88,.t 89,.t 90,.t 91],Jm 13 92]
def ySx : List zA := [
 Jm 93 13,Jm 1 93]
def ySY : List zA := [
 Jm 95 0,Jm 96 1,Jm 97 2,Jm 98 11,Jx 99 171 [.t 95,.t 96,.t 97,.t 98],Jm 94 99,Ke 100 0 94,Ke 101 1 94,Jm 14 100,Jm 15 101]
def ySE : List zA := [
 Jm 102 15,Jm 9 102]
def ySH : List zA := [
 Jm 103 14,Jm 104 1,Kc 105 .sub 103 104,Jm 106 2,Jm 107 14,Kc 108 .sub 106 107,Jm 16 105,Jm 17 108]
def ySo : List zA := [
 Jm 109 10,Kb 110 .quo 109 8,Jm 18 110]
def yRp : List zA := [
 Jm 111 16,Jm 112 17,Kc 113 .lss 111 112]
def yRo : List zA := [
 Jm 114 16,Jm 115 18,Kc 116 .geq 114 115,Jm 8 116]
def yQR : List zA := [
 Jm 117 0,Jm 118 1,Jm 119 14,Jm 120 3,Jx 121 162 [.t 117,.t 118,.t 119,.t 120]]
def yRL : List zA := [
 Jm 122 14,Kb 123 .add 122 1,Jm 1 123]
def ySq : List zA := [
 Jm 124 17,Jm 125 18,Kc 126 .geq 124 125,Jm 8 126]
def ySi : List zA := [
 Jm 127 0,Jm 128 14,Kb 129 .add 128 1,Jm 130 2,Jm 131 3,Jx 132 162 [.t 127,.t 129,.t 130,.t 131]]
def ySW : List zA := [
 Jm 133 14,Jm 2 133]
def zHf : zI := ⟨134, [],
  (Jz zKw [0,1,2,3,8] (Jz zKb [0,1,2,3,8,9] (.block 0 (.loop [0,1,2,3,8,9] (.block 1 (Jz zJz [0,1,2,3,8,9,10] (.seq (Jz zKo [0,1,2,3,8,9,10,23] (.cond (.t 23) (Jz zJJ [] .ret) .skip)) (.seq (Jz yTE [0,1,2,3,8,9,10,29] (.cond (.t 29) (Jz yTH [] .ret) .skip)) (.seq (Jz yUX [0,1,2,3,8,9,10,35] (.cond (.t 35) (Jz yTJ [0,1,2,3,8,9,10] (.reg yUv [0,1,2,3,8,9,10])) .skip)) (Jz yRr [0,1,2,3,8,9,10,11,12] (.seq (Jz yRS [0,1,2,3,8,9,10,11,12,50] (.cond (.t 50) (Jz ySD [0,1,2,3,8,9,10,11] (Jz ySC [0,1,2,3,8,9,10,11] (.reg ySR [0,1,2,3,8,9,10,11,12]))) .skip)) (.seq (Jz yQX [0,1,2,3,8,9,10,11,68] (.cond (.t 68) (Jz yTd [0,1,2,3,8,9,10,11,72] (.cond (.t 72) .ret .skip)) .skip)) (.seq (.seq (.regd yRm [0,1,2,3,8,9,10,11,87]) (.cond (.t 87) (Jz ySb [0,2,3,8,9,13] (Jz ySx [0,1,2,3,8,9] (.exit 1))) .skip)) (Jz ySY [0,1,2,3,10,14,15] (Jz ySE [0,1,2,3,9,10,14] (Jz ySH [0,1,2,3,9,10,14,16,17] (Jz ySo [0,1,2,3,9,14,16,17,18] (Jz yRp [0,1,2,3,9,14,16,17,18,113] (.cond (.t 113) (Jz yRo [0,1,2,3,8,9,14] (Jz yQR [0,2,3,8,9,14] (.reg yRL [0,1,2,3,8,9]))) (Jz ySq [0,1,2,3,8,9,14] (Jz ySi [0,1,3,8,9,14] (.reg ySW [0,1,2,3,8,9]))))))))))))))))))))))⟩
def zKq : List zA := [
 Jm 8 1,Kb 9 .add 8 1,Jm 6 9]
def zJB : List zA := [
 Jm 10 6,Jm 11 2,Kc 12 .lss 10 11]
def zKa : List zA := [
 Jm 15 6,Jm 7 15]
def zJI : List yU := [
 ⟨0,Jm 16 7,[]⟩,
 ⟨1,Jm 17 1,[]⟩,
 ⟨2,Kc 18 .gtr 16 17,[]⟩,
 ⟨3,Jm 19 18,[]⟩,
 ⟨4,Ju 20 0 19,[]⟩,
 ⟨5,Ju 21 7 19,[]⟩,
 ⟨6,Jt 22 (.idx 1 (.t 20) (.t 21)) 19,[]⟩,
 ⟨7,Kl 23 22 19,[]⟩,
 ⟨8,Ju 24 0 19,[]⟩,
 ⟨9,Ju 25 7 19,[]⟩,
 ⟨10,Jt 26 (.bin .sub (.t 25) (.c (.int .i64 1))) 19,[]⟩,
 ⟨11,Jt 27 (.idx 1 (.t 24) (.t 26)) 19,[]⟩,
 ⟨12,Kl 28 27 19,[]⟩,
 ⟨13,⟨some 29,.call 169 [.t 23,.t 28],(some (19,true))⟩,[]⟩,
 ⟨14,Ja 30 19 29,[]⟩]
def zKn : List yU := [
 ⟨0,Jm 33 0,[]⟩,
 ⟨1,Jm 34 7,[]⟩,
 ⟨2,Jm 35 0,[]⟩,
 ⟨3,Jm 36 7,[]⟩,
 ⟨4,Kb 37 .sub 36 1,[]⟩,
 ⟨5,Jm 38 0,[]⟩,
 ⟨6,Jm 39 7,[]⟩,
 ⟨7,Kb 40 .sub 39 1,[]⟩,
 ⟨8,Ji 41 1 38 40,[]⟩,
 ⟨9,Jl 42 41,[]⟩,
 ⟨10,Jm 43 0,[]⟩,
 ⟨11,Jm 44 7,[]⟩,
 ⟨12,Ji 45 1 43 44,[]⟩,
 ⟨13,Jl 46 45,[]⟩,
 ⟨14,Ji 47 1 33 34,[]⟩,
 ⟨15,Jw 1 47 42,[2,3,4]⟩,
 ⟨16,Ji 48 1 35 37,[]⟩,
 ⟨17,Jw 1 48 46,[]⟩]
def zJC : List zA := [
 Jm 31 7,Kb 32 .sub 31 1,Jm 7 32]
def zKm : List zA := [
 Jm 13 6,Kb 14 .add 13 1,Jm 6 14]
def zHn : zI := ⟨49, [],
  (Jz zKq [0,1,2,6] (.block 0 (.loop [0,1,2,6] (.seq (Jz zJB [0,1,2,6,12] (.cond (.t 12) .skip (.exit 0))) (.seq (.block 1 (Jz zKa [0,1,2,6,7] (.block 2 (.loop [0,1,2,6,7] (.seq (.seq (.regd zJI [0,1,2,6,7,30]) (.cond (.t 30) .skip (.exit 2))) (.seq (.block 3 (.regd zKn [0,1,2,6,7])) (.reg zJC [0,1,2,6,7]))))))) (.reg zKm [0,1,2,6]))))))⟩
def yDN : List zA := [
 ⟨some 1,.boxH (.t 0),none⟩,Jc 2 (.nilFunc)]
def zTd : List zA := [
 Js 3 (.mkf 172 [] [.t 1]),Jm 2 3]
def zMr : zI := ⟨4, [.slot 2],
  (Jz yDN [1] (Jz zTd [2] .ret))⟩
def zYh : List zA := [
 Jl 4 1,
 ⟨some 5,.rng (.t 4),none⟩]
def zTS : List zA := [
 ⟨some 6,.nxt (.t 5),none⟩,Ke 7 0 6]
def yBO : List zA := [
 ⟨some 8,.ent (.t 5),none⟩,Ke 9 0 8,Jm 3 9]
def yBv : List zA := [
 Jm 10 0,Jm 11 3,
 ⟨some 12,.callv (.t 10) [.t 11],none⟩,Kn 13 12]
def zMW : zI := ⟨14, [],
  (Jz zYh [0,5] (.block 0 (.loop [0,5] (Jz zTS [0,5,7] (.seq (.cond (.t 7) .skip (.exit 0)) (.block 1 (Jz yBO [0,3,5] (Jz yBv [0,5,13] (.cond (.t 13) .ret .skip)))))))))⟩
def zTF : List zA := [
 ⟨some 5,.boxH (.t 0),none⟩,
 ⟨some 6,.boxH (.t 1),none⟩,
 ⟨some 7,.boxH (.t 2),none⟩,
 ⟨some 10,.newH [.int .i64 0],none⟩,
 ⟨some 11,.newH [.bool false],none⟩,
 ⟨some 12,.newH [.int .i64 0],none⟩]
def zWT : List zA := [
 Jm 21 3,Jk 22 1 6,Js 23 (.bld [.int .i64 0,.slice none 0 0] [(0,1,.t 21),(1,1,.t 22)]),
 ⟨some 24,.mksl 2 1 [.int .i64 0,.slice none 0 0] [(0,2,.t 23)],none⟩,Jm 13 24]
def yEg : List zA := [
 Jk 25 9 5,Jm 26 13,Jp 27 28 [.t 25,.t 26],Kn 28 27,Jm 29 28,Jv 30 4 29,Jv 31 3 29,Jn 32 (.bin .lss (.t 30) (.t 31)) 29,Jr 33 29 32,Jm 34 33,Jv 35 4 34,Kg 36 8 5 34,Km 37 36 34,Jn 38 (.bin .geq (.t 35) (.t 37)) 34,Jr 39 34 38]
def zHd : List zA := [
 ⟨none,.st 1 (.t 10) (.c (.int .i64 0)),none⟩,
 ⟨none,.st 1 (.t 11) (.c (.bool false)),none⟩,
 ⟨none,.st 1 (.t 12) (.c (.int .i64 1)),none⟩]
def yUp : List zA := [
 Jk 41 9 5,Jx 42 158 [.t 41],Jm 40 42,Ke 43 0 40,Ke 44 1 40,Jm 14 43,Jm 15 44]
def yUA : List zA := [
 Jm 45 15,Kb 46 .neq 45 0]
def yUq : List zA := [
 Jm 47 15,
 ⟨none,.st 1 (.t 10) (.c (.int .i64 0)),none⟩,
 ⟨none,.st 1 (.t 11) (.c (.bool false)),none⟩,Jw 1 12 47]
def yUo : List zA := [
 Jk 49 9 5,Jm 50 13,Jx 51 72 [.t 49,.t 50],Jm 48 51,Ke 52 0 48,Ke 53 1 48,Js 16 (.new [.slice none 0 0,.slice none 0 0,.string ⟨#[]⟩,.int .i64 0,.int .i64 0,.slice none 0 0,.slice none 0 0,.int .i64 0,.int .i64 0]),Jw 9 16 52,Jm 15 53]
def yUS : List zA := [
 Jm 54 15,Kb 55 .neq 54 0]
def yTQ : List zA := [
 Jm 56 15,
 ⟨none,.st 1 (.t 10) (.c (.int .i64 0)),none⟩,
 ⟨none,.st 1 (.t 11) (.c (.bool false)),none⟩,Jw 1 12 56]
def yRi : List zA := [
 Jk 58 9 16,Jx 59 158 [.t 58],Jm 57 59,Ke 60 0 57,Ke 61 1 57,Jm 17 60,Jm 15 61]
def ySk : List zA := [
 Jm 62 15,Kb 63 .neq 62 0]
def yRK : List zA := [
 Jm 64 15,
 ⟨none,.st 1 (.t 10) (.c (.int .i64 0)),none⟩,
 ⟨none,.st 1 (.t 11) (.c (.bool false)),none⟩,Jw 1 12 64]
def yRs : List zA := [
 Jm 65 3,Jm 66 4,Jm 67 14,Jm 68 17,
 ⟨some 69,.mksl 1 2 [.slice none 0 0,.slice none 0 0] [(0,1,.t 67),(1,1,.t 68)],none⟩,Jx 70 175 [.t 65,.t 66,.t 69]]
def yTb : List zA := [
 Jm 18 71]
def yRt : List zA := [
 Jk 73 9 5,Jk 74 1 6,Jl 75 7,Jm 76 18,Jx 77 176 [.t 73,.t 74,.t 75,.t 76],Jm 72 77,Ke 78 0 72,Ke 79 1 72,Jm 19 78,Jm 20 79]
def ySa : List zA := [
 Jm 80 20,Kb 81 .neq 80 0]
def yRQ : List zA := [
 Jm 82 20,
 ⟨none,.st 1 (.t 10) (.c (.int .i64 0)),none⟩,
 ⟨none,.st 1 (.t 11) (.c (.bool false)),none⟩,Jw 1 12 82]
def yTa : List zA := [
 Jm 83 19]
def yRu : List zA := [
 Jm 84 18,Jw 1 10 84,
 ⟨none,.st 1 (.t 11) (.c (.bool true)),none⟩,
 ⟨none,.st 1 (.t 12) (.c (.int .i64 0)),none⟩]
def ySc : List zA := [
 ⟨none,.st 1 (.t 10) (.c (.int .i64 0)),none⟩,
 ⟨none,.st 1 (.t 11) (.c (.bool false)),none⟩,
 ⟨none,.st 1 (.t 12) (.c (.int .i64 0)),none⟩]
def zLw : zI := ⟨85, [.cell 10 none, .cell 11 none, .cell 12 none],
  (Jz zTF [3,4,5,6,7,10,11,12] (Jz zWT [3,4,5,6,7,10,11,12,13] (.seq (Jz yEg [3,4,5,6,7,10,11,12,13,39] (.cond (.t 39) (Jz zHd [10,11,12] .ret) .skip)) (Jz yUp [3,4,5,6,7,10,11,12,13,14,15] (.seq (Jz yUA [3,4,5,6,7,10,11,12,13,14,15,46] (.cond (.t 46) (Jz yUq [10,11,12] .ret) .skip)) (Jz yUo [3,4,5,6,7,10,11,12,14,15,16] (.seq (Jz yUS [3,4,5,6,7,10,11,12,14,15,16,55] (.cond (.t 55) (Jz yTQ [10,11,12] .ret) .skip)) (Jz yRi [3,4,5,6,7,10,11,12,14,15,17] (.seq (Jz ySk [3,4,5,6,7,10,11,12,14,15,17,63] (.cond (.t 63) (Jz yRK [10,11,12] .ret) .skip)) (.seq (Jz yRs [5,6,7,10,11,12,70] (.block 0 (.rangeF (.t 70) [71] (.reg yTb [5,6,7,10,11,12,18]) (.block 1 (Jz yRt [10,11,12,18,19,20] (.seq (Jz ySa [10,11,12,18,19,20,81] (.cond (.t 81) (Jz yRQ [] .ret) .skip)) (Jz yTa [10,11,12,18,83] (.cond (.t 83) (Jz yRu [] .ret) .skip)))))))) (Jz ySc [10,11,12] .ret)))))))))))⟩
end Go.SL

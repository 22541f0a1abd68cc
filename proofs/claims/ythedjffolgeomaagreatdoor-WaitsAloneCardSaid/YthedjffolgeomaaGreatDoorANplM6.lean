import Derived.Test.YthedjffolgeomaaGreatDoorANplL
namespace Go.SL
open Go
def yDj : List zA := [
 Jc 0 (.bool false)]
def yGo : List zA := [
 Jx 15 189 [],Jx 16 158 [.t 15],Jm 14 16,Ke 17 0 14,Ke 18 1 14,Jm 1 17,Jm 2 18]
def zYP : List zA := [
 Jx 20 189 [],
 ⟨some 21,.call 186 [.t 20,.c (.string ⟨#[120]⟩),.c (.int .i64 20)],none⟩,Jm 19 21,Ke 22 0 19,Ke 23 1 19,Jm 3 22,Jm 4 23]
def yAa : List zA := [
 Jx 25 189 [],
 ⟨some 26,.call 186 [.t 25,.c (.string ⟨#[120]⟩),.c (.int .i64 33)],none⟩,Jm 24 26,Ke 27 0 24,Ke 28 1 24,Jm 5 27,Jm 6 28]
def zWr : List zA := [
 Jx 30 189 [],
 ⟨some 31,.call 186 [.t 30,.c (.string ⟨#[121]⟩),.c (.int .i64 20)],none⟩,Jm 29 31,Ke 32 0 29,Ke 33 1 29,Jm 7 32,Jm 8 33]
def zWZ : List zA := [
 Jx 35 189 [],Js 36 (.bld [.slice none 0 0] []),Jx 37 177 [.t 35,.t 36,.c (.slice none 0 0),.c (.int .i64 5),.c (.int .i64 50)],Jm 34 37,Ke 38 0 34,Ke 39 1 34,Ke 40 2 34,Jm 9 38,Jm 10 39,Jm 11 40]
def yGb : List zA := [
 Js 42 (.bld [.slice none 0 0,.slice none 0 0,.string ⟨#[]⟩,.int .i64 0,.int .i64 0,.slice none 0 0,.slice none 0 0,.int .i64 0,.int .i64 0] []),Jx 43 158 [.t 42],Jm 41 43,Ke 44 0 41,Ke 45 1 41,Jm 12 44,Jm 13 45]
def yFQ : List zA := [
 Jm 46 2,Kb 47 .eql 46 0,Jm 48 47,Ju 49 4 48,Jt 50 (.bin .eql (.t 49) (.c (.int .i64 0))) 48,Ja 51 48 50,Jm 52 51,Ju 53 6 52,Jt 54 (.bin .eql (.t 53) (.c (.int .i64 0))) 52,Ja 55 52 54,Jm 56 55,Ju 57 8 56,Jt 58 (.bin .eql (.t 57) (.c (.int .i64 4))) 56,Ja 59 56 58,Jm 60 59,Ju 61 11 60,Jt 62 (.bin .eql (.t 61) (.c (.int .i64 1))) 60,Ja 63 60 62,Jm 64 63,Ju 65 13 64,Jt 66 (.bin .eql (.t 65) (.c (.int .i64 1))) 64,Ja 67 64 66,Jm 68 67,Ju 69 3 68,Jt 70 (.bin .eql (.t 69) (.c (.int .i64 13))) 68,Ja 71 68 70,Jm 72 71,Ju 73 5 72,Jt 74 (.bin .eql (.t 73) (.c (.int .i64 0))) 72,Ja 75 72 74,Jm 76 75,Ju 77 1 76,
 ⟨some 78,.mksl 1 4 [.int .i64 0,.int .i64 0,.int .i64 0,.int .i64 0] [(0,1,.c (.int .i64 0)),(1,1,.c (.int .i64 20)),(2,1,.c (.int .i64 24)),(3,1,.c (.int .i64 33))],(some (76,true))⟩,
 ⟨some 79,.callp 190 [.t 77,.t 78],(some (76,true))⟩,Ja 80 76 79,Jm 0 80]
def zMO : zI := ⟨81, [.slot 0],
  (Jz yDj [] (Jz yGo [1,2] (Jz zYP [1,2,3,4] (Jz yAa [1,2,3,4,5,6] (Jz zWr [1,2,3,4,5,6,8] (Jz zWZ [1,2,3,4,5,6,8,11] (Jz yGb [1,2,3,4,5,6,8,11,13] (Jz yFQ [0] .ret))))))))⟩
def yAO : List zA := [
 Js 0 (.new [.slice none 0 0,.slice none 0 0,.string ⟨#[]⟩,.int .i64 0,.int .i64 0,.slice none 0 0,.slice none 0 0,.int .i64 0,.int .i64 0])]
def zXP : List zA := [
 Js 4 (.bld [.string ⟨#[]⟩,.int .i64 0,.int .i64 0] [(1,1,.c (.int .i64 7))]),
 ⟨some 5,.mksl 3 1 [.string ⟨#[]⟩,.int .i64 0,.int .i64 0] [(0,3,.t 4)],none⟩,Js 6 (.bld [.string ⟨#[]⟩,.int .i64 0,.int .i64 0,.slice none 0 0] [(0,1,.c (.string ⟨#[119,46,120]⟩)),(1,1,.c (.int .i64 1)),(2,1,.c (.int .i64 10)),(3,1,.t 5)]),Js 7 (.bld [.string ⟨#[]⟩,.int .i64 0,.int .i64 0,.slice none 0 0,.slice none 0 0] [(0,4,.t 6)]),Js 1 (.new [.string ⟨#[]⟩,.int .i64 0,.int .i64 0,.slice none 0 0,.slice none 0 0]),Jw 5 1 7]
def zYO : List zA := [
 Js 8 (.bld [.string ⟨#[]⟩,.int .i64 0,.int .i64 0] [(0,1,.c (.string ⟨#[97]⟩))]),
 ⟨some 9,.mksl 3 1 [.string ⟨#[]⟩,.int .i64 0,.int .i64 0] [(0,3,.t 8)],none⟩,Js 10 (.bld [.string ⟨#[]⟩,.int .i64 0,.int .i64 0,.slice none 0 0] [(0,1,.c (.string ⟨#[120]⟩)),(1,1,.c (.int .i64 2)),(3,1,.t 9)]),Js 11 (.bld [.string ⟨#[]⟩,.int .i64 0,.int .i64 0,.slice none 0 0,.slice none 0 0] [(0,4,.t 10)]),Js 12 (.bld [.string ⟨#[]⟩,.int .i64 0,.int .i64 0] [(1,1,.c (.int .i64 1))]),
 ⟨some 13,.mksl 3 1 [.string ⟨#[]⟩,.int .i64 0,.int .i64 0] [(0,3,.t 12)],none⟩,Js 14 (.bld [.string ⟨#[]⟩,.int .i64 0,.int .i64 0,.slice none 0 0] [(0,1,.c (.string ⟨#[120]⟩)),(1,1,.c (.int .i64 4)),(3,1,.t 13)]),Js 15 (.bld [.string ⟨#[]⟩,.int .i64 0,.int .i64 0,.slice none 0 0,.slice none 0 0] [(0,4,.t 14)]),Jk 16 5 1,
 ⟨some 17,.mksl 5 3 [.string ⟨#[]⟩,.int .i64 0,.int .i64 0,.slice none 0 0,.slice none 0 0,.string ⟨#[]⟩,.int .i64 0,.int .i64 0,.slice none 0 0,.slice none 0 0,.string ⟨#[]⟩,.int .i64 0,.int .i64 0,.slice none 0 0,.slice none 0 0] [(0,5,.t 11),(5,5,.t 15),(10,5,.t 16)],none⟩,Js 18 (.bld [.string ⟨#[]⟩,.slice none 0 0] [(0,1,.c (.string ⟨#[120]⟩)),(1,1,.t 17)]),Js 2 (.new [.string ⟨#[]⟩,.slice none 0 0]),Jw 2 2 18]
def yDK : List zA := [
 Js 19 (.bld [.string ⟨#[]⟩,.int .i64 0,.int .i64 0] [(1,1,.c (.int .i64 1)),(2,1,.c (.int .i64 1))]),
 ⟨some 20,.mksl 3 1 [.string ⟨#[]⟩,.int .i64 0,.int .i64 0] [(0,3,.t 19)],none⟩,Js 21 (.bld [.string ⟨#[]⟩,.int .i64 0,.int .i64 0,.slice none 0 0] [(0,1,.c (.string ⟨#[46]⟩)),(1,1,.c (.int .i64 6)),(3,1,.t 20)]),Js 3 (.new [.string ⟨#[]⟩,.int .i64 0,.int .i64 0,.slice none 0 0]),Jw 4 3 21]
def yEI : List zA := [
 Js 22 (.bld [.string ⟨#[]⟩,.int .i64 0,.int .i64 0] [(0,1,.c (.string ⟨#[97]⟩)),(1,1,.c (.int .i64 1))]),
 ⟨some 23,.mksl 3 1 [.string ⟨#[]⟩,.int .i64 0,.int .i64 0] [(0,3,.t 22)],none⟩,Jk 24 2 2,Js 25 (.bld [.int .i64 0,.int .i64 0,.int .i64 0,.string ⟨#[]⟩,.slice none 0 0] [(2,1,.c (.int .i64 20)),(3,2,.t 24)]),
 ⟨some 26,.mksl 5 1 [.int .i64 0,.int .i64 0,.int .i64 0,.string ⟨#[]⟩,.slice none 0 0] [(0,5,.t 25)],none⟩,Jk 27 4 3,
 ⟨some 28,.mksl 1 1 [.int .i64 0] [(0,1,.c (.int .i64 1))],none⟩,Js 29 (.bld [.slice none 0 0,.slice none 0 0,.string ⟨#[]⟩,.int .i64 0,.int .i64 0,.slice none 0 0,.slice none 0 0,.int .i64 0,.int .i64 0] [(0,1,.t 23),(1,1,.t 26),(2,4,.t 27),(6,1,.t 28),(7,1,.c (.int .i64 2)),(8,1,.c (.int .i64 50))]),Jw 9 0 29]
def zMC : zI := ⟨30, [.cell 0 (some 9)],
  (Jz yAO [0] (Jz zXP [0,1] (Jz zYO [0,2] (Jz yDK [0,2,3] (Jz yEI [0] .ret)))))⟩
def zWj : List zA := [
 Kx 1 0,Jc 2 (.bool false)]
def yFC : List zA := [
 Jc 3 (.int .i64 0)]
def yDr : List zA := [
 Jm 4 3,Jf 5 1 1,Jl 6 5,Je 7 6,Kc 8 .lss 4 7,Jm 9 8,Ju 10 3 9,Jt 11 (.bin .lss (.t 10) (.c (.int .i64 8))) 9,Ja 12 9 11]
def zTw : List zA := [
 Jf 15 1 1,Jl 16 15,Jm 17 3,Ji 18 5 16 17,Jf 19 3 18,Jf 20 1 19,Jl 21 20,Je 22 21,Kb 23 .gtr 22 30]
def yBF : List zA := [
 Jc 2 (.bool false)]
def zTU : List zA := [
 Jm 13 3,Kb 14 .add 13 1,Jm 3 14]
def yFr : List zA := [
 Jk 24 9 1,Jp 25 191 [.t 24],Jm 26 25,Kf 27 1 1 26,Kl 28 27 26,Jt 29 (.len false (.t 28)) 26,Jt 30 (.bin .leq (.t 29) (.c (.int .i64 8))) 26,Ja 31 26 30,Jm 2 31]
def zNi : zI := ⟨32, [.slot 2],
  (Jz zWj [1] (.seq (Jz yFC [1,3] (.block 0 (.loop [1,3] (.seq (Jz yDr [1,3,12] (.cond (.t 12) .skip (.exit 0))) (.seq (.block 1 (Jz zTw [1,3,23] (.cond (.t 23) (Jz yBF [2] .ret) .skip))) (.reg zTU [1,3])))))) (Jz yFr [2] .ret)))⟩
def zUU : List zA := [
 Kx 1 0,Jc 2 (.bool false)]
def zUM : List zA := [
 Jf 7 0 1,Jl 8 7,Jp 9 192 [.t 8],Kn 10 9,Jm 11 10,Kg 12 2 1 11,Jn 13 (.ld (some 4) (.t 12)) 11,Kg 14 6 1 11,Km 15 14 11,
 ⟨some 16,.callp 193 [.t 13,.t 15],(some (11,false))⟩,Jn 17 (.not (.t 16)) 11,Jr 18 11 17,Jm 19 18,Kg 20 8 1 19,Km 21 20 19,Jn 22 (.bin .lss (.t 21) (.c (.int .i64 1))) 19,Jr 23 19 22,Jm 24 23,Kg 25 8 1 24,Km 26 25 24,Jn 27 (.bin .gtr (.t 26) (.c (.int .i64 10000000))) 24,Jr 28 24 27,Jm 29 28,Kg 30 7 1 29,Km 31 30 29,Jn 32 (.bin .lss (.t 31) (.c (.int .i64 0))) 29,Jr 33 29 32,Jm 34 33,Kg 35 7 1 34,Km 36 35 34,Jn 37 (.bin .gtr (.t 36) (.c (.int .i64 1000))) 34,Jr 38 34 37,Jm 39 38,Kg 40 1 1 39,Km 41 40 39,Jn 42 (.len false (.t 41)) 39,Jn 43 (.bin .gtr (.t 42) (.c (.int .i64 4000))) 39,Jr 44 39 43]
def zYz : List zA := [
 Jc 2 (.bool false)]
def yEs : List zA := [
 Jc 3 (.int .i64 0)]
def yCL : List zA := [
 Jm 45 3,Jf 46 1 1,Jl 47 46,Je 48 47,Kc 49 .lss 45 48]
def zXx : List zA := [
 Jf 52 1 1,Jl 53 52,Jm 54 3,Ji 55 5 53 54,Jk 56 5 55,Js 4 (.new [.int .i64 0,.int .i64 0,.int .i64 0,.string ⟨#[]⟩,.slice none 0 0]),Jw 5 4 56]
def yEY : List zA := [
 Jf 57 0 4,Jl 58 57,Kb 59 .lss 58 0,Jm 60 59,Kg 61 0 4 60,Km 62 61 60,Kg 63 0 1 60,Km 64 63 60,Jn 65 (.len false (.t 64)) 60,Jn 66 (.bin .geq (.t 62) (.t 65)) 60,Jr 67 60 66,Jm 68 67,Kg 69 1 4 68,Km 70 69 68,Jn 71 (.bin .lss (.t 70) (.c (.int .i64 0))) 68,Jr 72 68 71,Jm 73 72,Kg 74 1 4 73,Km 75 74 73,Kg 76 2 4 73,Km 77 76 73,Jn 78 (.bin .geq (.t 75) (.t 77)) 73,Jr 79 73 78,Jm 80 79,Kg 81 2 4 80,Km 82 81 80,Kg 83 8 1 80,Km 84 83 80,Jn 85 (.bin .gtr (.t 82) (.t 84)) 80,Jr 86 80 85,Jm 87 86,Kg 88 3 4 87,Jn 89 (.ld (some 2) (.t 88)) 87,
 ⟨some 90,.callp 194 [.t 89],(some (87,false))⟩,Jn 91 (.not (.t 90)) 87,Jr 92 87 91]
def zUV : List zA := [
 Jc 2 (.bool false)]
def zYe : List zA := [
 Jc 5 (.int .i64 0)]
def zNG : List zA := [
 Jm 93 5,Jm 94 3,Kc 95 .lss 93 94]
def zRk : List zA := [
 Jf 98 1 1,Jl 99 98,Jm 100 5,Ji 101 5 99 100,Jk 102 5 101,Js 6 (.new [.int .i64 0,.int .i64 0,.int .i64 0,.string ⟨#[]⟩,.slice none 0 0]),Jw 5 6 102]
def zOp : List zA := [
 Jf 103 0 6,Jl 104 103,Jf 105 0 4,Jl 106 105,Kc 107 .eql 104 106,Jm 108 107,Kf 109 3 6 108,Kf 110 0 109 108,Kl 111 110 108,Kf 112 3 4 108,Kf 113 0 112 108,Kl 114 113 108,Jt 115 (.bin .eql (.t 111) (.t 114)) 108,Ja 116 108 115,Jm 117 116,Kf 118 1 6 117,Kl 119 118 117,Kf 120 2 4 117,Kl 121 120 117,Jt 122 (.bin .lss (.t 119) (.t 121)) 117,Ja 123 117 122,Jm 124 123,Kf 125 1 4 124,Kl 126 125 124,Kf 127 2 6 124,Kl 128 127 124,Jt 129 (.bin .lss (.t 126) (.t 128)) 124,Ja 130 124 129]
def zOl : List zA := [
 Jc 2 (.bool false)]
def zRb : List zA := [
 Jm 96 5,Kb 97 .add 96 1,Jm 5 97]
def zYg : List zA := [
 Jm 50 3,Kb 51 .add 50 1,Jm 3 51]
def zOk : List zA := [
 Jf 131 1 1,Jl 132 131,Jx 133 195 [.t 132],Je 134 133,Kb 135 .leq 134 500,Jm 2 135]
def zMX : zI := ⟨136, [.slot 2],
  (Jz zUU [1] (.seq (Jz zUM [1,44] (.cond (.t 44) (Jz zYz [2] .ret) .skip)) (.seq (Jz yEs [1,3] (.block 0 (.loop [1,3] (.seq (Jz yCL [1,3,49] (.cond (.t 49) .skip (.exit 0))) (.seq (.block 1 (Jz zXx [1,3,4] (.seq (Jz yEY [1,3,4,92] (.cond (.t 92) (Jz zUV [2] .ret) .skip)) (Jz zYe [1,3,4,5] (.block 2 (.loop [1,3,4,5] (.seq (Jz zNG [1,3,4,5,95] (.cond (.t 95) .skip (.exit 2))) (.seq (.block 3 (Jz zRk [1,3,4,5,6] (Jz zOp [1,3,4,5,130] (.cond (.t 130) (Jz zOl [2] .ret) .skip)))) (.reg zRb [1,3,4,5]))))))))) (.reg zYg [1,3])))))) (Jz zOk [2] .ret))))⟩
def zZs : List zA := [
 Kx 1 0,Jc 2 (.bool false)]
def yBi : List zA := [
 Jc 3 (.int .i64 0)]
def zXV : List zA := [
 Jm 5 3,Jf 6 1 1,Jl 7 6,Je 8 7,Kc 9 .lss 5 8,Jm 10 9,Ju 11 3 10,Jt 12 (.bin .leq (.t 11) (.c (.int .i64 20))) 10,Ja 13 10 12]
def zVW : List zA := [
 Jf 16 1 1,Jl 17 16,Jm 18 3,Ji 19 5 17 18,Jf 20 3 19,Jk 21 2 20,Jp 22 11 [.t 21],Kn 23 22,Jm 24 23,Kg 25 1 1 24,Km 26 25 24,Jv 27 3 24,Jn 28 (.idx 5 (.t 26) (.t 27)) 24,Kg 29 3 28 24,Kg 30 0 29 24,Km 31 30 24,Jn 32 (.len true (.t 31)) 24,Jn 33 (.bin .gtr (.t 32) (.c (.int .i64 100))) 24,Jr 34 24 33]
def zYR : List zA := [
 Jc 2 (.bool false)]
def zTY : List zA := [
 Jm 14 3,Kb 15 .add 14 1,Jm 3 15]
def zXv : List zA := [
 Jc 4 (.int .i64 0)]
def zXF : List zA := [
 Jm 35 4,Jf 36 0 1,Jl 37 36,Je 38 37,Kc 39 .lss 35 38,Jm 40 39,Ju 41 4 40,Jt 42 (.bin .leq (.t 41) (.c (.int .i64 70))) 40,Ja 43 40 42]
def zYY : List zA := [
 Jf 46 0 1,Jl 47 46,Jm 48 4,Ji 49 3 47 48,Jf 50 0 49,Jl 51 50,Js 52 (.len true (.t 51)),Kb 53 .gtr 52 100]
def zPC : List zA := [
 Jc 2 (.bool false)]
def zUj : List zA := [
 Jm 44 4,Kb 45 .add 44 1,Jm 4 45]
def zOi : List zA := [
 Jf 54 1 1,Jl 55 54,Je 56 55,Kb 57 .leq 56 20,Jm 58 57,Kf 59 0 1 58,Kl 60 59 58,Jt 61 (.len false (.t 60)) 58,Jt 62 (.bin .leq (.t 61) (.c (.int .i64 70))) 58,Ja 63 58 62,Jm 64 63,Kf 65 6 1 64,Kl 66 65 64,Jt 67 (.len false (.t 66)) 64,Jt 68 (.bin .leq (.t 67) (.c (.int .i64 20))) 64,Ja 69 64 68,Jm 70 69,Kf 71 2 1 70,Kf 72 3 71 70,Kl 73 72 70,Jt 74 (.len false (.t 73)) 70,Jt 75 (.bin .leq (.t 74) (.c (.int .i64 20))) 70,Ja 76 70 75,Jm 2 76]
def zLF : zI := ⟨77, [.slot 2],
  (Jz zZs [1] (.seq (Jz yBi [1,3] (.block 0 (.loop [1,3] (.seq (Jz zXV [1,3,13] (.cond (.t 13) .skip (.exit 0))) (.seq (.block 1 (Jz zVW [1,3,34] (.cond (.t 34) (Jz zYR [2] .ret) .skip))) (.reg zTY [1,3])))))) (.seq (Jz zXv [1,4] (.block 2 (.loop [1,4] (.seq (Jz zXF [1,4,43] (.cond (.t 43) .skip (.exit 2))) (.seq (.block 3 (Jz zYY [1,4,53] (.cond (.t 53) (Jz zPC [2] .ret) .skip))) (.reg zUj [1,4])))))) (Jz zOi [2] .ret))))⟩
def yCy : List zA := [
 Jc 2 (.slice none 0 0)]
def zXi : List zA := [
 Jc 3 (.slice none 0 0)]
def zYS : List zA := [
 Jc 4 (.int .i64 0)]
def zUE : List zA := [
 Jm 8 4,Jm 9 0,Je 10 9,Kc 11 .lss 8 10]
def zYl : List zA := [
 Jm 14 0,Jm 15 4,Ji 16 5 14 15,Jf 17 3 16,Jf 18 0 17,Jl 19 18,Jm 5 19]
def yDt : List zA := [
 Jc 6 (.int .i64 0)]
def yCx : List zA := [
 Jm 20 6,Jm 21 3,Je 22 21,Kc 23 .lss 20 22,Jm 24 23,Ju 25 3 24,Ju 26 6 24,Jt 27 (.idx 1 (.t 25) (.t 26)) 24,Kl 28 27 24,Ju 29 5 24,
 ⟨some 30,.callp 196 [.t 28,.t 29],(some (24,true))⟩,Jt 31 (.bin .lss (.t 30) (.c (.int .i64 0))) 24,Ja 32 24 31]
def zZa : List zA := [
 Jm 33 6,Kb 34 .add 33 1,Jm 6 34]
def yDm : List zA := [
 Jm 35 6,Jm 36 3,Je 37 36,Kc 38 .lss 35 37,Jm 39 38,Ju 40 3 39,Ju 41 6 39,Jt 42 (.idx 1 (.t 40) (.t 41)) 39,Kl 43 42 39,Ju 44 5 39,Jt 45 (.bin .eql (.t 43) (.t 44)) 39,Ja 46 39 45]
def zQf : List zA := [
 Jm 47 3,Jm 48 5,
 ⟨some 49,.mksl 1 1 [.string ⟨#[]⟩] [(0,1,.t 48)],none⟩,
 ⟨some 50,.app 1 16 [.string ⟨#[]⟩] (.t 47) (.t 49),none⟩,Jm 3 50]
def zRC : List zA := [
 Jm 51 3,Je 52 51,Kb 53 .sub 52 1,Jm 7 53]
def zRL : List zA := [
 Jm 54 7,Jm 55 6,Kc 56 .gtr 54 55]
def zOw : List zA := [
 Jm 59 3,Jm 60 7,Jm 61 3,Jm 62 7,Kb 63 .sub 62 1,Ji 64 1 61 63,Jl 65 64,Ji 66 1 59 60,Jw 1 66 65]
def zRv : List zA := [
 Jm 57 7,Kb 58 .sub 57 1,Jm 7 58]
def zQm : List zA := [
 Jm 67 3,Jm 68 6,Jm 69 5,Ji 70 1 67 68,Jw 1 70 69]
def yAL : List zA := [
 Jm 12 4,Kb 13 .add 12 1,Jm 4 13]
def zPn : List zA := [
 Jm 71 3,Jm 2 71]
def zMs : zI := ⟨72, [.slot 2],
  (Jz yCy [0] (Jz zXi [0,3] (.seq (Jz zYS [0,3,4] (.block 0 (.loop [0,3,4] (.seq (Jz zUE [0,3,4,11] (.cond (.t 11) .skip (.exit 0))) (.seq (.block 1 (Jz zYl [0,3,4,5] (Jz yDt [0,3,4,5,6] (.seq (.block 2 (.loop [0,3,4,5,6] (.seq (Jz yCx [0,3,4,5,6,32] (.cond (.t 32) .skip (.exit 2))) (.block 3 (.reg zZa [0,3,4,5,6]))))) (.seq (Jz yDm [0,3,4,5,6,46] (.cond (.t 46) (.exit 1) .skip)) (Jz zQf [0,3,4,5,6] (.seq (Jz zRC [0,3,4,5,6,7] (.block 4 (.loop [0,3,4,5,6,7] (.seq (Jz zRL [0,3,4,5,6,7,56] (.cond (.t 56) .skip (.exit 4))) (.seq (.block 5 (.reg zOw [0,3,4,5,6,7])) (.reg zRv [0,3,4,5,6,7])))))) (.reg zQm [0,3,4])))))))) (.reg yAL [0,3,4])))))) (Jz zPn [2] .ret))))⟩
def zWt : List zA := [
 Kx 3 0,Jc 6 (.int .i64 0),Jc 7 (.int .i64 0)]
def yBG : List zA := [
 Jk 15 9 3,Jp 16 48 [.t 15],Kn 17 16,Jm 18 17,Jv 19 1 18,
 ⟨some 20,.callp 45 [.t 19],(some (18,false))⟩,Jn 21 (.not (.t 20)) 18,Jr 22 18 21,Jm 23 22,Jv 24 2 23,Jn 25 (.bin .lss (.t 24) (.c (.int .i64 0))) 23,Jr 26 23 25,Jm 27 26,Jv 28 2 27,Kg 29 8 3 27,Km 30 29 27,Jn 31 (.bin .gtr (.t 28) (.t 30)) 27,Jr 32 27 31]
def zTa : List zA := [
 Jc 6 (.int .i64 0),Jc 7 (.int .i64 1)]
def zWo : List zA := [
 Jc 8 (.bool false)]
def yCr : List zA := [
 Jm 33 2,Jm 9 33]
def yGa : List zA := [
 Jf 34 1 3,Jl 35 34,Je 36 35,Jc 37 (.int .i64 0)]
def zTt : List zA := [
 Kc 38 .lss 37 36]
def zXl : List zA := [
 Ji 39 5 35 37,Jk 40 5 39,Js 11 (.new [.int .i64 0,.int .i64 0,.int .i64 0,.string ⟨#[]⟩,.slice none 0 0]),Jw 5 11 40]
def yEV : List zA := [
 Jf 41 3 11,Jf 42 0 41,Jl 43 42,Jm 44 1,Kc 45 .neq 43 44]
def yFJ : List zA := [
 Jc 8 (.bool true)]
def zOe : List zA := [
 Jf 46 1 11,Jl 47 46,Jm 48 2,Kc 49 .geq 47 48]
def zQF : List zA := [
 Jf 50 2 11,Jl 51 50,Jm 52 2,Js 53 (.mm false (.t 51) (.t 52)),Jm 12 53]
def zRe : List zA := [
 Jf 54 3 11,Jf 55 1 54,Jl 56 55,Je 57 56,Jc 58 (.int .i64 0)]
def zRt : List zA := [
 Kc 59 .lss 58 57]
def zQb : List zA := [
 Ji 60 5 56 58,Jk 61 5 60,Js 14 (.new [.string ⟨#[]⟩,.int .i64 0,.int .i64 0,.slice none 0 0,.slice none 0 0]),Jw 5 14 61]
def zQL : List zA := [
 Jm 62 9,Jk 63 5 14,Jm 64 12,Jf 65 7 3,Jl 66 65,Jx 67 197 [.t 63,.t 64,.t 66],Js 68 (.mm true (.t 62) (.t 67)),Jm 9 68]
def zQK : List zA := [
 Kb 69 .add 58 1,Jm 58 69]
def zQZ : List zA := [
 Kb 70 .add 37 1,Jm 37 70]
def zNv : List zA := [
 Jm 71 8,Kn 72 71]
def zRx : List zA := [
 Jc 6 (.int .i64 0),Jc 7 (.int .i64 4)]
def zQW : List zA := [
 Jm 73 9,Jm 74 2,Kc 75 .sub 73 74,Jm 6 75,Jc 7 (.int .i64 0)]
def zNs : zI := ⟨76, [.slot 6, .slot 7],
  (Jz zWt [1,2,3] (.seq (Jz yBG [1,2,3,32] (.cond (.t 32) (Jz zTa [6,7] .ret) .skip)) (Jz zWo [1,2,3,8] (Jz yCr [1,2,3,8,9] (.seq (Jz yGa [1,2,3,8,9,35,36,37] (.block 0 (.loop [1,2,3,8,9,35,36,37] (Jz zTt [1,2,3,8,9,35,36,37,38] (.seq (.cond (.t 38) .skip (.exit 0)) (.seq (.block 1 (Jz zXl [1,2,3,8,9,11,35,36,37] (.seq (Jz yEV [1,2,3,8,9,11,35,36,37,45] (.cond (.t 45) (.exit 1) .skip)) (Jz yFJ [1,2,3,8,9,11,35,36,37] (.seq (Jz zOe [1,2,3,8,9,11,35,36,37,49] (.cond (.t 49) (.exit 1) .skip)) (Jz zQF [1,2,3,8,9,11,12,35,36,37] (Jz zRe [1,2,3,8,9,12,35,36,37,56,57,58] (.block 2 (.loop [1,2,3,8,9,12,35,36,37,56,57,58] (Jz zRt [1,2,3,8,9,12,35,36,37,56,57,58,59] (.seq (.cond (.t 59) .skip (.exit 2)) (.seq (.block 3 (Jz zQb [1,2,3,8,9,12,14,35,36,37,56,57,58] (.reg zQL [1,2,3,8,9,12,35,36,37,56,57,58]))) (.reg zQK [1,2,3,8,9,12,35,36,37,56,57,58]))))))))))))) (.reg zQZ [1,2,3,8,9,35,36,37]))))))) (.seq (Jz zNv [2,9,72] (.cond (.t 72) (Jz zRx [6,7] .ret) .skip)) (Jz zQW [6,7] .ret)))))))⟩
def yBf : List zA := [
 Kx 3 0,Jc 6 (.int .i64 0)]
def yCu : List zA := [
 Jm 8 1,Kb 9 .sub 8 1,Jf 10 0 3,Jf 11 2 10,Jl 12 11,Js 13 (.mm true (.t 12) (.c (.int .i64 1))),Kc 14 .add 9 13,Jm 15 2,Js 16 (.bin .mul (.c (.int .i64 2)) (.t 15)),Kc 17 .add 14 16,Jm 7 17]
def zTf : List zA := [
 Jf 18 4 3,Jl 19 18,Je 20 19,Kb 21 .gtr 20 0]
def yDa : List zA := [
 Jm 22 7,Jf 23 4 3,Jl 24 23,Js 25 (.idx 6 (.t 24) (.c (.int .i64 0))),Jf 26 4 25,Jl 27 26,Jm 28 2,Kc 29 .add 27 28,Kb 30 .add 29 1,Js 31 (.mm false (.t 22) (.t 30)),Jm 7 31]
def zZI : List zA := [
 Jm 32 7,Jm 33 1,Js 34 (.mm true (.t 32) (.t 33)),Jm 6 34]
def zLW : zI := ⟨35, [.slot 6],
  (Jz yBf [1,2,3] (Jz yCu [1,2,3,7] (.seq (Jz zTf [1,2,3,7,21] (.cond (.t 21) (.reg yDa [1,7]) .skip)) (Jz zZI [6] .ret))))⟩
def yFL : List zA := [
 Jc 4 (.bool false)]
def zTL : List zA := [
 Jm 6 0,Je 7 6,Jm 8 1,Je 9 8,Kc 10 .neq 7 9]
def zVw : List zA := [
 Jc 4 (.bool false)]
def zYZ : List zA := [
 Jc 5 (.int .i64 0)]
def zXe : List zA := [
 Jm 11 5,Jm 12 0,Je 13 12,Kc 14 .lss 11 13]
def yCJ : List yU := [
 ⟨0,Jm 17 0,[]⟩,
 ⟨1,Jm 18 5,[]⟩,
 ⟨2,Ji 19 1 17 18,[]⟩,
 ⟨3,Jl 20 19,[]⟩,
 ⟨4,Jm 21 1,[]⟩,
 ⟨5,Jm 22 5,[]⟩,
 ⟨6,Ji 23 1 21 22,[]⟩,
 ⟨7,Jl 24 23,[]⟩,
 ⟨8,Kc 25 .neq 20 24,[]⟩]
def yBb : List zA := [
 Jc 4 (.bool false)]
def zZn : List zA := [
 Jm 15 5,Kb 16 .add 15 1,Jm 5 16]
def zYB : List zA := [
 Jc 4 (.bool true)]
def zML : zI := ⟨26, [.slot 4],
  (Jz yFL [0,1] (.seq (Jz zTL [0,1,10] (.cond (.t 10) (Jz zVw [4] .ret) .skip)) (.seq (Jz zYZ [0,1,5] (.block 0 (.loop [0,1,5] (.seq (Jz zXe [0,1,5,14] (.cond (.t 14) .skip (.exit 0))) (.seq (.block 1 (.seq (.regd yCJ [0,1,5,25]) (.cond (.t 25) (Jz yBb [4] .ret) .skip))) (.reg zZn [0,1,5])))))) (Jz zYB [4] .ret))))⟩
def zUL : List zA := [
 Jc 2 (.bool false)]
def yAb : List zA := [
 Jm 7 0,Je 8 7,Kb 9 .gtr 8 64]
def zWw : List zA := [
 Jc 2 (.bool false)]
def zWK : List zA := [
 Jc 3 (.int .i64 0)]
def yFg : List zA := [
 Jm 10 3,Jm 11 0,Je 12 11,Kc 13 .lss 10 12]
def zVK : List zA := [
 Jm 16 0,Jm 17 3,Ji 18 3 16 17,Jk 19 3 18,Js 4 (.new [.string ⟨#[]⟩,.int .i64 0,.int .i64 0]),Jw 3 4 19]
def yAo : List zA := [
 Jf 20 0 4,Jl 21 20,Jp 22 198 [.t 21],Jm 5 22]
def zWm : List zA := [
 Jm 23 5,Kn 24 23,Jm 25 24,Kg 26 0 4 25,Km 27 26 25,
 ⟨some 28,.callp 199 [.t 27],(some (25,false))⟩,Jr 29 25 28,Jm 30 29,Kg 31 1 4 30,Km 32 31 30,Jn 33 (.bin .lss (.t 32) (.c (.int .i64 1))) 30,Jr 34 30 33,Jm 35 34,Kg 36 1 4 35,Km 37 36 35,Jn 38 (.bin .gtr (.t 37) (.c (.int .i64 1000000))) 35,Jr 39 35 38,Jm 40 39,Kg 41 2 4 40,Km 42 41 40,Jn 43 (.bin .lss (.t 42) (.c (.int .i64 0))) 40,Jr 44 40 43,Jm 45 44,Kg 46 2 4 45,Km 47 46 45,Jn 48 (.bin .gtr (.t 47) (.c (.int .i64 31))) 45,Jr 49 45 48]
def zUX : List zA := [
 Jc 2 (.bool false)]
def zRg : List zA := [
 Jc 6 (.int .i64 0)]
def zQr : List zA := [
 Jm 50 6,Jm 51 3,Kc 52 .lss 50 51]
def zSh : List yU := [
 ⟨0,Jm 55 0,[]⟩,
 ⟨1,Jm 56 6,[]⟩,
 ⟨2,Ji 57 3 55 56,[]⟩,
 ⟨3,Jf 58 1 57,[]⟩,
 ⟨4,Jl 59 58,[]⟩,
 ⟨5,Jf 60 1 4,[]⟩,
 ⟨6,Jl 61 60,[]⟩,
 ⟨7,Kc 62 .eql 59 61,[]⟩]
def zRD : List zA := [
 Jc 2 (.bool false)]
def zOx : List zA := [
 Jm 53 6,Kb 54 .add 53 1,Jm 6 54]
def zSS : List zA := [
 Jm 14 3,Kb 15 .add 14 1,Jm 3 15]
def zSd : List zA := [
 Jc 2 (.bool true)]
def zMu : zI := ⟨63, [.slot 2],
  (Jz zUL [0] (.seq (Jz yAb [0,9] (.cond (.t 9) (Jz zWw [2] .ret) .skip)) (.seq (Jz zWK [0,3] (.block 0 (.loop [0,3] (.seq (Jz yFg [0,3,13] (.cond (.t 13) .skip (.exit 0))) (.seq (.block 1 (Jz zVK [0,3,4] (Jz yAo [0,3,4,5] (.seq (Jz zWm [0,3,4,49] (.cond (.t 49) (Jz zUX [2] .ret) .skip)) (Jz zRg [0,3,4,6] (.block 2 (.loop [0,3,4,6] (.seq (Jz zQr [0,3,4,6,52] (.cond (.t 52) .skip (.exit 2))) (.seq (.block 3 (.seq (.regd zSh [0,3,4,6,62]) (.cond (.t 62) (Jz zRD [2] .ret) .skip))) (.reg zOx [0,3,4,6])))))))))) (.reg zSS [0,3])))))) (Jz zSd [2] .ret))))⟩
def yBE : List zA := [
 Kx 2 0,Jc 4 (.bool false)]
def zVA : List zA := [
 Jc 5 (.int .i64 0)]
def yDf : List zA := [
 Jm 7 5,Jm 8 1,Je 9 8,Kc 10 .lss 7 9]
def yAv : List zA := [
 Jm 13 1,Jm 14 5,Ji 15 1 13 14,Jl 16 15,Kb 17 .lss 16 1,Jm 18 17,Jv 19 1 18,Jv 20 5 18,Jn 21 (.idx 1 (.t 19) (.t 20)) 18,Km 22 21 18,Jn 23 (.bin .gtr (.t 22) (.c (.int .i64 1000000))) 18,Jr 24 18 23]
def zZo : List zA := [
 Jc 4 (.bool false)]
def zVi : List zA := [
 Jm 11 5,Kb 12 .add 11 1,Jm 5 12]
def zZy : List zA := [
 Jk 25 4 2,Jp 26 200 [.t 25],Jm 6 26]
def yCS : List zA := [
 Jm 27 6,Jm 28 27,Kf 29 1 2 28,Kl 30 29 28,Jt 31 (.bin .eql (.t 30) (.c (.int .i64 6))) 28,Ja 32 28 31,Jm 33 32,Kf 34 0 2 33,Kl 35 34 33,Jt 36 (.bin .eql (.t 35) (.c (.string ⟨#[46]⟩))) 33,Ja 37 33 36,Jm 38 37,Ju 39 1 38,Jt 40 (.len false (.t 39)) 38,Jt 41 (.bin .geq (.t 40) (.c (.int .i64 1))) 38,Ja 42 38 41,Jm 43 42,Ju 44 1 43,Jt 45 (.len false (.t 44)) 43,Jt 46 (.bin .leq (.t 45) (.c (.int .i64 8))) 43,Ja 47 43 46,Jm 4 47]
def zLS : zI := ⟨48, [.slot 4],
  (Jz yBE [1,2] (.seq (Jz zVA [1,2,5] (.block 0 (.loop [1,2,5] (.seq (Jz yDf [1,2,5,10] (.cond (.t 10) .skip (.exit 0))) (.seq (.block 1 (Jz yAv [1,2,5,24] (.cond (.t 24) (Jz zZo [4] .ret) .skip))) (.reg zVi [1,2,5])))))) (Jz zZy [1,2,6] (Jz yCS [4] .ret))))⟩
def yEG : List zA := [
 Kx 1 0,Jc 2 (.bool false)]
def yEB : List zA := [
 Jk 3 2 1,Jp 4 201 [.t 3],Jm 5 4,Jt 6 (.ld (some 2) (.t 1)) 5,
 ⟨some 7,.callp 202 [.t 6],(some (5,true))⟩,Ja 8 5 7,Jm 9 8,Jt 10 (.ld (some 2) (.t 1)) 9,
 ⟨some 11,.callp 203 [.t 10],(some (9,true))⟩,Ja 12 9 11,Jm 13 12,Jt 14 (.ld (some 2) (.t 1)) 13,
 ⟨some 15,.callp 204 [.t 14],(some (13,true))⟩,Ja 16 13 15,Jm 17 16,Jt 18 (.ld (some 2) (.t 1)) 17,
 ⟨some 19,.callp 205 [.t 18],(some (17,true))⟩,Ja 20 17 19,Jm 2 20]
def zMJ : zI := ⟨21, [.slot 2],
  (Jz yEG [1] (Jz yEB [2] .ret))⟩
def zVV : List zA := [
 Kx 1 0,Jc 2 (.bool false)]
def yDe : List zA := [
 Jf 5 0 1,Jl 6 5,Jp 7 198 [.t 6],Kn 8 7,Jm 9 8,Kg 10 0 1 9,Km 11 10 9,
 ⟨some 12,.callp 199 [.t 11],(some (9,false))⟩,Jr 13 9 12,Jm 14 13,Kg 15 1 1 14,Km 16 15 14,Jn 17 (.len false (.t 16)) 14,Jn 18 (.bin .gtr (.t 17) (.c (.int .i64 20000))) 14,Jr 19 14 18]
def zXL : List zA := [
 Jc 2 (.bool false)]
def zXX : List zA := [
 Jc 3 (.int .i64 0)]
def yCP : List zA := [
 Jm 20 3,Jf 21 1 1,Jl 22 21,Je 23 22,Kc 24 .lss 20 23]
def zXt : List zA := [
 Jf 27 1 1,Jl 28 27,Jm 29 3,Ji 30 5 28 29,Jf 31 0 30,Jk 32 4 31,Js 4 (.new [.string ⟨#[]⟩,.int .i64 0,.int .i64 0,.slice none 0 0]),Jw 4 4 32]
def yDR : List yU := [
 ⟨0,Jk 33 4 4,[]⟩,
 ⟨1,Jp 34 200 [.t 33],[]⟩,
 ⟨2,Kn 35 34,[]⟩,
 ⟨3,Jm 36 35,[]⟩,
 ⟨4,Kg 37 0 4 36,[]⟩,
 ⟨5,Km 38 37 36,[]⟩,
 ⟨6,Kg 39 0 1 36,[]⟩,
 ⟨7,Km 40 39 36,[]⟩,
 ⟨8,⟨some 41,.callp 206 [.t 38,.t 40],(some (36,false))⟩,[]⟩,
 ⟨9,Jn 42 (.not (.t 41)) 36,[]⟩,
 ⟨10,Jr 43 36 42,[]⟩,
 ⟨11,Jm 44 43,[]⟩,
 ⟨12,Jv 45 3 44,[]⟩,
 ⟨13,Jn 46 (.bin .gtr (.t 45) (.c (.int .i64 0))) 44,[]⟩,
 ⟨14,Jv 47 46 44,[]⟩,
 ⟨15,Kf 48 1 1 47,[]⟩,
 ⟨16,Kl 49 48 47,[]⟩,
 ⟨17,Ju 50 3 47,[]⟩,
 ⟨18,Jt 51 (.bin .sub (.t 50) (.c (.int .i64 1))) 47,[]⟩,
 ⟨19,Jt 52 (.idx 5 (.t 49) (.t 51)) 47,[]⟩,
 ⟨20,Kf 53 0 52 47,[]⟩,
 ⟨21,Jt 54 (.ld (some 4) (.t 53)) 47,[]⟩,
 ⟨22,Jt 55 (.ld (some 4) (.t 4)) 47,[]⟩,
 ⟨23,⟨some 56,.callp 207 [.t 54,.t 55],(some (47,true))⟩,[]⟩,
 ⟨24,Jt 57 (.bin .geq (.t 56) (.c (.int .i64 0))) 47,[]⟩,
 ⟨25,Jn 58 (.pick (.t 47) (.t 57) (.c (.bool false))) 44,[]⟩,
 ⟨26,Jr 59 44 58,[]⟩]
def yAR : List zA := [
 Jc 2 (.bool false)]
def yBw : List zA := [
 Jm 25 3,Kb 26 .add 25 1,Jm 3 26]
def yEK : List zA := [
 Jc 2 (.bool true)]
def zNg : zI := ⟨60, [.slot 2],
  (Jz zVV [1] (.seq (Jz yDe [1,19] (.cond (.t 19) (Jz zXL [2] .ret) .skip)) (.seq (Jz zXX [1,3] (.block 0 (.loop [1,3] (.seq (Jz yCP [1,3,24] (.cond (.t 24) .skip (.exit 0))) (.seq (.block 1 (Jz zXt [1,3,4] (.seq (.regd yDR [1,3,59]) (.cond (.t 59) (Jz yAR [2] .ret) .skip)))) (.reg yBw [1,3])))))) (Jz yEK [2] .ret))))⟩
def zTN : List zA := [
 Kx 1 0,Jc 2 (.bool false)]
def zTb : List zA := [
 Jk 4 2 1,Jf 5 0 1,Jl 6 5,Js 7 (.bld [.string ⟨#[]⟩,.int .i64 0] [(0,1,.t 6),(1,1,.c (.int .i64 4))]),Jp 8 208 [.t 4,.t 7],Kb 9 .lss 8 0,Jm 10 9,Jn 11 (.ld (some 2) (.t 1)) 10,Kg 12 0 1 10,Km 13 12 10,Jn 14 (.bld [.string ⟨#[]⟩,.int .i64 0] [(0,1,.t 13),(1,1,.c (.int .i64 2))]) 10,
 ⟨some 15,.callp 208 [.t 11,.t 14],(some (10,false))⟩,Jn 16 (.bin .lss (.t 15) (.c (.int .i64 0))) 10,Jr 17 10 16]
def zYN : List zA := [
 Jc 2 (.bool false)]
def yDG : List zA := [
 Jc 3 (.int .i64 0)]
def zVs : List zA := [
 Jm 18 3,Jf 19 1 1,Jl 20 19,Je 21 20,Kc 22 .lss 18 21]
def zXr : List yU := [
 ⟨0,Jf 25 1 1,[]⟩,
 ⟨1,Jl 26 25,[]⟩,
 ⟨2,Jm 27 3,[]⟩,
 ⟨3,Ji 28 5 26 27,[]⟩,
 ⟨4,Jf 29 0 28,[]⟩,
 ⟨5,Jf 30 1 29,[]⟩,
 ⟨6,Jl 31 30,[]⟩,
 ⟨7,Jf 32 1 1,[]⟩,
 ⟨8,Jl 33 32,[]⟩,
 ⟨9,Jm 34 3,[]⟩,
 ⟨10,Ji 35 5 33 34,[]⟩,
 ⟨11,Jf 36 0 35,[]⟩,
 ⟨12,Jf 37 0 36,[]⟩,
 ⟨13,Jl 38 37,[]⟩,
 ⟨14,Jf 39 0 1,[]⟩,
 ⟨15,Jl 40 39,[]⟩,
 ⟨16,Kc 41 .eql 38 40,[]⟩,
 ⟨17,Jp 42 209 [.t 31,.t 41],[]⟩,
 ⟨18,Kn 43 42,[]⟩]
def yAc : List zA := [
 Jc 2 (.bool false)]
def yCY : List zA := [
 Jm 23 3,Kb 24 .add 23 1,Jm 3 24]
def yBn : List zA := [
 Jc 2 (.bool true)]
def zMx : zI := ⟨44, [.slot 2],
  (Jz zTN [1] (.seq (Jz zTb [1,17] (.cond (.t 17) (Jz zYN [2] .ret) .skip)) (.seq (Jz yDG [1,3] (.block 0 (.loop [1,3] (.seq (Jz zVs [1,3,22] (.cond (.t 22) .skip (.exit 0))) (.seq (.block 1 (.seq (.regd zXr [1,3,43]) (.cond (.t 43) (Jz yAc [2] .ret) .skip))) (.reg yCY [1,3])))))) (Jz yBn [2] .ret))))⟩
def zXW : List zA := [
 Kx 1 0,Jc 2 (.bool false)]
def yAB : List zA := [
 Jc 3 (.string ⟨#[]⟩)]
def zZk : List zA := [
 Jc 4 (.int .i64 0)]
def yGw : List zA := [
 Jm 7 4,Jf 8 1 1,Jl 9 8,Je 10 9,Kc 11 .lss 7 10]
def yFO : List zA := [
 Jf 14 1 1,Jl 15 14,Jm 16 4,Ji 17 5 15 16,Jf 18 0 17,Jf 19 1 18,Jl 20 19,Kb 21 .eql 20 3]
def yEO : List zA := [
 Jf 22 1 1,Jl 23 22,Jm 24 4,Ji 25 5 23 24,Jf 26 0 25,Jf 27 0 26,Jl 28 27,Jm 3 28]
def yBy : List zA := [
 Jf 29 1 1,Jl 30 29,Jm 31 4,Ji 32 5 30 31,Jf 33 0 32,Jf 34 1 33,Jl 35 34,Jm 5 35]
def yGt : List zA := [
 Jc 6 (.string ⟨#[]⟩)]
def zCh : List yU := [
 ⟨0,Jm 36 4,[]⟩,
 ⟨1,Kb 37 .gtr 36 0,[]⟩,
 ⟨2,Jm 38 37,[]⟩,
 ⟨3,Kf 39 1 1 38,[]⟩,
 ⟨4,Kl 40 39 38,[]⟩,
 ⟨5,Ju 41 4 38,[]⟩,
 ⟨6,Jt 42 (.bin .sub (.t 41) (.c (.int .i64 1))) 38,[]⟩,
 ⟨7,Jt 43 (.idx 5 (.t 40) (.t 42)) 38,[]⟩,
 ⟨8,Kf 44 0 43 38,[]⟩,
 ⟨9,Kf 45 0 44 38,[]⟩,
 ⟨10,Kl 46 45 38,[]⟩,
 ⟨11,Kf 47 1 1 38,[]⟩,
 ⟨12,Kl 48 47 38,[]⟩,
 ⟨13,Ju 49 4 38,[]⟩,
 ⟨14,Jt 50 (.idx 5 (.t 48) (.t 49)) 38,[]⟩,
 ⟨15,Kf 51 0 50 38,[]⟩,
 ⟨16,Kf 52 0 51 38,[]⟩,
 ⟨17,Kl 53 52 38,[]⟩,
 ⟨18,Jt 54 (.bin .eql (.t 46) (.t 53)) 38,[]⟩,
 ⟨19,Ja 55 38 54,[]⟩]
def zRJ : List zA := [
 Jf 56 1 1,Jl 57 56,Jm 58 4,Ji 59 5 57 58,Jf 60 0 59,Jf 61 0 60,Jl 62 61,Jm 6 62]
def zBi : List zA := [
 Jm 63 6,Js 64 (.bin .neq (.t 63) (.c (.string ⟨#[]⟩))),Jm 65 64,Ju 66 5 65,Jt 67 (.bin .eql (.t 66) (.c (.int .i64 3))) 65,Ja 68 65 67,Jm 69 68,Jv 70 6 69,Jn 71 (.bin .neq (.t 70) (.c (.string ⟨#[]⟩))) 69,Jv 72 71 69,Ju 73 6 72,Ju 74 3 72,Jt 75 (.bin .eql (.t 73) (.t 74)) 72,Jn 76 (.pick (.t 72) (.t 75) (.c (.bool false))) 69,Jv 77 76 69,Ju 78 5 77,Jt 79 (.bin .neq (.t 78) (.c (.int .i64 3))) 77,Jn 80 (.pick (.t 77) (.t 79) (.c (.bool false))) 69,Jv 81 80 69,Ju 82 5 81,Jt 83 (.bin .neq (.t 82) (.c (.int .i64 8))) 81,Jn 84 (.pick (.t 81) (.t 83) (.c (.bool false))) 69,Jr 85 69 84]
def zNu : List zA := [
 Jc 2 (.bool false)]
def zTG : List zA := [
 Jm 12 4,Kb 13 .add 12 1,Jm 4 13]
def zPi : List zA := [
 Jc 2 (.bool true)]
def zMT : zI := ⟨86, [.slot 2],
  (Jz zXW [1] (Jz yAB [1,3] (.seq (Jz zZk [1,3,4] (.block 0 (.loop [1,3,4] (.seq (Jz yGw [1,3,4,11] (.cond (.t 11) .skip (.exit 0))) (.seq (.block 1 (.seq (Jz yFO [1,3,4,21] (.cond (.t 21) (.reg yEO [1,3,4]) .skip)) (Jz yBy [1,3,4,5] (Jz yGt [1,3,4,5,6] (.seq (.seq (.regd zCh [1,3,4,5,6,55]) (.cond (.t 55) (.reg zRJ [1,3,4,5,6]) .skip)) (Jz zBi [1,3,4,85] (.cond (.t 85) (Jz zNu [2] .ret) .skip))))))) (.reg zTG [1,3,4])))))) (Jz zPi [2] .ret))))⟩
def zWz : List zA := [
 Kx 1 0,Jc 2 (.bool false)]
def yEZ : List zA := [
 Jk 7 2 1,Jx 8 210 [.t 7],Jm 3 8]
def zZT : List zA := [
 Jc 4 (.int .i64 0)]
def zXb : List zA := [
 Jm 9 4,Jf 10 1 1,Jl 11 10,Je 12 11,Kc 13 .lss 9 12]
def yCj : List zA := [
 Jf 16 1 1,Jl 17 16,Jm 18 4,Ji 19 5 17 18,Jf 20 0 19,Jk 21 4 20,Js 5 (.new [.string ⟨#[]⟩,.int .i64 0,.int .i64 0,.slice none 0 0]),Jw 4 5 21]
def yCb : List yU := [
 ⟨0,Jm 22 3,[]⟩,
 ⟨1,Jm 23 4,[]⟩,
 ⟨2,Ji 24 1 22 23,[]⟩,
 ⟨3,Jl 25 24,[]⟩,
 ⟨4,Js 26 (.bin .neq (.t 25) (.c (.string ⟨#[]⟩))),[]⟩,
 ⟨5,Jm 27 26,[]⟩,
 ⟨6,Kf 28 0 5 27,[]⟩,
 ⟨7,Kl 29 28 27,[]⟩,
 ⟨8,Ju 30 3 27,[]⟩,
 ⟨9,Ju 31 4 27,[]⟩,
 ⟨10,Jt 32 (.idx 1 (.t 30) (.t 31)) 27,[]⟩,
 ⟨11,Kl 33 32 27,[]⟩,
 ⟨12,Jt 34 (.bin .eql (.t 29) (.t 33)) 27,[]⟩,
 ⟨13,Ja 35 27 34,[]⟩,
 ⟨14,Jm 6 35,[]⟩]
def zUl : List zA := [
 Jm 36 3,Jm 37 4,Ji 38 1 36 37,Jl 39 38,Js 40 (.bin .neq (.t 39) (.c (.string ⟨#[]⟩))),Jm 41 40,Kf 42 1 5 41,Kl 43 42 41,Jt 44 (.bin .neq (.t 43) (.c (.int .i64 1))) 41,Ja 45 41 44,Jm 46 45,Ju 47 6 46,Jt 48 (.not (.t 47)) 46,Ja 49 46 48]
def yCl : List zA := [
 Jc 2 (.bool false)]
def zYb : List zA := [
 Jm 50 6,Jm 51 50,Kf 52 1 5 51,Kl 53 52 51,Jt 54 (.bin .neq (.t 53) (.c (.int .i64 1))) 51,Ja 55 51 54,Jm 56 55,Kf 57 1 5 56,Kl 58 57 56,Jt 59 (.bin .neq (.t 58) (.c (.int .i64 2))) 56,Ja 60 56 59,Jm 61 60,Kf 62 1 5 61,Kl 63 62 61,Jt 64 (.bin .neq (.t 63) (.c (.int .i64 6))) 61,Ja 65 61 64,Jm 66 65,Kf 67 1 5 66,Kl 68 67 66,Jt 69 (.bin .neq (.t 68) (.c (.int .i64 8))) 66,Ja 70 66 69]
def zOW : List zA := [
 Jc 2 (.bool false)]
def zRZ : List zA := [
 Jf 71 1 5,Jl 72 71,Kb 73 .eql 72 6,Jm 74 73,Ju 75 6 74,Jt 76 (.not (.t 75)) 74,Ja 77 74 76]
def zOE : List zA := [
 Jc 2 (.bool false)]
def yFt : List zA := [
 Jm 14 4,Kb 15 .add 14 1,Jm 4 15]
def zQO : List zA := [
 Jc 2 (.bool true)]
def zMM : zI := ⟨78, [.slot 2],
  (Jz zWz [1] (Jz yEZ [1,3] (.seq (Jz zZT [1,3,4] (.block 0 (.loop [1,3,4] (.seq (Jz zXb [1,3,4,13] (.cond (.t 13) .skip (.exit 0))) (.seq (.block 1 (Jz yCj [1,3,4,5] (.seq (.regd yCb [1,3,4,5,6]) (.seq (Jz zUl [1,3,4,5,6,49] (.cond (.t 49) (Jz yCl [2] .ret) .skip)) (.seq (Jz zYb [1,3,4,5,6,70] (.cond (.t 70) (Jz zOW [2] .ret) .skip)) (Jz zRZ [1,3,4,77] (.cond (.t 77) (Jz zOE [2] .ret) .skip))))))) (.reg yFt [1,3,4])))))) (Jz zQO [2] .ret))))⟩
def zVJ : List zA := [
 Kx 1 0,Jc 2 (.bool false)]
def zWh : List zA := [
 Jk 5 2 1,Jx 6 211 [.t 5],Jm 3 6]
def yFP : List zA := [
 Jc 4 (.int .i64 0)]
def yCO : List zA := [
 Jm 7 4,Jf 8 1 1,Jl 9 8,Je 10 9,Kc 11 .lss 7 10]
def zXu : List yU := [
 ⟨0,Jf 14 1 1,[]⟩,
 ⟨1,Jl 15 14,[]⟩,
 ⟨2,Jm 16 4,[]⟩,
 ⟨3,Ji 17 5 15 16,[]⟩,
 ⟨4,Jf 18 4 17,[]⟩,
 ⟨5,Jl 19 18,[]⟩,
 ⟨6,Jf 20 0 1,[]⟩,
 ⟨7,Jl 21 20,[]⟩,
 ⟨8,Jp 22 212 [.t 19,.t 21],[]⟩,
 ⟨9,Kn 23 22,[]⟩,
 ⟨10,Jm 24 23,[]⟩,
 ⟨11,Jv 25 3 24,[]⟩,
 ⟨12,Jv 26 4 24,[]⟩,
 ⟨13,Jn 27 (.idx 1 (.t 25) (.t 26)) 24,[]⟩,
 ⟨14,Km 28 27 24,[]⟩,
 ⟨15,Jn 29 (.not (.t 28)) 24,[]⟩,
 ⟨16,Jv 30 29 24,[]⟩,
 ⟨17,Kf 31 1 1 30,[]⟩,
 ⟨18,Kl 32 31 30,[]⟩,
 ⟨19,Ju 33 4 30,[]⟩,
 ⟨20,Jt 34 (.idx 5 (.t 32) (.t 33)) 30,[]⟩,
 ⟨21,Kf 35 4 34 30,[]⟩,
 ⟨22,Kl 36 35 30,[]⟩,
 ⟨23,Jt 37 (.len false (.t 36)) 30,[]⟩,
 ⟨24,Jt 38 (.bin .gtr (.t 37) (.c (.int .i64 0))) 30,[]⟩,
 ⟨25,Jn 39 (.pick (.t 30) (.t 38) (.c (.bool false))) 24,[]⟩,
 ⟨26,Jr 40 24 39,[]⟩]
def yAK : List zA := [
 Jc 2 (.bool false)]
def zXs : List zA := [
 Jm 12 4,Kb 13 .add 12 1,Jm 4 13]
def yCU : List zA := [
 Jc 2 (.bool true)]
def zMh : zI := ⟨41, [.slot 2],
  (Jz zVJ [1] (Jz zWh [1,3] (.seq (Jz yFP [1,3,4] (.block 0 (.loop [1,3,4] (.seq (Jz yCO [1,3,4,11] (.cond (.t 11) .skip (.exit 0))) (.seq (.block 1 (.seq (.regd zXu [1,3,4,40]) (.cond (.t 40) (Jz yAK [2] .ret) .skip))) (.reg zXs [1,3,4])))))) (Jz yCU [2] .ret))))⟩
def yCG : List zA := [
 Kx 2 0,Kx 3 1,Jc 4 (.int .i64 0)]
def yFf : List zA := [
 Jc 5 (.int .i64 0)]
def zXg : List zA := [
 Jm 6 5,Jf 7 1 2,Jl 8 7,Je 9 8,Kc 10 .lss 6 9]
def zXw : List yU := [
 ⟨0,Jf 13 1 2,[]⟩,
 ⟨1,Jl 14 13,[]⟩,
 ⟨2,Jm 15 5,[]⟩,
 ⟨3,Ji 16 5 14 15,[]⟩,
 ⟨4,Jf 17 0 16,[]⟩,
 ⟨5,Jf 18 0 17,[]⟩,
 ⟨6,Jl 19 18,[]⟩,
 ⟨7,Jf 20 0 3,[]⟩,
 ⟨8,Jl 21 20,[]⟩,
 ⟨9,Kc 22 .eql 19 21,[]⟩,
 ⟨10,Jm 23 22,[]⟩,
 ⟨11,Kf 24 1 2 23,[]⟩,
 ⟨12,Kl 25 24 23,[]⟩,
 ⟨13,Ju 26 5 23,[]⟩,
 ⟨14,Jt 27 (.idx 5 (.t 25) (.t 26)) 23,[]⟩,
 ⟨15,Kf 28 0 27 23,[]⟩,
 ⟨16,Kf 29 1 28 23,[]⟩,
 ⟨17,Kl 30 29 23,[]⟩,
 ⟨18,Kf 31 1 3 23,[]⟩,
 ⟨19,Kl 32 31 23,[]⟩,
 ⟨20,Jt 33 (.bin .eql (.t 30) (.t 32)) 23,[]⟩,
 ⟨21,Ja 34 23 33,[]⟩]
def yAX : List zA := [
 Jm 35 5,Jm 4 35]
def yCW : List zA := [
 Jm 11 5,Kb 12 .add 11 1,Jm 5 12]
def zXC : List zA := [
 Jc 4 (.int .i64 (-1))]
def zMY : zI := ⟨36, [.slot 4],
  (Jz yCG [2,3] (.seq (Jz yFf [2,3,5] (.block 0 (.loop [2,3,5] (.seq (Jz zXg [2,3,5,10] (.cond (.t 10) .skip (.exit 0))) (.seq (.block 1 (.seq (.regd zXw [2,3,5,34]) (.cond (.t 34) (Jz yAX [4] .ret) .skip))) (.reg yCW [2,3,5])))))) (Jz zXC [4] .ret)))⟩
def yAS : List zA := [
 Jc 4 (.bool false)]
def yFq : List zA := [
 Jm 5 1]
def yFB : List zA := [
 Jm 6 0,Kb 7 .neq 6 3,Jm 8 7,Ju 9 0 8,Jt 10 (.bin .neq (.t 9) (.c (.int .i64 6))) 8,Ja 11 8 10,Jm 4 11]
def zUf : List zA := [
 Jm 12 0,Kb 13 .neq 12 4,Jm 14 13,Ju 15 0 14,Jt 16 (.bin .neq (.t 15) (.c (.int .i64 7))) 14,Ja 17 14 16,Jm 4 17]
def zLy : zI := ⟨18, [.slot 4],
  (Jz yAS [0,1] (.seq (Jz yFq [0,5] (.cond (.t 5) (Jz yFB [4] .ret) .skip)) (Jz zUf [4] .ret)))⟩
def zUm : List zA := [
 Kx 1 0,Jc 2 (.slice none 0 0)]
def yEW : List zA := [
 Jk 8 2 1,Jx 9 213 [.t 8],Jm 3 9]
def zYM : List zA := [
 Jf 10 1 1,Jl 11 10,Je 12 11,
 ⟨some 13,.mk 1 16 [.string ⟨#[]⟩] (.t 12) (.t 12),none⟩,Jm 4 13]
def yDb : List zA := [
 Jc 5 (.int .i64 0)]
def zWM : List zA := [
 Jc 6 (.int .i64 0)]
def yEA : List zA := [
 Jm 14 6,Jf 15 1 1,Jl 16 15,Je 17 16,Kc 18 .lss 14 17]
def zVN : List zA := [
 Jf 21 1 1,Jl 22 21,Jm 23 6,Ji 24 5 22 23,Jf 25 0 24,Jf 26 0 25,Jl 27 26,Jm 7 27]
def zUk : List zA := [
 Jm 28 5,Jm 29 3,Je 30 29,Kc 31 .lss 28 30,Jm 32 31,Ju 33 3 32,Ju 34 5 32,Jt 35 (.idx 1 (.t 33) (.t 34)) 32,Kl 36 35 32,Ju 37 7 32,
 ⟨some 38,.callp 196 [.t 36,.t 37],(some (32,true))⟩,Jt 39 (.bin .leq (.t 38) (.c (.int .i64 0))) 32,Ja 40 32 39]
def zYx : List zA := [
 Jm 41 5,Kb 42 .add 41 1,Jm 5 42]
def zRN : List zA := [
 Jm 43 5,Kb 44 .gtr 43 0,Jm 45 44,Ju 46 7 45,Ju 47 3 45,Ju 48 5 45,Jt 49 (.bin .sub (.t 48) (.c (.int .i64 1))) 45,Jt 50 (.idx 1 (.t 47) (.t 49)) 45,Kl 51 50 45,
 ⟨some 52,.callp 206 [.t 46,.t 51],(some (45,true))⟩,Ja 53 45 52]
def zOZ : List zA := [
 Jm 54 4,Jm 55 6,Jm 56 3,Jm 57 5,Kb 58 .sub 57 1,Ji 59 1 56 58,Jl 60 59,Ji 61 1 54 55,Jw 1 61 60]
def yFM : List zA := [
 Jm 19 6,Kb 20 .add 19 1,Jm 6 20]
def zOg : List zA := [
 Jm 62 4,Jm 2 62]
def zLL : zI := ⟨63, [.slot 2],
  (Jz zUm [1] (Jz yEW [1,3] (Jz zYM [1,3,4] (Jz yDb [1,3,4,5] (.seq (Jz zWM [1,3,4,5,6] (.block 0 (.loop [1,3,4,5,6] (.seq (Jz yEA [1,3,4,5,6,18] (.cond (.t 18) .skip (.exit 0))) (.seq (.block 1 (Jz zVN [1,3,4,5,6,7] (.seq (.block 2 (.loop [1,3,4,5,6,7] (.seq (Jz zUk [1,3,4,5,6,7,40] (.cond (.t 40) .skip (.exit 2))) (.block 3 (.reg zYx [1,3,4,5,6,7]))))) (Jz zRN [1,3,4,5,6,53] (.cond (.t 53) (.reg zOZ [1,3,4,5,6]) .skip))))) (.reg yFM [1,3,4,5,6])))))) (Jz zOg [2] .ret))))))⟩
def zWN : List zA := [
 Kx 1 0,Jc 2 (.slice none 0 0)]
def zYm : List zA := [
 Jk 7 2 1,Jx 8 210 [.t 7],Jm 3 8]
def zTg : List zA := [
 Jf 9 1 1,Jl 10 9,Je 11 10,
 ⟨some 12,.mk 1 1 [.bool false] (.t 11) (.t 11),none⟩,Jm 4 12]
def yDz : List zA := [
 Jc 5 (.int .i64 0)]
def zWe : List zA := [
 Jm 13 5,Jf 14 1 1,Jl 15 14,Je 16 15,Kc 17 .lss 13 16]
def zYW : List zA := [
 Jf 20 1 1,Jl 21 20,Jm 22 5,Ji 23 5 21 22,Jf 24 0 23,Jf 25 1 24,Jl 26 25,Jm 6 26]
def zUZ : List zA := [
 Jm 27 4,Jm 28 5,Jm 29 3,Jm 30 5,Ji 31 1 29 30,Jl 32 31,Js 33 (.bin .eql (.t 32) (.c (.string ⟨#[]⟩))),Jm 34 33,Jv 35 6 34,Jn 36 (.bin .neq (.t 35) (.c (.int .i64 2))) 34,Jv 37 36 34,Ju 38 6 37,Jt 39 (.bin .neq (.t 38) (.c (.int .i64 1))) 37,Jn 40 (.pick (.t 37) (.t 39) (.c (.bool false))) 34,Jr 41 34 40,Ji 42 1 27 28,Jw 1 42 41]
def yFu : List zA := [
 Jm 18 5,Kb 19 .add 18 1,Jm 5 19]
def yAj : List zA := [
 Jm 43 4,Jm 2 43]
def zLR : zI := ⟨44, [.slot 2],
  (Jz zWN [1] (Jz zYm [1,3] (Jz zTg [1,3,4] (.seq (Jz yDz [1,3,4,5] (.block 0 (.loop [1,3,4,5] (.seq (Jz zWe [1,3,4,5,17] (.cond (.t 17) .skip (.exit 0))) (.seq (.block 1 (Jz zYW [1,3,4,5,6] (.reg zUZ [1,3,4,5]))) (.reg yFu [1,3,4,5])))))) (Jz yAj [2] .ret)))))⟩
def yDE : List zA := [
 Jc 4 (.bool false)]
def yAC : List zA := [
 Jm 7 0,Je 8 7,Kb 9 .gtr 8 6]
def yDM : List zA := [
 Jc 4 (.bool false)]
def zUF : List zA := [
 Jc 5 (.int .i64 0)]
def zTC : List zA := [
 Jm 10 5,Jm 11 0,Je 12 11,Kc 13 .lss 10 12]
def zVj : List zA := [
 Jm 16 0,Jm 17 5,Ji 18 6 16 17,Jk 19 6 18,Js 6 (.new [.string ⟨#[]⟩,.int .i64 0,.int .i64 0,.int .i64 0,.int .i64 0,.int .u64 0]),Jw 6 6 19]
def zTM : List yU := [
 ⟨0,Jf 20 0 6,[]⟩,
 ⟨1,Jl 21 20,[]⟩,
 ⟨2,Jm 22 1,[]⟩,
 ⟨3,Kc 23 .neq 21 22,[]⟩,
 ⟨4,Jm 24 23,[]⟩,
 ⟨5,Kg 25 1 6 24,[]⟩,
 ⟨6,Km 26 25 24,[]⟩,
 ⟨7,Jn 27 (.bin .lss (.t 26) (.c (.int .i64 1))) 24,[]⟩,
 ⟨8,Jr 28 24 27,[]⟩,
 ⟨9,Jm 29 28,[]⟩,
 ⟨10,Kg 30 1 6 29,[]⟩,
 ⟨11,Km 31 30 29,[]⟩,
 ⟨12,Jn 32 (.bin .gtr (.t 31) (.c (.int .i64 1000000))) 29,[]⟩,
 ⟨13,Jr 33 29 32,[]⟩,
 ⟨14,Jm 34 33,[]⟩,
 ⟨15,Kg 35 2 6 34,[]⟩,
 ⟨16,Km 36 35 34,[]⟩,
 ⟨17,Jn 37 (.bin .lss (.t 36) (.c (.int .i64 1))) 34,[]⟩,
 ⟨18,Jr 38 34 37,[]⟩,
 ⟨19,Jm 39 38,[]⟩,
 ⟨20,Kg 40 2 6 39,[]⟩,
 ⟨21,Km 41 40 39,[]⟩,
 ⟨22,Jn 42 (.bin .gtr (.t 41) (.c (.int .i64 3))) 39,[]⟩,
 ⟨23,Jr 43 39 42,[]⟩,
 ⟨24,Jm 44 43,[]⟩,
 ⟨25,Kg 45 3 6 44,[]⟩,
 ⟨26,Km 46 45 44,[]⟩,
 ⟨27,Jv 47 0 44,[]⟩,
 ⟨28,Jn 48 (.idx 6 (.t 47) (.c (.int .i64 0))) 44,[]⟩,
 ⟨29,Kg 49 3 48 44,[]⟩,
 ⟨30,Km 50 49 44,[]⟩,
 ⟨31,Jn 51 (.bin .neq (.t 46) (.t 50)) 44,[]⟩,
 ⟨32,Jr 52 44 51,[]⟩,
 ⟨33,Jm 53 52,[]⟩,
 ⟨34,Kg 54 4 6 53,[]⟩,
 ⟨35,Km 55 54 53,[]⟩,
 ⟨36,Jv 56 0 53,[]⟩,
 ⟨37,Jn 57 (.idx 6 (.t 56) (.c (.int .i64 0))) 53,[]⟩,
 ⟨38,Kg 58 4 57 53,[]⟩,
 ⟨39,Km 59 58 53,[]⟩,
 ⟨40,Jn 60 (.bin .neq (.t 55) (.t 59)) 53,[]⟩,
 ⟨41,Jr 61 53 60,[]⟩,
 ⟨42,Jm 62 61,[]⟩,
 ⟨43,Jv 63 5 62,[]⟩,
 ⟨44,Jn 64 (.bin .gtr (.t 63) (.c (.int .i64 0))) 62,[]⟩,
 ⟨45,Jv 65 64 62,[]⟩,
 ⟨46,Kf 66 1 6 65,[]⟩,
 ⟨47,Kl 67 66 65,[]⟩,
 ⟨48,Ju 68 0 65,[]⟩,
 ⟨49,Ju 69 5 65,[]⟩,
 ⟨50,Jt 70 (.bin .sub (.t 69) (.c (.int .i64 1))) 65,[]⟩,
 ⟨51,Jt 71 (.idx 6 (.t 68) (.t 70)) 65,[]⟩,
 ⟨52,Kf 72 1 71 65,[]⟩,
 ⟨53,Kl 73 72 65,[]⟩,
 ⟨54,Jt 74 (.bin .leq (.t 67) (.t 73)) 65,[]⟩,
 ⟨55,Jn 75 (.pick (.t 65) (.t 74) (.c (.bool false))) 62,[]⟩,
 ⟨56,Jr 76 62 75,[]⟩]
def zWD : List zA := [
 Jc 4 (.bool false)]
def yDD : List zA := [
 Jf 77 3 6,Jl 78 77,Kb 79 .lss 78 0,Jm 80 79,Kg 81 3 6 80,Km 82 81 80,Kg 83 4 6 80,Km 84 83 80,Jn 85 (.bin .gtr (.t 82) (.t 84)) 80,Jr 86 80 85,Jm 87 86,Kg 88 4 6 87,Km 89 88 87,Jn 90 (.bin .gtr (.t 89) (.c (.int .i64 20000000))) 87,Jr 91 87 90]
def zRn : List zA := [
 Jc 4 (.bool false)]
def yEt : List zA := [
 Jm 14 5,Kb 15 .add 14 1,Jm 5 15]
def zPd : List zA := [
 Jc 4 (.bool true)]
def zLE : zI := ⟨92, [.slot 4],
  (Jz yDE [0,1] (.seq (Jz yAC [0,1,9] (.cond (.t 9) (Jz yDM [4] .ret) .skip)) (.seq (Jz zUF [0,1,5] (.block 0 (.loop [0,1,5] (.seq (Jz zTC [0,1,5,13] (.cond (.t 13) .skip (.exit 0))) (.seq (.block 1 (Jz zVj [0,1,5,6] (.seq (.seq (.regd zTM [0,1,5,6,76]) (.cond (.t 76) (Jz zWD [4] .ret) .skip)) (Jz yDD [0,1,5,91] (.cond (.t 91) (Jz zRn [4] .ret) .skip))))) (.reg yEt [0,1,5])))))) (Jz zPd [4] .ret))))⟩
def yEE : List zA := [
 Kx 1 0,Jc 2 (.slice none 0 0)]
def yCm : List zA := [
 Jk 6 2 1,Jx 7 214 [.t 6],Jm 3 7]
def zZp : List zA := [
 Jc 4 (.slice none 0 0)]
def zVM : List zA := [
 Jc 5 (.int .i64 0)]
def yBB : List zA := [
 Jm 8 5,Jm 9 3,Je 10 9,Kc 11 .lss 8 10]
def zSW : List yU := [
 ⟨0,Jm 14 4,[]⟩,
 ⟨1,Je 15 14,[]⟩,
 ⟨2,Kb 16 .eql 15 0,[]⟩,
 ⟨3,Jm 17 16,[]⟩,
 ⟨4,Jv 18 3 17,[]⟩,
 ⟨5,Jv 19 5 17,[]⟩,
 ⟨6,Jn 20 (.idx 1 (.t 18) (.t 19)) 17,[]⟩,
 ⟨7,Km 21 20 17,[]⟩,
 ⟨8,Jv 22 4 17,[]⟩,
 ⟨9,Jv 23 4 17,[]⟩,
 ⟨10,Jn 24 (.len false (.t 23)) 17,[]⟩,
 ⟨11,Jn 25 (.bin .sub (.t 24) (.c (.int .i64 1))) 17,[]⟩,
 ⟨12,Jn 26 (.idx 1 (.t 22) (.t 25)) 17,[]⟩,
 ⟨13,Km 27 26 17,[]⟩,
 ⟨14,⟨some 28,.callp 206 [.t 21,.t 27],(some (17,false))⟩,[]⟩,
 ⟨15,Jn 29 (.not (.t 28)) 17,[]⟩,
 ⟨16,Jr 30 17 29,[]⟩]
def zXa : List zA := [
 Jm 31 4,Jm 32 3,Jm 33 5,Ji 34 1 32 33,Jl 35 34,
 ⟨some 36,.mksl 1 1 [.string ⟨#[]⟩] [(0,1,.t 35)],none⟩,
 ⟨some 37,.app 1 16 [.string ⟨#[]⟩] (.t 31) (.t 36),none⟩,Jm 4 37]
def yDx : List zA := [
 Jm 12 5,Kb 13 .add 12 1,Jm 5 13]
def yCN : List zA := [
 Jm 38 4,Jm 2 38]
def zMo : zI := ⟨39, [.slot 2],
  (Jz yEE [1] (Jz yCm [3] (Jz zZp [3,4] (.seq (Jz zVM [3,4,5] (.block 0 (.loop [3,4,5] (.seq (Jz yBB [3,4,5,11] (.cond (.t 11) .skip (.exit 0))) (.seq (.block 1 (.seq (.regd zSW [3,4,5,30]) (.cond (.t 30) (.reg zXa [3,4,5]) .skip))) (.reg yDx [3,4,5])))))) (Jz yCN [2] .ret)))))⟩
def yCd : List zA := [
 Kx 1 0,Jc 2 (.slice none 0 0)]
def yGd : List zA := [
 Jc 3 (.slice none 0 0)]
def zZM : List zA := [
 Jc 4 (.int .i64 0)]
def zTB : List zA := [
 Jm 6 4,Jf 7 1 1,Jl 8 7,Je 9 8,Kc 10 .lss 6 9]
def yAr : List zA := [
 Jf 13 1 1,Jl 14 13,Jm 15 4,Ji 16 5 14 15,Jf 17 0 16,Jk 18 4 17,Js 5 (.new [.string ⟨#[]⟩,.int .i64 0,.int .i64 0,.slice none 0 0]),Jw 4 5 18]
def zXO : List zA := [
 Jf 19 1 5,Jl 20 19,Kb 21 .eql 20 2,Jm 22 21,Kf 23 0 5 22,Kl 24 23 22,Kf 25 0 1 22,Kl 26 25 22,Jt 27 (.bin .neq (.t 24) (.t 26)) 22,Ja 28 22 27]
def yEJ : List zA := [
 Jm 29 3,Jf 30 0 5,Jl 31 30,
 ⟨some 32,.mksl 1 1 [.string ⟨#[]⟩] [(0,1,.t 31)],none⟩,
 ⟨some 33,.app 1 16 [.string ⟨#[]⟩] (.t 29) (.t 32),none⟩,Jm 3 33]
def zWR : List zA := [
 Jm 11 4,Kb 12 .add 11 1,Jm 4 12]
def zYT : List zA := [
 Jm 34 3,Jm 2 34]
def zLG : zI := ⟨35, [.slot 2],
  (Jz yCd [1] (Jz yGd [1,3] (.seq (Jz zZM [1,3,4] (.block 0 (.loop [1,3,4] (.seq (Jz zTB [1,3,4,10] (.cond (.t 10) .skip (.exit 0))) (.seq (.block 1 (Jz yAr [1,3,4,5] (Jz zXO [1,3,4,5,28] (.cond (.t 28) (.reg yEJ [1,3,4]) .skip)))) (.reg zWR [1,3,4])))))) (Jz zYT [2] .ret))))⟩
def yDI : List zA := [
 Jc 2 (.bool false)]
def zZD : List zA := [
 Jm 6 0,Js 7 (.bin .eql (.t 6) (.c (.string ⟨#[46]⟩)))]
def zXG : List zA := [
 Jc 2 (.bool true)]
def yAz : List zA := [
 Jm 8 0,Js 9 (.len true (.t 8)),Kb 10 .gtr 9 60]
def yFn : List zA := [
 Jc 2 (.bool false)]
def yAi : List zA := [
 Jm 11 0,Jx 12 215 [.t 11],Jm 3 12]
def yFE : List zA := [
 Jc 4 (.int .i64 0)]
def zWp : List zA := [
 Jm 13 4,Jm 14 3,Je 15 14,Kc 16 .lss 13 15]
def zWX : List zA := [
 Jm 19 3,Jm 20 4,Ji 21 1 19 20,Jl 22 21,Jp 23 216 [.t 22],Jm 5 23]
def zNC : List zA := [
 Jm 24 5,Kn 25 24,Jm 26 25,Ju 27 4 26,Jt 28 (.bin .gtr (.t 27) (.c (.int .i64 0))) 26,Ju 29 28 26,Jv 30 3 29,Jv 31 4 29,Jn 32 (.idx 1 (.t 30) (.t 31)) 29,Km 33 32 29,Jn 34 (.bin .neq (.t 33) (.c (.string ⟨#[42]⟩))) 29,Jt 35 (.pick (.t 29) (.c (.bool true)) (.t 34)) 26,Ja 36 26 35]
def zSe : List zA := [
 Jc 2 (.bool false)]
def zVn : List zA := [
 Jm 17 4,Kb 18 .add 17 1,Jm 4 18]
def zRp : List zA := [
 Jm 37 3,Je 38 37,Kb 39 .leq 38 8,Jm 2 39]
def zNh : zI := ⟨40, [.slot 2],
  (Jz yDI [0] (.seq (Jz zZD [0,7] (.cond (.t 7) (Jz zXG [2] .ret) .skip)) (.seq (Jz yAz [0,10] (.cond (.t 10) (Jz yFn [2] .ret) .skip)) (Jz yAi [3] (.seq (Jz yFE [3,4] (.block 0 (.loop [3,4] (.seq (Jz zWp [3,4,16] (.cond (.t 16) .skip (.exit 0))) (.seq (.block 1 (Jz zWX [3,4,5] (Jz zNC [3,4,36] (.cond (.t 36) (Jz zSe [2] .ret) .skip)))) (.reg zVn [3,4])))))) (Jz zRp [2] .ret))))))⟩
def zUP : List zA := [
 Jc 2 (.bool false)]
def zTX : List zA := [
 Jm 4 0,Jx 5 217 [.t 4],Jm 3 5]
def yBc : List zA := [
 Jm 6 3,Je 7 6,Kb 8 .gtr 7 0,Jm 9 8,Ju 10 3 9,Jt 11 (.idx 1 (.t 10) (.c (.int .i64 0))) 9,Kl 12 11 9,Jt 13 (.bin .eql (.t 12) (.c (.string ⟨#[42]⟩))) 9,Ja 14 9 13,Jm 2 14]
def zMF : zI := ⟨15, [.slot 2],
  (Jz zUP [0] (Jz zTX [3] (Jz yBc [2] .ret)))⟩
def zUo : List zA := [
 Jc 4 (.int .i64 0)]
def zVI : List zA := [
 Jm 10 0,Jx 11 217 [.t 10],Jm 5 11]
def yFd : List zA := [
 Jm 12 1,Jx 13 217 [.t 12],Jm 6 13]
def yDc : List zA := [
 Jc 7 (.int .i64 1)]
def yCF : List zA := [
 Jm 14 7,Jm 15 5,Je 16 15,Kc 17 .leq 14 16,Jm 18 17,Ju 19 7 18,Ju 20 6 18,Jt 21 (.len false (.t 20)) 18,Jt 22 (.bin .leq (.t 19) (.t 21)) 18,Ja 23 18 22]
def zZA : List zA := [
 Jm 26 5,Jm 27 5,Je 28 27,Jm 29 7,Kc 30 .sub 28 29,Ji 31 1 26 30,Jl 32 31,Jm 8 32]
def zVf : List zA := [
 Jm 33 6,Jm 34 6,Je 35 34,Jm 36 7,Kc 37 .sub 35 36,Ji 38 1 33 37,Jl 39 38,Jm 9 39]
def yAl : List zA := [
 Jm 40 8,Jm 41 9,Kc 42 .lss 40 41]
def zTP : List zA := [
 Jc 4 (.int .i64 (-1))]
def zRU : List zA := [
 Jm 43 8,Jm 44 9,Kc 45 .gtr 43 44]
def zRO : List zA := [
 Jc 4 (.int .i64 1)]
def yEi : List zA := [
 Jm 24 7,Kb 25 .add 24 1,Jm 7 25]
def zPN : List zA := [
 Jm 46 5,Je 47 46,Jm 48 6,Je 49 48,Kc 50 .lss 47 49]
def zQA : List zA := [
 Jc 4 (.int .i64 (-1))]
def zRr : List zA := [
 Jm 51 5,Je 52 51,Jm 53 6,Je 54 53,Kc 55 .gtr 52 54]
def zPU : List zA := [
 Jc 4 (.int .i64 1)]
def zPV : List zA := [
 Jc 4 (.int .i64 0)]
def zMH : zI := ⟨56, [.slot 4],
  (Jz zUo [0,1] (Jz zVI [1,5] (Jz yFd [5,6] (.seq (Jz yDc [5,6,7] (.block 0 (.loop [5,6,7] (.seq (Jz yCF [5,6,7,23] (.cond (.t 23) .skip (.exit 0))) (.seq (.block 1 (Jz zZA [5,6,7,8] (Jz zVf [5,6,7,8,9] (.seq (Jz yAl [5,6,7,8,9,42] (.cond (.t 42) (Jz zTP [4] .ret) .skip)) (Jz zRU [5,6,7,45] (.cond (.t 45) (Jz zRO [4] .ret) .skip)))))) (.reg yEi [5,6,7])))))) (.seq (Jz zPN [5,6,50] (.cond (.t 50) (Jz zQA [4] .ret) .skip)) (.seq (Jz zRr [55] (.cond (.t 55) (Jz zPU [4] .ret) .skip)) (Jz zPV [4] .ret)))))))⟩
def yBa : List zA := [
 Jc 2 (.slice none 0 0)]
def yAV : List zA := [
 ⟨some 5,.mksl 1 1 [.string ⟨#[]⟩] [(0,1,.c (.string ⟨#[]⟩))],none⟩,Jm 3 5]
def zZu : List zA := [
 Jc 4 (.int .i64 0)]
def yAN : List zA := [
 Jm 6 4,Jm 7 0,Js 8 (.len true (.t 7)),Kc 9 .lss 6 8]
def yBd : List zA := [
 Jm 12 0,Jm 13 4,Js 14 (.idxs (.t 12) (.t 13)),Js 15 (.bin .eql (.t 14) (.c (.int .u8 46)))]
def yDo : List zA := [
 Jm 16 3,
 ⟨some 17,.mksl 1 1 [.string ⟨#[]⟩] [(0,1,.c (.string ⟨#[]⟩))],none⟩,
 ⟨some 18,.app 1 16 [.string ⟨#[]⟩] (.t 16) (.t 17),none⟩,Jm 3 18]
def yEx : List yU := [
 ⟨0,Jm 19 3,[]⟩,
 ⟨1,Jm 20 3,[]⟩,
 ⟨2,Je 21 20,[]⟩,
 ⟨3,Kb 22 .sub 21 1,[]⟩,
 ⟨4,Jm 23 3,[]⟩,
 ⟨5,Jm 24 3,[]⟩,
 ⟨6,Je 25 24,[]⟩,
 ⟨7,Kb 26 .sub 25 1,[]⟩,
 ⟨8,Ji 27 1 23 26,[]⟩,
 ⟨9,Jl 28 27,[]⟩,
 ⟨10,Jm 29 0,[]⟩,
 ⟨11,Jm 30 4,[]⟩,
 ⟨12,Jm 31 4,[]⟩,
 ⟨13,Kb 32 .add 31 1,[]⟩,
 ⟨14,Js 33 (.slcs (.t 29) (some (.t 30)) (some (.t 32))),[]⟩,
 ⟨15,Kc 34 .add 28 33,[]⟩,
 ⟨16,Ji 35 1 19 22,[]⟩,
 ⟨17,Jw 1 35 34,[]⟩]
def yBg : List zA := [
 Jm 10 4,Kb 11 .add 10 1,Jm 4 11]
def zYc : List zA := [
 Jm 36 3,Jm 2 36]
def zLU : zI := ⟨37, [.slot 2],
  (Jz yBa [0] (Jz yAV [0,3] (.seq (Jz zZu [0,3,4] (.block 0 (.loop [0,3,4] (.seq (Jz yAN [0,3,4,9] (.cond (.t 9) .skip (.exit 0))) (.seq (.block 1 (Jz yBd [0,3,4,15] (.cond (.t 15) (.reg yDo [0,3,4]) (.regd yEx [0,3,4])))) (.reg yBg [0,3,4])))))) (Jz zYc [2] .ret))))⟩
def zXM : List zA := [
 Jc 2 (.bool false)]
def zXR : List zA := [
 Jc 3 (.int .i64 0)]
def zTp : List zA := [
 Jm 6 3,Jm 7 0,Js 8 (.len true (.t 7)),Kc 9 .lss 6 8]
def zYD : List zA := [
 Jm 12 0,Jm 13 3,Js 14 (.idxs (.t 12) (.t 13)),Jm 4 14]
def yED : List zA := [
 Jm 15 4,Js 16 (.bin .eql (.t 15) (.c (.int .u8 45))),Jm 17 16,Ju 18 3 17,Jt 19 (.bin .gtr (.t 18) (.c (.int .i64 0))) 17,Ja 20 17 19,Jm 21 20,Ju 22 3 21,Ju 23 0 21,Jt 24 (.len true (.t 23)) 21,Jt 25 (.bin .sub (.t 24) (.c (.int .i64 1))) 21,Jt 26 (.bin .lss (.t 22) (.t 25)) 21,Ja 27 21 26,Jm 5 27]
def zUa : List zA := [
 Jm 28 5,Kn 29 28,Jm 30 29,Ju 31 4 30,Jt 32 (.bin .lss (.t 31) (.c (.int .u8 97))) 30,Ju 33 32 30,Jv 34 4 33,Jn 35 (.bin .gtr (.t 34) (.c (.int .u8 122))) 33,Jt 36 (.pick (.t 33) (.c (.bool true)) (.t 35)) 30,Ja 37 30 36,Jm 38 37,Ju 39 4 38,Jt 40 (.bin .lss (.t 39) (.c (.int .u8 48))) 38,Ju 41 40 38,Jv 42 4 41,Jn 43 (.bin .gtr (.t 42) (.c (.int .u8 57))) 41,Jt 44 (.pick (.t 41) (.c (.bool true)) (.t 43)) 38,Ja 45 38 44]
def zZG : List zA := [
 Jc 2 (.bool false)]
def zWb : List zA := [
 Jm 10 3,Kb 11 .add 10 1,Jm 3 11]
def zXz : List zA := [
 Jm 46 0,Js 47 (.len true (.t 46)),Kb 48 .geq 47 1,Jm 49 48,Ju 50 0 49,Jt 51 (.len true (.t 50)) 49,Jt 52 (.bin .leq (.t 51) (.c (.int .i64 12))) 49,Ja 53 49 52,Jm 2 53]
def zMn : zI := ⟨54, [.slot 2],
  (Jz zXM [0] (.seq (Jz zXR [0,3] (.block 0 (.loop [0,3] (.seq (Jz zTp [0,3,9] (.cond (.t 9) .skip (.exit 0))) (.seq (.block 1 (Jz zYD [0,3,4] (Jz yED [0,3,4,5] (Jz zUa [0,3,45] (.cond (.t 45) (Jz zZG [2] .ret) .skip))))) (.reg zWb [0,3])))))) (Jz zXz [2] .ret)))⟩
def zTi : List zA := [
 Jc 2 (.slice none 0 0)]
def yGe : List zA := [
 Jm 3 0,Js 4 (.bin .eql (.t 3) (.c (.string ⟨#[46]⟩)))]
def yEQ : List zA := [
 Jc 2 (.slice none 0 0)]
def yFy : List zA := [
 Jm 5 0,Jx 6 215 [.t 5],Jm 2 6]
def zLO : zI := ⟨7, [.slot 2],
  (Jz zTi [0] (.seq (Jz yGe [0,4] (.cond (.t 4) (Jz yEQ [2] .ret) .skip)) (Jz yFy [2] .ret)))⟩
def yBI : List zA := [
 Jc 4 (.bool false)]
def zUp : List zA := [
 Jm 8 0,Jx 9 217 [.t 8],Jm 5 9]
def zZQ : List zA := [
 Jm 10 1,Jx 11 217 [.t 10],Jm 6 11]
def zXS : List zA := [
 Jm 12 6,Je 13 12,Jm 14 5,Je 15 14,Kc 16 .gtr 13 15]
def yAf : List zA := [
 Jc 4 (.bool false)]
def zTz : List zA := [
 Jc 7 (.int .i64 0)]
def yFX : List zA := [
 Jm 17 7,Jm 18 6,Je 19 18,Kc 20 .lss 17 19]
def yEk : List yU := [
 ⟨0,Jm 23 5,[]⟩,
 ⟨1,Jm 24 5,[]⟩,
 ⟨2,Je 25 24,[]⟩,
 ⟨3,Jm 26 6,[]⟩,
 ⟨4,Je 27 26,[]⟩,
 ⟨5,Kc 28 .sub 25 27,[]⟩,
 ⟨6,Jm 29 7,[]⟩,
 ⟨7,Kc 30 .add 28 29,[]⟩,
 ⟨8,Ji 31 1 23 30,[]⟩,
 ⟨9,Jl 32 31,[]⟩,
 ⟨10,Jm 33 6,[]⟩,
 ⟨11,Jm 34 7,[]⟩,
 ⟨12,Ji 35 1 33 34,[]⟩,
 ⟨13,Jl 36 35,[]⟩,
 ⟨14,Kc 37 .neq 32 36,[]⟩]
def yFH : List zA := [
 Jc 4 (.bool false)]
def zXn : List zA := [
 Jm 21 7,Kb 22 .add 21 1,Jm 7 22]
def zPr : List zA := [
 Jc 4 (.bool true)]
def zMz : zI := ⟨38, [.slot 4],
  (Jz yBI [0,1] (Jz zUp [1,5] (Jz zZQ [5,6] (.seq (Jz zXS [5,6,16] (.cond (.t 16) (Jz yAf [4] .ret) .skip)) (.seq (Jz zTz [5,6,7] (.block 0 (.loop [5,6,7] (.seq (Jz yFX [5,6,7,20] (.cond (.t 20) .skip (.exit 0))) (.seq (.block 1 (.seq (.regd yEk [5,6,7,37]) (.cond (.t 37) (Jz yFH [4] .ret) .skip))) (.reg zXn [5,6,7])))))) (Jz zPr [4] .ret))))))⟩
def zTn : List zA := [
 Jc 4 (.int .i64 0),Jc 5 (.int .i64 0)]
def yEn : List zA := [
 Jm 8 0,Jp 9 198 [.t 8],Jm 6 9]
def zUq : List zA := [
 Jm 10 1,Jp 11 198 [.t 10],Jm 7 11]
def yDS : List zA := [
 Jm 12 6,Kn 13 12,Jm 14 13,Jv 15 7 14,Jn 16 (.not (.t 15)) 14,Jr 17 14 16]
def yBM : List zA := [
 Jc 4 (.int .i64 0),Jc 5 (.int .i64 11)]
def zVb : List zA := [
 Jm 18 0,Jm 19 1,Jp 20 196 [.t 18,.t 19],Jm 4 20,Jc 5 (.int .i64 0)]
def zLt : zI := ⟨21, [.slot 4, .slot 5],
  (Jz zTn [0,1] (Jz yEn [0,1,6] (Jz zUq [0,1,6,7] (.seq (Jz yDS [0,1,17] (.cond (.t 17) (Jz yBM [4,5] .ret) .skip)) (Jz zVb [4,5] .ret)))))⟩
def yCk : List zA := [
 Kx 1 0,Jc 2 (.bool false)]
def zTD : List zA := [
 Jf 5 3 1,Jl 6 5,Je 7 6,Jm 3 7]
def yFF : List zA := [
 Jf 8 0 1,Jl 9 8,Jp 10 198 [.t 9],Kn 11 10,Jm 12 11,Kg 13 1 1 12,Km 14 13 12,
 ⟨some 15,.callp 219 [.t 14,.c (.int .i64 1),.c (.int .i64 8)],(some (12,false))⟩,Jn 16 (.not (.t 15)) 12,Jr 17 12 16,Jm 18 17,Kg 19 2 1 18,Km 20 19 18,
 ⟨some 21,.callp 219 [.t 20,.c (.int .i64 0),.c (.int .i64 100000)],(some (18,false))⟩,Jn 22 (.not (.t 21)) 18,Jr 23 18 22,Jm 24 23,Jv 25 3 24,
 ⟨some 26,.callp 219 [.t 25,.c (.int .i64 1),.c (.int .i64 8)],(some (24,false))⟩,Jn 27 (.not (.t 26)) 24,Jr 28 24 27,Jm 29 28,Kg 30 1 1 29,Km 31 30 29,
 ⟨some 32,.callp 220 [.t 31],(some (29,false))⟩,Jv 33 32 29,Ju 34 3 33,Jt 35 (.bin .gtr (.t 34) (.c (.int .i64 1))) 33,Jn 36 (.pick (.t 33) (.t 35) (.c (.bool false))) 29,Jr 37 29 36]
def zWd : List zA := [
 Jc 2 (.bool false)]
def yFG : List zA := [
 Jf 38 0 1,Jl 39 38,Jp 40 221 [.t 39],Jm 41 40,Kf 42 1 1 41,Kl 43 42 41,Jt 44 (.bin .neq (.t 43) (.c (.int .i64 1))) 41,Ja 45 41 44,Jm 46 45,Kf 47 1 1 46,Kl 48 47 46,Jt 49 (.bin .neq (.t 48) (.c (.int .i64 5))) 46,Ja 50 46 49,Jm 51 50,Kf 52 1 1 51,Kl 53 52 51,Jt 54 (.bin .neq (.t 53) (.c (.int .i64 8))) 51,Ja 55 51 54]
def yAD : List zA := [
 Jc 2 (.bool false)]
def yFm : List zA := [
 Jc 4 (.int .i64 0)]
def zUC : List zA := [
 Jm 56 4,Jm 57 3,Kc 58 .lss 56 57]
def yBA : List yU := [
 ⟨0,Jf 61 1 1,[]⟩,
 ⟨1,Jl 62 61,[]⟩,
 ⟨2,Jf 63 3 1,[]⟩,
 ⟨3,Jl 64 63,[]⟩,
 ⟨4,Jm 65 4,[]⟩,
 ⟨5,Ji 66 3 64 65,[]⟩,
 ⟨6,Jk 67 3 66,[]⟩,
 ⟨7,Jp 68 222 [.t 62,.t 67],[]⟩,
 ⟨8,Kn 69 68,[]⟩,
 ⟨9,Jm 70 69,[]⟩,
 ⟨10,Jv 71 4 70,[]⟩,
 ⟨11,Jn 72 (.bin .gtr (.t 71) (.c (.int .i64 0))) 70,[]⟩,
 ⟨12,Jv 73 72 70,[]⟩,
 ⟨13,Kf 74 3 1 73,[]⟩,
 ⟨14,Kl 75 74 73,[]⟩,
 ⟨15,Ju 76 4 73,[]⟩,
 ⟨16,Jt 77 (.bin .sub (.t 76) (.c (.int .i64 1))) 73,[]⟩,
 ⟨17,Jt 78 (.idx 3 (.t 75) (.t 77)) 73,[]⟩,
 ⟨18,Jt 79 (.ld (some 3) (.t 78)) 73,[]⟩,
 ⟨19,Kf 80 3 1 73,[]⟩,
 ⟨20,Kl 81 80 73,[]⟩,
 ⟨21,Ju 82 4 73,[]⟩,
 ⟨22,Jt 83 (.idx 3 (.t 81) (.t 82)) 73,[]⟩,
 ⟨23,Jt 84 (.ld (some 3) (.t 83)) 73,[]⟩,
 ⟨24,⟨some 85,.callp 223 [.t 79,.t 84],(some (73,true))⟩,[]⟩,
 ⟨25,Jt 86 (.not (.t 85)) 73,[]⟩,
 ⟨26,Jn 87 (.pick (.t 73) (.t 86) (.c (.bool false))) 70,[]⟩,
 ⟨27,Jr 88 70 87,[]⟩]
def zNx : List zA := [
 Jc 2 (.bool false)]
def zWl : List zA := [
 Jm 59 4,Kb 60 .add 59 1,Jm 4 60]
def zQl : List zA := [
 Jc 2 (.bool true)]
def zMG : zI := ⟨89, [.slot 2],
  (Jz yCk [1] (Jz zTD [1,3] (.seq (Jz yFF [1,3,37] (.cond (.t 37) (Jz zWd [2] .ret) .skip)) (.seq (Jz yFG [1,3,55] (.cond (.t 55) (Jz yAD [2] .ret) .skip)) (.seq (Jz yFm [1,3,4] (.block 0 (.loop [1,3,4] (.seq (Jz zUC [1,3,4,58] (.cond (.t 58) .skip (.exit 0))) (.seq (.block 1 (.seq (.regd yBA [1,3,4,88]) (.cond (.t 88) (Jz zNx [2] .ret) .skip))) (.reg zWl [1,3,4])))))) (Jz zQl [2] .ret))))))⟩
def zYj : List zA := [
 Jc 6 (.bool false)]
def zXK : List zA := [
 Jm 7 0,Jm 8 1,Kc 9 .geq 7 8,Jm 10 9,Ju 11 0 10,Ju 12 2 10,Jt 13 (.bin .leq (.t 11) (.t 12)) 10,Ja 14 10 13,Jm 6 14]
def zMp : zI := ⟨15, [.slot 6],
  (Jz zYj [0,1,2] (Jz zXK [6] .ret))⟩
def zYK : List zA := [
 Jc 2 (.bool false)]
def zZf : List zA := [
 Jm 3 0,Kb 4 .eql 3 3,Jm 5 4,Jv 6 0 5,Jn 7 (.bin .eql (.t 6) (.c (.int .i64 4))) 5,Jr 8 5 7,Jm 2 8]
def zLu : zI := ⟨9, [.slot 2],
  (Jz zYK [0] (Jz zZf [2] .ret))⟩
def zSZ : List zA := [
 Jc 2 (.bool false)]
def yDP : List zA := [
 Jm 3 0,Js 4 (.len true (.t 3)),Kb 5 .gtr 4 0,Jm 6 5,Ju 7 0 6,Jt 8 (.idxs (.t 7) (.c (.int .i64 0))) 6,Jt 9 (.bin .eql (.t 8) (.c (.int .u8 42))) 6,Ja 10 6 9,Jm 2 10]
def zMf : zI := ⟨11, [.slot 2],
  (Jz zSZ [0] (Jz yDP [2] .ret))⟩
def yAA : List zA := [
 Kx 3 1,Jc 4 (.bool false)]
def yAW : List zA := [
 Jm 5 0]
def yAw : List zA := [
 Kb 7 .eql 5 1,Jm 6 7]
def zVu : List zA := [
 Jf 8 0 3,Jl 9 8,Js 10 (.bin .eql (.t 9) (.c (.string ⟨#[]⟩))),Jm 11 10,Kf 12 1 3 11,Kl 13 12 11,
 ⟨some 14,.callp 219 [.t 13,.c (.int .i64 1),.c (.int .i64 1000000)],(some (11,true))⟩,Ja 15 11 14,Jm 16 15,Kf 17 2 3 16,Kl 18 17 16,Jt 19 (.bin .eql (.t 18) (.c (.int .i64 0))) 16,Ja 20 16 19,Jm 4 20]
def yDs : List zA := [
 Kb 22 .eql 5 2,Jm 21 22]
def zZS : List zA := [
 Kb 23 .eql 5 3,Jm 21 23]
def yER : List zA := [
 Jf 24 0 3,Jl 25 24,Jp 26 198 [.t 25],Jm 27 26,Kf 28 0 3 27,Kl 29 28 27,
 ⟨some 30,.callp 221 [.t 29],(some (27,true))⟩,Jt 31 (.not (.t 30)) 27,Ja 32 27 31,Jm 33 32,Kf 34 1 3 33,Kl 35 34 33,Jt 36 (.bin .eql (.t 35) (.c (.int .i64 0))) 33,Ja 37 33 36,Jm 38 37,Kf 39 2 3 38,Kl 40 39 38,Jt 41 (.bin .eql (.t 40) (.c (.int .i64 0))) 38,Ja 42 38 41,Jm 4 42]
def zWO : List zA := [
 Kb 44 .eql 5 4,Jm 43 44]
def yDw : List zA := [
 Jf 45 0 3,Jl 46 45,Js 47 (.bin .eql (.t 46) (.c (.string ⟨#[]⟩))),Jm 48 47,Kf 49 1 3 48,Kl 50 49 48,
 ⟨some 51,.callp 219 [.t 50,.c (.int .i64 0),.c (.int .i64 65535)],(some (48,true))⟩,Ja 52 48 51,Jm 53 52,Kf 54 2 3 53,Kl 55 54 53,
 ⟨some 56,.callp 219 [.t 55,.c (.int .i64 0),.c (.int .i64 100000)],(some (53,true))⟩,Ja 57 53 56,Jm 4 57]
def zZL : List zA := [
 Kb 59 .eql 5 5,Jm 58 59]
def zOB : List zA := [
 Jf 60 0 3,Jl 61 60,Jp 62 224 [.t 61],Jm 63 62,Kf 64 1 3 63,Kl 65 64 63,Jt 66 (.bin .eql (.t 65) (.c (.int .i64 0))) 63,Ja 67 63 66,Jm 68 67,Kf 69 2 3 68,Kl 70 69 68,Jt 71 (.bin .eql (.t 70) (.c (.int .i64 0))) 68,Ja 72 68 71,Jm 4 72]
def zPY : List zA := [
 Kb 74 .eql 5 6,Jm 73 74]
def zNV : List zA := [
 Kb 75 .eql 5 7,Jm 73 75]
def zQH : List zA := [
 Jf 76 0 3,Jl 77 76,Js 78 (.bin .eql (.t 77) (.c (.string ⟨#[]⟩))),Jm 79 78,Kf 80 1 3 79,Kl 81 80 79,
 ⟨some 82,.callp 219 [.t 81,.c (.int .i64 1),.c (.int .i64 1000000)],(some (79,true))⟩,Ja 83 79 82,Jm 84 83,Kf 85 2 3 84,Kl 86 85 84,
 ⟨some 87,.callp 219 [.t 86,.c (.int .i64 1),.c (.int .i64 3)],(some (84,true))⟩,Ja 88 84 87,Jm 4 88]
def zPc : List zA := [
 Kb 90 .eql 5 8,Jm 89 90]
def zQx : List zA := [
 Jf 91 0 3,Jl 92 91,Jp 93 198 [.t 92],Jm 94 93,Kf 95 1 3 94,Kl 96 95 94,
 ⟨some 97,.callp 219 [.t 96,.c (.int .i64 2),.c (.int .i64 510)],(some (94,true))⟩,Ja 98 94 97,Jm 99 98,Kf 100 1 3 99,Kl 101 100 99,Jt 102 (.bin .rem (.t 101) (.c (.int .i64 2))) 99,Jt 103 (.bin .eql (.t 102) (.c (.int .i64 0))) 99,Ja 104 99 103,Jm 105 104,Kf 106 2 3 105,Kl 107 106 105,Jt 108 (.bin .eql (.t 107) (.c (.int .i64 0))) 105,Ja 109 105 108,Jm 4 109]
def zQu : List zA := [
 Jc 4 (.bool false)]
def zMa : zI := ⟨110, [.slot 4],
  (Jz yAA [0,3] (.seq (Jz yAW [3,5] (.block 0 (Jz yAw [3,5,6] (.cond (.t 6) (Jz zVu [4] .ret) (.seq (Jz yDs [3,5,21] (.cond (.t 21) .skip (.reg zZS [3,5,21]))) (.cond (.t 21) (Jz yER [4] .ret) (Jz zWO [3,5,43] (.cond (.t 43) (Jz yDw [4] .ret) (Jz zZL [3,5,58] (.cond (.t 58) (Jz zOB [4] .ret) (.seq (Jz zPY [3,5,73] (.cond (.t 73) .skip (.reg zNV [3,5,73]))) (.cond (.t 73) (Jz zQH [4] .ret) (Jz zPc [3,89] (.cond (.t 89) (Jz zQx [4] .ret) .skip)))))))))))))) (Jz zQu [4] .ret)))⟩
def yCV : List zA := [
 Kx 2 0,Kx 3 1,Jc 4 (.bool false)]
def zUW : List zA := [
 Jf 5 0 2,Jl 6 5,Jf 7 0 3,Jl 8 7,Kc 9 .neq 6 8]
def yFj : List zA := [
 Jf 10 0 2,Jl 11 10,Jf 12 0 3,Jl 13 12,Kc 14 .lss 11 13,Jm 4 14]
def yEd : List zA := [
 Jf 15 1 2,Jl 16 15,Jf 17 1 3,Jl 18 17,Kc 19 .neq 16 18]
def yBJ : List zA := [
 Jf 20 1 2,Jl 21 20,Jf 22 1 3,Jl 23 22,Kc 24 .lss 21 23,Jm 4 24]
def zWY : List zA := [
 Jf 25 2 2,Jl 26 25,Jf 27 2 3,Jl 28 27,Kc 29 .lss 26 28,Jm 4 29]
def zMK : zI := ⟨30, [.slot 4],
  (Jz yCV [2,3] (.seq (Jz zUW [2,3,9] (.cond (.t 9) (Jz yFj [4] .ret) .skip)) (.seq (Jz yEd [2,3,19] (.cond (.t 19) (Jz yBJ [4] .ret) .skip)) (Jz zWY [4] .ret))))⟩
def yFz : List zA := [
 Kx 2 0,Kx 3 1,Jc 4 (.int .i64 0)]
def zUI : List zA := [
 Jf 8 0 2,Jl 9 8,Jf 10 0 3,Jl 11 10,Jp 12 218 [.t 9,.t 11],Jm 7 12,Ke 13 0 7,Ke 14 1 7,Jm 5 13,Jm 6 14]
def yAJ : List zA := [
 Jm 15 5,Kb 16 .neq 15 0]
def zYt : List zA := [
 Jm 17 5,Jm 4 17]
def zXY : List zA := [
 Jf 18 1 2,Jl 19 18,Jf 20 1 3,Jl 21 20,Kc 22 .lss 19 21]
def yAF : List zA := [
 Jc 4 (.int .i64 (-1))]
def yBm : List zA := [
 Jf 23 1 2,Jl 24 23,Jf 25 1 3,Jl 26 25,Kc 27 .gtr 24 26]
def zUr : List zA := [
 Jc 4 (.int .i64 1)]
def yGv : List zA := [
 Jc 4 (.int .i64 0)]
def zNj : zI := ⟨28, [.slot 4],
  (Jz yFz [2,3] (Jz zUI [2,3,5] (.seq (Jz yAJ [2,3,5,16] (.cond (.t 16) (Jz zYt [4] .ret) .skip)) (.seq (Jz zXY [2,3,22] (.cond (.t 22) (Jz yAF [4] .ret) .skip)) (.seq (Jz yBm [27] (.cond (.t 27) (Jz zUr [4] .ret) .skip)) (Jz yGv [4] .ret))))))⟩
def zTm : List zA := [
 Jc 2 (.bool false)]
def zXQ : List zA := [
 Jm 6 0,Js 7 (.len true (.t 6)),Jm 3 7]
def yDv : List zA := [
 Jm 8 3,Kb 9 .lss 8 1,Jm 10 9,Jv 11 3 10,Jn 12 (.bin .gtr (.t 11) (.c (.int .i64 40))) 10,Jr 13 10 12,Jm 14 13,Jv 15 0 14,Jn 16 (.idxs (.t 15) (.c (.int .i64 0))) 14,Jn 17 (.bin .eql (.t 16) (.c (.int .u8 32))) 14,Jr 18 14 17,Jm 19 18,Jv 20 0 19,Jv 21 3 19,Jn 22 (.bin .sub (.t 21) (.c (.int .i64 1))) 19,Jn 23 (.idxs (.t 20) (.t 22)) 19,Jn 24 (.bin .eql (.t 23) (.c (.int .u8 32))) 19,Jr 25 19 24]
def zYq : List zA := [
 Jc 2 (.bool false)]
def zVR : List zA := [
 Jc 4 (.int .i64 0)]
def yCR : List zA := [
 Jm 26 4,Jm 27 3,Kc 28 .lss 26 27]
def yDH : List zA := [
 Jm 31 0,Jm 32 4,Js 33 (.idxs (.t 31) (.t 32)),Jm 5 33]
def yEa : List zA := [
 Jm 34 5,Js 35 (.bin .lss (.t 34) (.c (.int .u8 97))),Jm 36 35,Jv 37 5 36,Jn 38 (.bin .gtr (.t 37) (.c (.int .u8 122))) 36,Jr 39 36 38,Jm 40 39,Ju 41 5 40,Jt 42 (.bin .lss (.t 41) (.c (.int .u8 48))) 40,Ju 43 42 40,Jv 44 5 43,Jn 45 (.bin .gtr (.t 44) (.c (.int .u8 57))) 43,Jt 46 (.pick (.t 43) (.c (.bool true)) (.t 45)) 40,Ja 47 40 46,Jm 48 47,Ju 49 5 48,Jt 50 (.bin .neq (.t 49) (.c (.int .u8 32))) 48,Ja 51 48 50]
def yFS : List zA := [
 Jc 2 (.bool false)]
def yAp : List zA := [
 Jm 29 4,Kb 30 .add 29 1,Jm 4 30]
def zQG : List zA := [
 Jc 2 (.bool true)]
def zLV : zI := ⟨52, [.slot 2],
  (Jz zTm [0] (Jz zXQ [0,3] (.seq (Jz yDv [0,3,25] (.cond (.t 25) (Jz zYq [2] .ret) .skip)) (.seq (Jz zVR [0,3,4] (.block 0 (.loop [0,3,4] (.seq (Jz yCR [0,3,4,28] (.cond (.t 28) .skip (.exit 0))) (.seq (.block 1 (Jz yDH [0,3,4,5] (Jz yEa [0,3,4,51] (.cond (.t 51) (Jz yFS [2] .ret) .skip)))) (.reg yAp [0,3,4])))))) (Jz zQG [2] .ret)))))⟩
end Go.SL

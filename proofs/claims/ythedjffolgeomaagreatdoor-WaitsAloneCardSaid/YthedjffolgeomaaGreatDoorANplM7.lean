import Derived.Test.YthedjffolgeomaaGreatDoorANplL
namespace Go.SL
open Go
def yET : List zA := [
 Kx 4 0,Jc 8 (.bool false)]
def zTx : List zA := [
 Jx 27 183 [],Jm 9 27]
def zTT : List zA := [
 Jk 28 9 4,Jp 29 184 [.t 28],Kn 30 29,Jm 31 30,Jn 32 (.ld (some 9) (.t 4)) 31,
 ⟨some 33,.callp 185 [.t 32],(some (31,false))⟩,Jn 34 (.not (.t 33)) 31,Jr 35 31 34,Jm 36 35,Jv 37 1 36,Jn 38 (.len true (.t 37)) 36,Jn 39 (.bin .gtr (.t 38) (.c (.int .i64 200))) 36,Jr 40 36 39]
def zWQ : List zA := [
 Jm 41 9,Jm 8 41]
def yGu : List zA := [
 Jk 43 9 4,Jm 44 1,Jm 45 2,Jx 46 186 [.t 43,.t 44,.t 45],Jm 42 46,Ke 47 0 42,Ke 48 1 42,Jm 10 47,Jm 11 48]
def yEj : List zA := [
 Jk 50 9 4,Jx 51 139 [.t 50],Jm 49 51,Ke 52 0 49,Ke 53 1 49,Jm 12 52,Jm 13 53]
def zZm : List zA := [
 Jm 54 11,Kb 55 .neq 54 0,Jm 56 55,Jv 57 13 56,Jn 58 (.bin .neq (.t 57) (.c (.int .i64 0))) 56,Jr 59 56 58]
def zWV : List zA := [
 Jm 60 9,Jm 61 60,Ju 62 13 61,Jt 63 (.bin .eql (.t 62) (.c (.int .i64 0))) 61,Ja 64 61 63,Jm 8 64]
def zVv : List zA := [
 Jm 65 12,Je 66 65,Jc 67 (.int .i64 0)]
def zVp : List zA := [
 Kc 68 .lss 67 66]
def zOI : List zA := [
 Ji 69 8 65 67,Jk 70 8 69,Js 15 (.new [.string ⟨#[]⟩,.string ⟨#[]⟩,.int .i64 0,.int .i64 0,.slice none 0 0,.slice none 0 0,.slice none 0 0,.slice none 0 0]),Jw 8 15 70]
def zRB : List zA := [
 Jc 16 (.int .i64 0)]
def zQq : List zA := [
 Jf 71 6 15,Jl 72 71,Je 73 72,Jc 74 (.int .i64 0)]
def zRH : List zA := [
 Kc 75 .lss 74 73]
def zQn : List zA := [
 Ji 76 2 72 74,Jk 77 2 76,Js 18 (.new [.int .i64 0,.int .i64 0]),Jw 2 18 77]
def zPF : List zA := [
 Jm 78 16,Jf 79 1 18,Jl 80 79,Js 81 (.mm true (.t 78) (.t 80)),Jm 16 81]
def zPW : List zA := [
 Kb 82 .add 74 1,Jm 74 82]
def zPM : List zA := [
 Jc 19 (.bool false)]
def zRy : List zA := [
 Jm 83 12,Je 84 83,Jc 85 (.int .i64 0)]
def zPx : List zA := [
 Kc 86 .lss 85 84]
def zQj : List zA := [
 Ji 87 8 83 85,Jk 88 8 87,Js 21 (.new [.string ⟨#[]⟩,.string ⟨#[]⟩,.int .i64 0,.int .i64 0,.slice none 0 0,.slice none 0 0,.slice none 0 0,.slice none 0 0]),Jw 8 21 88]
def zNW : List zA := [
 Jm 89 19,Jm 90 89,Kg 91 0 21 90,Km 92 91 90,Kg 93 0 15 90,Km 94 93 90,Jn 95 (.bin .neq (.t 92) (.t 94)) 90,Jv 96 95 90,Kf 97 1 15 96,Jt 98 (.ld (some 5) (.t 97)) 96,Kf 99 1 21 96,Jt 100 (.ld (some 5) (.t 99)) 96,
 ⟨some 101,.callp 47 [.t 98,.t 100],(some (96,true))⟩,Jn 102 (.pick (.t 96) (.t 101) (.c (.bool false))) 90,Jr 103 90 102,Jm 19 103]
def zQV : List zA := [
 Kb 104 .add 85 1,Jm 85 104]
def zOG : List zA := [
 Jf 105 0 15,Jl 106 105,Jm 107 1,Kc 108 .neq 106 107,Jm 109 108,Jv 110 16 109,Jv 111 2 109,Jn 112 (.bin .gtr (.t 110) (.t 111)) 109,Jr 113 109 112,Jm 114 113,Jv 115 19 114,Jr 116 114 115]
def zRs : List zA := [
 Jf 117 1 15,Jf 118 0 117,Jf 119 0 118,Jl 120 119,Jf 121 1 15,Jf 122 0 121,Jf 123 1 122,Jl 124 123,Js 125 (.bld [.string ⟨#[]⟩,.int .i64 0] [(0,1,.t 120),(1,1,.t 124)]),Js 22 (.new [.string ⟨#[]⟩,.int .i64 0]),Jw 2 22 125]
def zPw : List zA := [
 Jk 127 9 4,Jk 128 2 22,Jm 129 2,Jm 130 10,Kc 131 .add 129 130,Jm 132 3,Js 133 (.cvi .i64 (.t 132)),Kc 134 .add 131 133,Jx 135 226 [.t 127,.t 128,.t 134],Jm 126 135,Ke 136 0 126,Ke 137 1 126,Jm 23 136,Jm 24 137]
def zPa : List zA := [
 Jm 138 24,Kb 139 .neq 138 0]
def zNK : List zA := [
 Jc 8 (.bool false)]
def zOn : List zA := [
 Jm 140 23,Je 141 140,Jc 142 (.int .i64 0)]
def zRA : List zA := [
 Kc 143 .lss 142 141]
def zPq : List zA := [
 Ji 144 5 140 142,Jk 145 5 144,Js 26 (.new [.string ⟨#[]⟩,.int .i64 0,.int .i64 0,.slice none 0 0,.slice none 0 0]),Jw 5 26 145]
def zPt : List zA := [
 Jk 146 5 26,Jf 147 1 15,Jk 148 5 147,Jp 149 47 [.t 146,.t 148]]
def zPj : List zA := [
 Jc 8 (.bool false)]
def zPp : List zA := [
 Kb 150 .add 142 1,Jm 142 150]
def zPm : List zA := [
 Kb 151 .add 67 1,Jm 67 151]
def zNN : List zA := [
 Jm 152 9,Jm 8 152]
def zMk : zI := ⟨153, [.slot 8],
  (Jz yET [1,2,3,4] (Jz zTx [1,2,3,4,9] (.seq (Jz zTT [1,2,3,4,9,40] (.cond (.t 40) (Jz zWQ [8] .ret) .skip)) (Jz yGu [1,2,3,4,9,10,11] (Jz yEj [1,2,3,4,9,10,11,12,13] (.seq (Jz zZm [1,2,3,4,9,10,12,13,59] (.cond (.t 59) (Jz zWV [8] .ret) .skip)) (.seq (Jz zVv [1,2,3,4,9,10,12,65,66,67] (.block 0 (.loop [1,2,3,4,9,10,12,65,66,67] (Jz zVp [1,2,3,4,9,10,12,65,66,67,68] (.seq (.cond (.t 68) .skip (.exit 0)) (.seq (.block 1 (Jz zOI [1,2,3,4,9,10,12,15,65,66,67] (Jz zRB [1,2,3,4,9,10,12,15,16,65,66,67] (.seq (Jz zQq [1,2,3,4,9,10,12,15,16,65,66,67,72,73,74] (.block 2 (.loop [1,2,3,4,9,10,12,15,16,65,66,67,72,73,74] (Jz zRH [1,2,3,4,9,10,12,15,16,65,66,67,72,73,74,75] (.seq (.cond (.t 75) .skip (.exit 2)) (.seq (.block 3 (Jz zQn [1,2,3,4,9,10,12,15,16,18,65,66,67,72,73,74] (.reg zPF [1,2,3,4,9,10,12,15,16,65,66,67,72,73,74]))) (.reg zPW [1,2,3,4,9,10,12,15,16,65,66,67,72,73,74]))))))) (Jz zPM [1,2,3,4,9,10,12,15,16,19,65,66,67] (.seq (Jz zRy [1,2,3,4,9,10,12,15,16,19,65,66,67,83,84,85] (.block 4 (.loop [1,2,3,4,9,10,12,15,16,19,65,66,67,83,84,85] (Jz zPx [1,2,3,4,9,10,12,15,16,19,65,66,67,83,84,85,86] (.seq (.cond (.t 86) .skip (.exit 4)) (.seq (.block 5 (Jz zQj [1,2,3,4,9,10,12,15,16,19,21,65,66,67,83,84,85] (.reg zNW [1,2,3,4,9,10,12,15,16,19,65,66,67,83,84,85]))) (.reg zQV [1,2,3,4,9,10,12,15,16,19,65,66,67,83,84,85]))))))) (.seq (Jz zOG [1,2,3,4,9,10,12,15,65,66,67,116] (.cond (.t 116) (.exit 1) .skip)) (Jz zRs [1,2,3,4,9,10,12,15,22,65,66,67] (Jz zPw [1,2,3,4,9,10,12,15,23,24,65,66,67] (.seq (Jz zPa [1,2,3,4,9,10,12,15,23,65,66,67,139] (.cond (.t 139) (Jz zNK [8] .ret) .skip)) (Jz zOn [1,2,3,4,9,10,12,15,65,66,67,140,141,142] (.block 6 (.loop [1,2,3,4,9,10,12,15,65,66,67,140,141,142] (Jz zRA [1,2,3,4,9,10,12,15,65,66,67,140,141,142,143] (.seq (.cond (.t 143) .skip (.exit 6)) (.seq (.block 7 (Jz zPq [1,2,3,4,9,10,12,15,26,65,66,67,140,141,142] (Jz zPt [1,2,3,4,9,10,12,15,65,66,67,140,141,142,149] (.cond (.t 149) (Jz zPj [8] .ret) .skip)))) (.reg zPp [1,2,3,4,9,10,12,15,65,66,67,140,141,142]))))))))))))))))) (.reg zPm [1,2,3,4,9,10,12,65,66,67]))))))) (Jz zNN [8] .ret))))))))⟩
def yEM : List zA := [
 Kx 3 0,
 ⟨some 4,.boxH (.t 1),none⟩,Jc 6 (.slice none 0 0),Jc 7 (.int .i64 0)]
def yFp : List zA := [
 Jk 14 9 3,Jp 15 48 [.t 14],Kn 16 15,Jm 17 16,Jn 18 (.ld (some 2) (.t 4)) 17,
 ⟨some 19,.callp 228 [.t 18],(some (17,false))⟩,Jn 20 (.not (.t 19)) 17,Jr 21 17 20,Jm 22 21,Jv 23 2 22,Jn 24 (.bin .lss (.t 23) (.c (.int .i64 0))) 22,Jr 25 22 24,Jm 26 25,Jv 27 2 26,Jn 28 (.bin .gtr (.t 27) (.c (.int .i64 20000000))) 26,Jr 29 26 28]
def zTk : List zA := [
 Jc 6 (.slice none 0 0),Jc 7 (.int .i64 1)]
def yAH : List zA := [
 Jk 31 9 3,Jx 32 139 [.t 31],Jm 30 32,Ke 33 0 30,Ke 34 1 30,Jm 8 33,Jm 9 34]
def zVh : List zA := [
 Jm 35 9,Kb 36 .neq 35 0]
def zUJ : List zA := [
 Jm 37 9,Jc 6 (.slice none 0 0),Jm 7 37]
def zTy : List zA := [
 ⟨some 38,.mkmap none,none⟩,
 ⟨some 10,.newH [.map none],none⟩,Jw 1 10 38]
def yFl : List zA := [
 ⟨some 11,.newH [.slice none 0 0],none⟩]
def yAk : List zA := [
 Jm 39 8,Jm 40 2,Jx 41 229 [.t 39,.t 40]]
def zVz : List zA := [
 Js 12 (.new [.string ⟨#[]⟩,.string ⟨#[]⟩,.int .i64 0,.int .i64 0,.slice none 0 0,.slice none 0 0,.slice none 0 0,.slice none 0 0]),Jw 8 12 42]
def zQe : List zA := [
 Jf 43 1 12,Jf 44 0 43,Jf 45 0 44,Jl 46 45,Jf 47 0 4,Jl 48 47,Kc 49 .neq 46 48,Jm 50 49,Kg 51 1 12 50,Kg 52 0 51 50,Kg 53 1 52 50,Km 54 53 50,Kg 55 1 4 50,Km 56 55 50,Jn 57 (.bin .neq (.t 54) (.t 56)) 50,Jr 58 50 57]
def zSi : List zA := [
 Jf 59 1 12,Jk 60 5 59,Jx 61 230 [.t 60],Jm 13 61]
def zPs : List zA := [
 Jl 62 10,Jm 63 13,
 ⟨some 64,.look false [.s] (.bool false) false (.t 62) (.t 63),none⟩,Kn 65 64]
def zOA : List zA := [
 Jl 66 10,Jm 67 13,
 ⟨none,.upd false [.s] (.t 66) (.t 67) (.c (.bool true)),none⟩]
def zQi : List zA := [
 Jl 68 11,Jf 69 1 12,Jk 70 5 69,
 ⟨some 71,.mksl 5 1 [.string ⟨#[]⟩,.int .i64 0,.int .i64 0,.slice none 0 0,.slice none 0 0] [(0,5,.t 70)],none⟩,
 ⟨some 72,.app 5 80 [.string ⟨#[]⟩,.int .i64 0,.int .i64 0,.slice none 0 0,.slice none 0 0] (.t 68) (.t 71),none⟩,Jw 1 11 72]
def zOO : List zA := [
 Jl 73 11,Jm 6 73,Jc 7 (.int .i64 0)]
def zMR : zI := ⟨74, [.slot 6, .slot 7],
  (Jz yEM [2,3,4,6,7] (.seq (Jz yFp [2,3,4,6,7,29] (.cond (.t 29) (Jz zTk [6,7] .ret) .skip)) (Jz yAH [2,4,6,7,8,9] (.seq (Jz zVh [2,4,6,7,8,9,36] (.cond (.t 36) (Jz zUJ [6,7] .ret) .skip)) (Jz zTy [2,4,6,7,8,10] (Jz yFl [2,4,6,7,8,10,11] (.seq (Jz yAk [4,6,7,10,11,41] (.block 0 (.rangeF (.t 41) [42] (.reg zVz [4,10,11,12]) (.block 1 (.seq (Jz zQe [10,11,12,58] (.cond (.t 58) (.exit 1) .skip)) (Jz zSi [10,11,12,13] (Jz zPs [10,11,12,13,65] (.cond (.t 65) (Jz zOA [11,12] (.reg zQi [])) .skip)))))))) (Jz zOO [6,7] .ret))))))))⟩
def zWP : List zA := [
 ⟨some 2,.boxH (.t 0),none⟩,
 ⟨some 3,.boxH (.t 1),none⟩,Jc 4 (.nilFunc)]
def zVE : List zA := [
 Js 5 (.mkf 231 [] [.t 2,.t 3]),Jm 4 5]
def zLI : zI := ⟨6, [.slot 4],
  (Jz zWP [2,3] (Jz zVE [4] .ret))⟩
def zWn : List zA := [
 Jl 6 1,Je 7 6,Jc 8 (.int .i64 0)]
def yBT : List zA := [
 Kc 9 .lss 8 7]
def yEz : List zA := [
 Ji 10 8 6 8,Jk 11 8 10,Js 5 (.new [.string ⟨#[]⟩,.string ⟨#[]⟩,.int .i64 0,.int .i64 0,.slice none 0 0,.slice none 0 0,.slice none 0 0,.slice none 0 0]),Jw 8 5 11]
def zVD : List zA := [
 Jf 12 7 5,Jl 13 12,Jl 14 2,Jp 15 232 [.t 13,.t 14],Jm 16 15,Ju 17 0 16,Jt 18 (.ld (some 8) (.t 5)) 16,
 ⟨some 19,.callv (.t 17) [.t 18],(some (16,true))⟩,Jt 20 (.not (.t 19)) 16,Ja 21 16 20]
def yDJ : List zA := [
 Kb 22 .add 8 1,Jm 8 22]
def zNa : zI := ⟨23, [],
  (Jz zWn [0,2,6,7,8] (.block 0 (.loop [0,2,6,7,8] (Jz yBT [0,2,6,7,8,9] (.seq (.cond (.t 9) .skip (.exit 0)) (.seq (.block 1 (Jz yEz [0,2,5,6,7,8] (Jz zVD [0,2,6,7,8,21] (.cond (.t 21) .ret .skip)))) (.reg yDJ [0,2,6,7,8])))))))⟩
def zYv : List zA := [
 Kx 1 0,Jc 2 (.string ⟨#[]⟩)]
def yAE : List zA := [
 ⟨some 3,.newT 181 [.pointer none,.slice none 0 0],none⟩]
def yAT : List zA := [
 Js 10 (.mkf 233 [] [.t 3]),
 ⟨some 4,.newH [.nilFunc],none⟩,Jw 1 4 10]
def zZg : List zA := [
 Js 11 (.mkf 234 [] [.t 4]),Jm 5 11]
def zTj : List zA := [
 Jl 12 4,Jf 13 0 1,Jf 14 0 13,Jl 15 14,
 ⟨some 16,.callv (.t 12) [.t 15],none⟩]
def zVq : List zA := [
 Jm 17 5,Jf 18 0 1,Jf 19 1 18,Jl 20 19,
 ⟨some 21,.callv (.t 17) [.t 20],none⟩]
def zXN : List zA := [
 Jm 22 5,Jf 23 0 1,Jf 24 2 23,Jl 25 24,
 ⟨some 26,.callv (.t 22) [.t 25],none⟩]
def zZV : List zA := [
 Jm 27 5,Jf 28 0 1,Jf 29 3 28,Jl 30 29,Je 31 30,
 ⟨some 32,.callv (.t 27) [.t 31],none⟩]
def yAm : List zA := [
 Jf 33 0 1,Jf 34 3 33,Jl 35 34,Je 36 35,Jc 37 (.int .i64 0)]
def zYU : List zA := [
 Kc 38 .lss 37 36]
def zRG : List zA := [
 Ji 39 3 35 37,Jk 40 3 39,Js 7 (.new [.string ⟨#[]⟩,.int .i64 0,.int .i64 0]),Jw 3 7 40]
def zPh : List zA := [
 Jl 41 4,Jf 42 0 7,Jl 43 42,
 ⟨some 44,.callv (.t 41) [.t 43],none⟩]
def zPu : List zA := [
 Jm 45 5,Jf 46 1 7,Jl 47 46,
 ⟨some 48,.callv (.t 45) [.t 47],none⟩]
def zPz : List zA := [
 Jm 49 5,Jf 50 2 7,Jl 51 50,
 ⟨some 52,.callv (.t 49) [.t 51],none⟩]
def zNO : List zA := [
 Kb 53 .add 37 1,Jm 37 53]
def zOr : List zA := [
 Jf 54 4 1,Jl 55 54,Je 56 55,Jc 57 (.int .i64 0)]
def zPy : List zA := [
 Kc 58 .lss 57 56]
def zOR : List zA := [
 Ji 59 6 55 57,Jk 60 6 59,Js 9 (.new [.string ⟨#[]⟩,.int .i64 0,.int .i64 0,.int .i64 0,.int .i64 0,.int .u64 0]),Jw 6 9 60]
def zNy : List zA := [
 Jl 61 4,Jf 62 0 9,Jl 63 62,
 ⟨some 64,.callv (.t 61) [.t 63],none⟩]
def zOF : List zA := [
 Jm 65 5,Jf 66 1 9,Jl 67 66,
 ⟨some 68,.callv (.t 65) [.t 67],none⟩]
def zRi : List zA := [
 Jm 69 5,Jf 70 2 9,Jl 71 70,
 ⟨some 72,.callv (.t 69) [.t 71],none⟩]
def zOj : List zA := [
 Jm 73 5,Jf 74 3 9,Jl 75 74,
 ⟨some 76,.callv (.t 73) [.t 75],none⟩]
def zOd : List zA := [
 Jm 77 5,Jf 78 4 9,Jl 79 78,
 ⟨some 80,.callv (.t 77) [.t 79],none⟩]
def zPT : List yU := [
 ⟨0,Jl 81 4,[]⟩,
 ⟨1,Jf 82 5 9,[]⟩,
 ⟨2,Jl 83 82,[]⟩,
 ⟨3,Jx 84 133 [.t 83,.c (.int .i64 10)],[0]⟩,
 ⟨4,⟨some 85,.callv (.t 81) [.t 84],none⟩,[]⟩]
def zQy : List zA := [
 Kb 86 .add 57 1,Jm 57 86]
def zNL : List zA := [
 Jx 87 134 [.t 3],Jm 2 87]
def zMm : zI := ⟨88, [.slot 2],
  (Jz zYv [1] (Jz yAE [1,3] (Jz yAT [1,3,4] (Jz zZg [1,3,4,5] (Jz zTj [1,3,4,5] (Jz zVq [1,3,4,5] (Jz zXN [1,3,4,5] (Jz zZV [1,3,4,5] (.seq (Jz yAm [1,3,4,5,35,36,37] (.block 0 (.loop [1,3,4,5,35,36,37] (Jz zYU [1,3,4,5,35,36,37,38] (.seq (.cond (.t 38) .skip (.exit 0)) (.seq (.block 1 (Jz zRG [1,3,4,5,7,35,36,37] (Jz zPh [1,3,4,5,7,35,36,37] (Jz zPu [1,3,4,5,7,35,36,37] (.reg zPz [1,3,4,5,35,36,37]))))) (.reg zNO [1,3,4,5,35,36,37]))))))) (.seq (Jz zOr [3,4,5,55,56,57] (.block 2 (.loop [3,4,5,55,56,57] (Jz zPy [3,4,5,55,56,57,58] (.seq (.cond (.t 58) .skip (.exit 2)) (.seq (.block 3 (Jz zOR [3,4,5,9,55,56,57] (Jz zNy [3,4,5,9,55,56,57] (Jz zOF [3,4,5,9,55,56,57] (Jz zRi [3,4,5,9,55,56,57] (Jz zOj [3,4,5,9,55,56,57] (Jz zOd [3,4,5,9,55,56,57] (.regd zPT [3,4,5,55,56,57])))))))) (.reg zQy [3,4,5,55,56,57]))))))) (Jz zNL [2] .ret)))))))))))⟩
def yEq : List zA := [
 Jm 3 0,Jx 4 135 [.t 1,.t 3]]
def yBY : List zA := [
 Jx 5 136 [.t 1,.c (.int .u8 47)]]
def zMw : zI := ⟨6, [],
  (Jz yEq [1] (.reg yBY []))⟩
def zWx : List yU := [
 ⟨0,Jl 3 1,[]⟩,
 ⟨1,Jm 4 0,[]⟩,
 ⟨2,Jx 5 137 [.t 4],[0]⟩,
 ⟨3,⟨some 6,.callv (.t 3) [.t 5],none⟩,[]⟩]
def zMU : zI := ⟨7, [],
  (.regd zWx [])⟩
def zXo : List zA := [
 Kx 1 0,Jc 2 (.bool false)]
def zUY : List zA := [
 Js 7 (.bld [.slice none 0 0] []),Jk 8 2 1,Jp 9 235 [.t 7,.t 8,.c (.int .i64 0)],Jm 6 9,Ke 10 0 6,Ke 11 1 6,Ke 12 2 6,Js 3 (.new [.string ⟨#[]⟩,.int .i64 0,.int .i64 0,.slice none 0 0,.slice none 0 0,.string ⟨#[]⟩,.int .i64 0]),Jw 7 3 10,Jm 4 11,Jm 5 12]
def zYy : List zA := [
 Jm 13 5,Kb 14 .eql 13 0,Jm 2 14]
def zNf : zI := ⟨15, [.slot 2],
  (Jz zXo [1] (Jz zUY [5] (Jz zYy [2] .ret)))⟩
def zUt : List zA := [
 Kx 3 0,
 ⟨some 4,.boxH (.t 1),none⟩,
 ⟨some 6,.newH [.string ⟨#[]⟩,.int .i64 0,.int .i64 0,.slice none 0 0,.slice none 0 0,.string ⟨#[]⟩,.int .i64 0],none⟩,
 ⟨some 7,.newH [.bool false],none⟩,
 ⟨some 8,.newH [.int .i64 0],none⟩]
def yBU : List zA := [
 Jk 10 1 3,Jp 11 236 [.t 10],Kn 12 11,Jm 13 12,Jn 14 (.ld (some 2) (.t 4)) 13,
 ⟨some 15,.callp 237 [.t 14],(some (13,false))⟩,Jn 16 (.not (.t 15)) 13,Jr 17 13 16,Jm 18 17,Jv 19 2 18,
 ⟨some 20,.callp 238 [.t 19],(some (18,false))⟩,Jn 21 (.not (.t 20)) 18,Jr 22 18 21]
def yCf : List zA := [
 Js 23 (.bld [.string ⟨#[]⟩,.int .i64 0,.int .i64 0,.slice none 0 0,.slice none 0 0,.string ⟨#[]⟩,.int .i64 0] []),Jw 7 6 23,
 ⟨none,.st 1 (.t 7) (.c (.bool false)),none⟩,
 ⟨none,.st 1 (.t 8) (.c (.int .i64 1)),none⟩]
def zZN : List zA := [
 Jk 24 1 3,Jm 25 2,Jx 26 239 [.t 24,.t 25]]
def zTh : List zA := [
 Js 9 (.new [.string ⟨#[]⟩,.int .i64 0,.int .i64 0,.slice none 0 0,.slice none 0 0,.string ⟨#[]⟩,.int .i64 0]),Jw 7 9 27]
def zSQ : List zA := [
 Jf 28 0 9,Jf 29 0 28,Jf 30 0 29,Jl 31 30,Jf 32 0 4,Jl 33 32,Kc 34 .eql 31 33,Jm 35 34,Kf 36 0 9 35,Kf 37 0 36 35,Kf 38 1 37 35,Kl 39 38 35,Kf 40 1 4 35,Kl 41 40 35,Jt 42 (.bin .eql (.t 39) (.t 41)) 35,Ja 43 35 42]
def zUs : List zA := [
 Jk 44 7 9,Jw 7 6 44,
 ⟨none,.st 1 (.t 7) (.c (.bool true)),none⟩,
 ⟨none,.st 1 (.t 8) (.c (.int .i64 0)),none⟩]
def zZZ : List zA := [
 Js 45 (.bld [.string ⟨#[]⟩,.int .i64 0,.int .i64 0,.slice none 0 0,.slice none 0 0,.string ⟨#[]⟩,.int .i64 0] []),Jw 7 6 45,
 ⟨none,.st 1 (.t 7) (.c (.bool false)),none⟩,
 ⟨none,.st 1 (.t 8) (.c (.int .i64 0)),none⟩]
def zLX : zI := ⟨46, [.cell 6 (some 7), .cell 7 none, .cell 8 none],
  (Jz zUt [2,3,4,6,7,8] (.seq (Jz yBU [2,3,4,6,7,8,22] (.cond (.t 22) (Jz yCf [6,7,8] .ret) .skip)) (.seq (Jz zZN [4,6,7,8,26] (.block 0 (.rangeF (.t 26) [27] (.reg zTh [4,6,7,8,9]) (.block 1 (Jz zSQ [6,7,8,9,43] (.cond (.t 43) (Jz zUs [] .ret) .skip)))))) (Jz zZZ [6,7,8] .ret))))⟩
def zTJ : List zA := [
 Kx 1 0,Jc 2 (.bool false)]
def yCc : List zA := [
 Jf 6 0 1,Jl 7 6,Je 8 7,Kb 9 .gtr 8 400]
def zYk : List zA := [
 Jc 2 (.bool false)]
def yDh : List zA := [
 ⟨some 10,.mkmap none,none⟩,Jm 3 10]
def yCh : List zA := [
 Jf 11 0 1,Jl 12 11,Je 13 12,Jc 14 (.int .i64 0)]
def yEP : List zA := [
 Kc 15 .lss 14 13]
def zTI : List zA := [
 Ji 16 7 12 14,Jk 17 7 16,Js 5 (.new [.string ⟨#[]⟩,.int .i64 0,.int .i64 0,.slice none 0 0,.slice none 0 0,.string ⟨#[]⟩,.int .i64 0]),Jw 7 5 17]
def yCw : List zA := [
 Jk 18 7 5,Jx 19 240 [.t 18],Kn 20 19,Jm 21 20,Jv 22 3 21,Jn 23 (.ld (some 7) (.t 5)) 21,
 ⟨some 24,.call 241 [.t 23],(some (21,false))⟩,
 ⟨some 25,.look true [.s,.i,.s] (.bool false) false (.t 22) (.t 24),(some (21,false))⟩,Jr 26 21 25]
def yDQ : List zA := [
 Jc 2 (.bool false)]
def yBt : List zA := [
 Jm 27 3,Jk 28 7 5,Jx 29 241 [.t 28],
 ⟨none,.upd true [.s,.i,.s] (.t 27) (.t 29) (.c (.bool true)),none⟩]
def zOH : List zA := [
 Kb 30 .add 14 1,Jm 14 30]
def zQt : List zA := [
 Jc 2 (.bool true)]
def zMv : zI := ⟨31, [.slot 2],
  (Jz zTJ [1] (.seq (Jz yCc [1,9] (.cond (.t 9) (Jz zYk [2] .ret) .skip)) (Jz yDh [1,3] (.seq (Jz yCh [3,12,13,14] (.block 0 (.loop [3,12,13,14] (Jz yEP [3,12,13,14,15] (.seq (.cond (.t 15) .skip (.exit 0)) (.seq (.block 1 (Jz zTI [3,5,12,13,14] (.seq (Jz yCw [3,5,12,13,14,26] (.cond (.t 26) (Jz yDQ [2] .ret) .skip)) (.reg yBt [3,12,13,14])))) (.reg zOH [3,12,13,14]))))))) (Jz zQt [2] .ret)))))⟩
def zSY : List zA := [
 Kx 1 0,Jc 2 (.bool false)]
def yBp : List zA := [
 Jf 3 0 1,Jl 4 3,Jp 5 45 [.t 4],Jm 6 5,Kf 7 1 1 6,Kl 8 7 6,Jt 9 (.bin .geq (.t 8) (.c (.int .i64 1))) 6,Ja 10 6 9,Jm 11 10,Kf 12 1 1 11,Kl 13 12 11,Jt 14 (.bin .leq (.t 13) (.c (.int .i64 8))) 11,Ja 15 11 14,Jm 2 15]
def zLM : zI := ⟨16, [.slot 2],
  (Jz zSY [1] (Jz yBp [2] .ret))⟩
def zUg : List zA := [
 Jc 2 (.bool false)]
def zTK : List zA := [
 Jm 3 0,Kb 4 .geq 3 0,Jm 5 4,Ju 6 0 5,Jt 7 (.bin .leq (.t 6) (.c (.int .i64 20000000))) 5,Ja 8 5 7,Jm 2 8]
def zLz : zI := ⟨9, [.slot 2],
  (Jz zUg [0] (Jz zTK [2] .ret))⟩
def zXE : List zA := [
 ⟨some 2,.boxH (.t 0),none⟩,
 ⟨some 3,.boxH (.t 1),none⟩,Jc 4 (.nilFunc)]
def yFk : List zA := [
 Js 5 (.mkf 242 [] [.t 2,.t 3]),Jm 4 5]
def zMV : zI := ⟨6, [.slot 4],
  (Jz zXE [2,3] (Jz yFk [4] .ret))⟩
def zTu : List zA := [
 Jf 6 0 1,Jl 7 6,Je 8 7,Jc 9 (.int .i64 0)]
def yBs : List zA := [
 Kc 10 .lss 9 8]
def zTV : List zA := [
 Ji 11 7 7 9,Jk 12 7 11,Js 5 (.new [.string ⟨#[]⟩,.int .i64 0,.int .i64 0,.slice none 0 0,.slice none 0 0,.string ⟨#[]⟩,.int .i64 0]),Jw 7 5 12]
def zUz : List zA := [
 Jl 13 2,Jf 14 6 5,Jl 15 14,Kc 16 .lss 13 15,Jm 17 16,Ju 18 0 17,Jt 19 (.ld (some 7) (.t 5)) 17,
 ⟨some 20,.call 243 [.t 19],(some (17,true))⟩,
 ⟨some 21,.callv (.t 18) [.t 20],(some (17,true))⟩,Jt 22 (.not (.t 21)) 17,Ja 23 17 22]
def zYE : List zA := [
 Kb 24 .add 9 1,Jm 9 24]
def zMl : zI := ⟨25, [],
  (Jz zTu [0,2,7,8,9] (.block 0 (.loop [0,2,7,8,9] (Jz yBs [0,2,7,8,9,10] (.seq (.cond (.t 10) .skip (.exit 0)) (.seq (.block 1 (Jz zTV [0,2,5,7,8,9] (Jz zUz [0,2,7,8,9,23] (.cond (.t 23) .ret .skip)))) (.reg zYE [0,2,7,8,9])))))))⟩
def yDn : List zA := [
 ⟨some 3,.boxH (.t 1),none⟩,Jc 4 (.bool false)]
def zST : List zA := [
 Jm 5 0,Js 6 (.mkf 244 [] [.t 3]),Jx 7 245 [.t 5,.t 6],Jm 4 7]
def zNd : zI := ⟨8, [.slot 4],
  (Jz yDn [0,3] (Jz zST [4] .ret))⟩
def yBK : List zA := [
 Kx 2 0,Jc 3 (.bool false)]
def zUG : List zA := [
 Jf 4 0 2,Jl 5 4,Jl 6 1,Kc 7 .leq 5 6,Jm 8 7,Kl 9 1 8,Kf 10 1 2 8,Kl 11 10 8,Jt 12 (.bin .lss (.t 9) (.t 11)) 8,Ja 13 8 12,Jm 3 13]
def zMb : zI := ⟨14, [.slot 3],
  (Jz yBK [1,2] (Jz zUG [3] .ret))⟩
def zSP : List zA := [
 Jc 4 (.bool false)]
def zWu : List zA := [
 Jm 5 0,Jm 6 1,Jx 7 246 [.t 5,.t 6],Kb 8 .geq 7 0,Jm 4 8]
def zNq : zI := ⟨9, [.slot 4],
  (Jz zSP [0,1] (Jz zWu [4] .ret))⟩
def zVk : List zA := [
 Jc 4 (.int .i64 0)]
def yAQ : List zA := [
 Jm 6 0,Je 7 6,Jc 8 (.int .i64 0)]
def yDW : List zA := [
 Kc 9 .lss 8 7]
def yAy : List zA := [
 Jm 10 8,Jm 5 10]
def yBq : List zA := [
 Jm 11 1,Jm 12 0,Jm 13 5,Ji 14 2 12 13,Jk 15 2 14,
 ⟨some 16,.callv (.t 11) [.t 15],none⟩]
def yAx : List zA := [
 Jm 17 5,Jm 4 17]
def yCs : List zA := [
 Kb 18 .add 8 1,Jm 8 18]
def yFW : List zA := [
 Jc 4 (.int .i64 (-1))]
def zMi : zI := ⟨19, [.slot 4],
  (Jz zVk [0,1] (.seq (Jz yAQ [0,1,7,8] (.block 0 (.loop [0,1,7,8] (Jz yDW [0,1,7,8,9] (.seq (.cond (.t 9) .skip (.exit 0)) (.seq (.block 1 (Jz yAy [0,1,5,7,8] (Jz yBq [0,1,5,7,8,16] (.cond (.t 16) (Jz yAx [4] .ret) .skip)))) (.reg yCs [0,1,7,8]))))))) (Jz yFW [4] .ret)))⟩
end Go.SL

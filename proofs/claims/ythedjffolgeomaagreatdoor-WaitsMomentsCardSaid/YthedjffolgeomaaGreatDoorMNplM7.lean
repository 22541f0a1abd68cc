import Derived.Test.YthedjffolgeomaaGreatDoorMNplL
namespace Go.SL
open Go
def zUV : List zA := [
 Kx 2 0,Jc 4 (.bool false)]
def zTG : List zA := [
 Jx 19 183 [],Jm 5 19]
def zZG : List zA := [
 Jk 20 9 2,Jp 21 184 [.t 20],Kn 22 21,Jm 23 22,Jn 24 (.ld (some 9) (.t 2)) 23,
 ⟨some 25,.callp 185 [.t 24],(some (23,false))⟩,Jn 26 (.not (.t 25)) 23,Jr 27 23 26,Jm 28 27,Jv 29 1 28,Jn 30 (.bin .lss (.t 29) (.c (.int .i64 1))) 28,Jr 31 28 30,Jm 32 31,Jv 33 1 32,Kg 34 8 2 32,Km 35 34 32,Jn 36 (.bin .geq (.t 33) (.t 35)) 32,Jr 37 32 36]
def zYZ : List zA := [
 Jm 38 5,Jm 4 38]
def zXW : List zA := [
 Jk 40 9 2,Jx 41 158 [.t 40],Jm 39 41,Ke 42 0 39,Ke 43 1 39,Jm 6 42,Jm 7 43]
def zTL : List zA := [
 Jm 44 7,Kb 45 .neq 44 0]
def zUl : List zA := [
 Jc 4 (.bool false)]
def zYc : List zA := [
 Jc 8 (.bool false)]
def yAO : List zA := [
 Jm 46 6,Je 47 46,Jc 48 (.int .i64 0)]
def zTJ : List zA := [
 Kc 49 .lss 48 47]
def zOH : List zA := [
 Jm 50 48,Ji 51 1 46 48,Jl 52 51,Jm 9 50,Jm 10 52]
def zDG : List zA := [
 Jm 53 10,Kb 54 .lss 53 0,Jm 55 54,Jv 56 10 55,Kg 57 8 2 55,Km 58 57 55,Jn 59 (.bin .gtr (.t 56) (.t 58)) 55,Jr 60 55 59,Jm 61 60,Jv 62 9 61,Jn 63 (.bin .gtr (.t 62) (.c (.int .i64 0))) 61,Jv 64 63 61,Ju 65 6 64,Ju 66 9 64,Jt 67 (.bin .sub (.t 66) (.c (.int .i64 1))) 64,Jt 68 (.idx 1 (.t 65) (.t 67)) 64,Kl 69 68 64,Ju 70 10 64,Jt 71 (.bin .geq (.t 69) (.t 70)) 64,Jn 72 (.pick (.t 64) (.t 71) (.c (.bool false))) 61,Jr 73 61 72]
def zNI : List zA := [
 Jc 4 (.bool false)]
def zOy : List zA := [
 Jm 74 8,Jm 75 74,Jv 76 10 75,Jv 77 1 75,Jn 78 (.bin .eql (.t 76) (.t 77)) 75,Jr 79 75 78,Jm 8 79]
def zQR : List zA := [
 Kb 80 .add 48 1,Jm 48 80]
def zOA : List zA := [
 Jm 81 8]
def zOD : List zA := [
 Jm 82 5,Jm 4 82]
def zPx : List zA := [
 Jk 84 9 2,Jm 85 1,Kb 86 .sub 85 1,Jx 87 174 [.t 84,.t 86],Jm 83 87,Ke 88 0 83,Ke 89 1 83,Js 11 (.new [.slice none 0 0,.slice none 0 0,.string ⟨#[]⟩,.int .i64 0,.int .i64 0,.slice none 0 0,.slice none 0 0]),Jw 7 11 88,Jm 12 89]
def zQb : List zA := [
 Jk 91 9 2,Jm 92 1,Jx 93 174 [.t 91,.t 92],Jm 90 93,Ke 94 0 90,Ke 95 1 90,Js 13 (.new [.slice none 0 0,.slice none 0 0,.string ⟨#[]⟩,.int .i64 0,.int .i64 0,.slice none 0 0,.slice none 0 0]),Jw 7 13 94,Jm 14 95]
def zNH : List zA := [
 Jk 97 9 2,Jx 98 139 [.t 97],Jm 96 98,Ke 99 0 96,Ke 100 1 96,Jm 15 99,Jm 16 100]
def zRP : List zA := [
 Jm 101 12,Kb 102 .neq 101 0,Jm 103 102,Jv 104 14 103,Jn 105 (.bin .neq (.t 104) (.c (.int .i64 0))) 103,Jr 106 103 105,Jm 107 106,Jv 108 16 107,Jn 109 (.bin .neq (.t 108) (.c (.int .i64 0))) 107,Jr 110 107 109,Jm 111 110,Jn 112 (.ld (some 7) (.t 11)) 111,Jn 113 (.ld (some 7) (.t 13)) 111,
 ⟨some 114,.callp 5 [.t 112,.t 113],(some (111,false))⟩,Jn 115 (.not (.t 114)) 111,Jr 116 111 115]
def zNB : List zA := [
 Jc 4 (.bool false)]
def zOg : List zA := [
 Jm 117 15,Je 118 117,Jc 119 (.int .i64 0)]
def zQM : List zA := [
 Kc 120 .lss 119 118]
def zOn : List zA := [
 Ji 121 8 117 119,Jk 122 8 121,Js 18 (.new [.string ⟨#[]⟩,.string ⟨#[]⟩,.int .i64 0,.int .i64 0,.slice none 0 0,.slice none 0 0,.slice none 0 0,.slice none 0 0]),Jw 8 18 122]
def zRp : List yS := [
 ⟨0,Jm 123 5,[]⟩,
 ⟨1,Jm 124 123,[]⟩,
 ⟨2,Kf 125 7 18 124,[]⟩,
 ⟨3,Kl 126 125 124,[]⟩,
 ⟨4,Ju 127 1 124,[]⟩,
 ⟨5,Jt 128 (.bin .sub (.t 127) (.c (.int .i64 1))) 124,[]⟩,
 ⟨7,Kf 130 7 18 124,[]⟩,
 ⟨8,Kl 131 130 124,[]⟩,
 ⟨9,Ju 132 1 124,[]⟩,
 ⟨6,⟨some 129,.callp 187 [.t 126,.t 128],(some (124,true))⟩,[7,8,9]⟩,
 ⟨10,⟨some 133,.callp 187 [.t 131,.t 132],(some (124,true))⟩,[]⟩,
 ⟨11,Jt 134 (.eqb false (.t 129) (.t 133)) 124,[]⟩,
 ⟨12,Ja 135 124 134,[]⟩,
 ⟨13,Jm 136 135,[]⟩,
 ⟨14,Kf 137 6 18 136,[]⟩,
 ⟨15,Kl 138 137 136,[]⟩,
 ⟨16,Ju 139 1 136,[]⟩,
 ⟨17,Jt 140 (.bin .sub (.t 139) (.c (.int .i64 1))) 136,[]⟩,
 ⟨19,Kf 142 6 18 136,[]⟩,
 ⟨20,Kl 143 142 136,[]⟩,
 ⟨21,Ju 144 1 136,[]⟩,
 ⟨18,⟨some 141,.callp 187 [.t 138,.t 140],(some (136,true))⟩,[19,20,21]⟩,
 ⟨22,⟨some 145,.callp 187 [.t 143,.t 144],(some (136,true))⟩,[]⟩,
 ⟨23,Jt 146 (.eqb false (.t 141) (.t 145)) 136,[]⟩,
 ⟨24,Ja 147 136 146,[]⟩]
def zRj : List zA := [
 Kb 148 .add 119 1,Jm 119 148]
def zQi : List zA := [
 Jm 149 5,Jm 4 149]
def zMy : zJ := ⟨150, [.slot 4],
  (Jz zUV [1,2] (Jz zTG [1,2,5] (.seq (Jz zZG [1,2,5,37] (.cond (.t 37) (Jz zYZ [4] .ret) .skip)) (Jz zXW [1,2,5,6,7] (.seq (Jz zTL [1,2,5,6,45] (.cond (.t 45) (Jz zUl [4] .ret) .skip)) (Jz zYc [1,2,5,6,8] (.seq (Jz yAO [1,2,5,6,8,46,47,48] (.block 0 (.loop [1,2,5,6,8,46,47,48] (Jz zTJ [1,2,5,6,8,46,47,48,49] (.seq (.cond (.t 49) .skip (.exit 0)) (.seq (.block 1 (Jz zOH [1,2,5,6,8,9,10,46,47,48] (.seq (Jz zDG [1,2,5,6,8,10,46,47,48,73] (.cond (.t 73) (Jz zNI [4] .ret) .skip)) (.reg zOy [1,2,5,6,8,46,47,48])))) (.reg zQR [1,2,5,6,8,46,47,48]))))))) (.seq (Jz zOA [1,2,5,81] (.cond (.t 81) (Jz zOD [4] .ret) .skip)) (Jz zPx [1,2,5,11,12] (Jz zQb [1,2,5,11,12,13,14] (Jz zNH [1,5,11,12,13,14,15,16] (.seq (Jz zRP [1,5,15,116] (.cond (.t 116) (Jz zNB [4] .ret) .skip)) (.seq (Jz zOg [1,5,117,118,119] (.block 2 (.loop [1,5,117,118,119] (Jz zQM [1,5,117,118,119,120] (.seq (.cond (.t 120) .skip (.exit 2)) (.seq (.block 3 (Jz zOn [1,5,18,117,118,119] (.regl zRp [1,117,118,119,147] ⟨some 5,.sim (.mov (.t 147)),none⟩ [1,5,117,118,119]))) (.reg zRj [1,5,117,118,119]))))))) (Jz zQi [4] .ret))))))))))))))⟩
end Go.SL

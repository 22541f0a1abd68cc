import Derived.Test.YthedjffolgeomaaGreatDoorProg
import Derived.Test.YthedjffolgeomaaGreatDoorANplO
import Derived.KernelRfl
namespace Go.SL
open Go
def yTv:Array Nat:=#[0,0,0,0,0,11,0,0,0,39,0,50,0,0,63,152,94,95,0,0,99,28,30,29,37,38,0,79,46,0,157,0,0,0,0,0,0,0,156,71,121,122,123,64,155,40,42,14,27,91,80,216,175,176,177,179,178,124,125,126,127,128,129,130,215,135,142,93,92,96,97,98,47,238,239,0,240,241,242,243,180,181,182,183,184,120,131,65,132,67,202,296,298,297,244,74,246,245,253,347,348,299,134,136,201,203,254,0,0,185,186,187,188,189,190,191,192,173,174,68,69,66,73,72,34,75,31,76,33,77,35,70,137,89,90,85,86,88,36,10,78,139,138,140,141,149,133,193,194,195,196,197,198,199,200,24,26,25,8,60,61,118,119,164,165,166,167,168,169,170,171,172,62,32,9,48,49,17,150,151,2,161,5,5,6,7,13,12,0,16,18,19,20,21,22,23,59,41,51,52,53,54,55,56,57,58,111,112,113,114,115,116,117,163,232,103,104,105,162,106,107,108,109,110,161,3,15,4,43,44,45,82,83,84,87,81,143,144,145,146,204,205,206,207,148,147,208]
noncomputable def zD:Env:=⟨Go.Proofs.Tryz.prog,fun k=>yTv.getD k 0,fun k=>yTv.getD k 0⟩
theorem xCq:zB zD (zD.fn 11) yHR=true:=by kernel_rfl
theorem xAM:zB zD (zD.fn 14) yGF=true:=by kernel_rfl
theorem xCt:zB zD (zD.fn 15) yIo=true:=by kernel_rfl
theorem xCf:zB zD (zD.fn 17) yHt=true:=by kernel_rfl
theorem xCr:zB zD (zD.fn 22) yHJ=true:=by kernel_rfl
theorem xBN:zB zD (zD.fn 28) yGx=true:=by kernel_rfl
theorem xCx:zB zD (zD.fn 45) yGM=true:=by kernel_rfl
theorem xCl:zB zD (zD.fn 39) yHw=true:=by kernel_rfl
theorem xAW:zB zD (zD.fn 40) yIv=true:=by kernel_rfl
theorem xCv:zB zD (zD.fn 41) yIi=true:=by kernel_rfl
theorem xBO:zB zD (zD.fn 42) yGL=true:=by kernel_rfl
theorem xBw:zB zD (zD.fn 43) yGG=true:=by kernel_rfl
theorem xBZ:zB zD (zD.fn 44) yHl=true:=by kernel_rfl
theorem xAO:zB zD (zD.fn 46) yHk=true:=by kernel_rfl
theorem xBB:zB zD (zD.fn 47) yHG=true:=by kernel_rfl
theorem xBk:zB zD (zD.fn 49) yHV=true:=by kernel_rfl
theorem xCe:zB zD (zD.fn 50) yHD=true:=by kernel_rfl
theorem xBY:zB zD (zD.fn 52) yHL=true:=by kernel_rfl
theorem xBx:zB zD (zD.fn 53) yHQ=true:=by kernel_rfl
theorem xAY:zB zD (zD.fn 54) yGU=true:=by kernel_rfl
theorem xBl:zB zD (zD.fn 56) yHn=true:=by kernel_rfl
theorem xAL:zB zD (zD.fn 55) yHr=true:=by kernel_rfl
theorem xAX:zB zD (zD.fn 57) yGB=true:=by kernel_rfl
theorem xBi:zB zD (zD.fn 58) yIs=true:=by kernel_rfl
theorem xCk:zB zD (zD.fn 59) yHK=true:=by kernel_rfl
theorem xCd:zB zD (zD.fn 60) yHo=true:=by kernel_rfl
theorem xBg:zB zD (zD.fn 61) yGS=true:=by kernel_rfl
theorem xAT:zB zD (zD.fn 62) yHe=true:=by kernel_rfl
theorem xBs:zB zD (zD.fn 63) yGQ=true:=by kernel_rfl
theorem xCn:zB zD (zD.fn 64) yHC=true:=by kernel_rfl
theorem xCz:zB zD (zD.fn 87) zJK=true:=by kernel_rfl
theorem xBf:zB zD (zD.fn 89) yGV=true:=by kernel_rfl
theorem xBM:zB zD (zD.fn 65) yHj=true:=by kernel_rfl
theorem xCA:zB zD (zD.fn 66) yIg=true:=by kernel_rfl
theorem xCu:zB zD (zD.fn 79) yGW=true:=by kernel_rfl
theorem xAH:zB zD (zD.fn 73) yHH=true:=by kernel_rfl
theorem xCi:zB zD (zD.fn 74) yGX=true:=by kernel_rfl
theorem xAE:zB zD (zD.fn 76) yGE=true:=by kernel_rfl
theorem xAG:zB zD (zD.fn 77) yIn=true:=by kernel_rfl
theorem xBF:zB zD (zD.fn 78) yHh=true:=by kernel_rfl
theorem xBC:zB zD (zD.fn 80) yHS=true:=by kernel_rfl
theorem xBn:zB zD (zD.fn 81) yHa=true:=by kernel_rfl
theorem xBD:zB zD (zD.fn 82) yIm=true:=by kernel_rfl
theorem xBK:zB zD (zD.fn 83) yGH=true:=by kernel_rfl
theorem xBE:zB zD (zD.fn 84) yHq=true:=by kernel_rfl
theorem xAS:zB zD (zD.fn 88) yIu=true:=by kernel_rfl
theorem xAN:zB zD (zD.fn 90) yGA=true:=by kernel_rfl
theorem xBH:zB zD (zD.fn 91) yIp=true:=by kernel_rfl
theorem xAQ:zB zD (zD.fn 93) yIx=true:=by kernel_rfl
theorem xAF:zB zD (zD.fn 92) yIj=true:=by kernel_rfl
theorem xBq:zB zD (zD.fn 94) yIC=true:=by kernel_rfl
theorem xAP:zB zD (zD.fn 95) yHx=true:=by kernel_rfl
theorem xBW:zB zD (zD.fn 97) yHg=true:=by kernel_rfl
theorem xBG:zB zD (zD.fn 96) yGO=true:=by kernel_rfl
theorem xBo:zB zD (zD.fn 99) yGY=true:=by kernel_rfl
theorem xAv:zB zD (zD.fn 100) zLK=true:=by kernel_rfl
theorem yYi:zB zD (zD.fn 101) zMN=true:=by kernel_rfl
theorem xAj:zB zD (zD.fn 102) zME=true:=by kernel_rfl
theorem yXz:zB zD (zD.fn 103) zMQ=true:=by kernel_rfl
theorem yYE:zB zD (zD.fn 104) zLB=true:=by kernel_rfl
theorem xBU:enters zD.P (zD.fn 55)=true:=by kernel_rfl
theorem xBp:enters zD.P (zD.fn 96)=true:=by kernel_rfl
theorem yZh:enters zD.P (zD.fn 104)=true:=by kernel_rfl
theorem xBb:enters zD.P (zD.fn 65)=true:=by kernel_rfl
theorem xBL:zB zD (zD.fn 86) zJL=true:=by kernel_rfl
theorem xBu:zB zD (zD.fn 85) yId=true:=by kernel_rfl
theorem yYB:zB zD (zD.fn 119) zLJ=true:=by kernel_rfl
theorem xAa:zB zD (zD.fn 120) zLT=true:=by kernel_rfl
theorem xAR:zB zD (zD.fn 48) yGN=true:=by kernel_rfl
theorem xAe:zB zD (zD.fn 121) zMd=true:=by kernel_rfl
theorem yYp:zB zD (zD.fn 109) zHm=true:=by kernel_rfl
theorem yXo:zB zD (zD.fn 118) zNe=true:=by kernel_rfl
theorem xAw:enters zD.P (zD.fn 120)=true:=by kernel_rfl
theorem yYe:enters zD.P (zD.fn 121)=true:=by kernel_rfl
theorem yYb:zB zD (zD.fn 124) zLN=true:=by kernel_rfl
theorem yZm:zB zD (zD.fn 122) zMe=true:=by kernel_rfl
theorem yXy:zB zD (zD.fn 130) zMt=true:=by kernel_rfl
theorem yXR:zB zD (zD.fn 125) zLZ=true:=by kernel_rfl
theorem yWF:zB zD (zD.fn 126) zNr=true:=by kernel_rfl
theorem xAo:zB zD (zD.fn 131) zMg=true:=by kernel_rfl
theorem xAm:zB zD (zD.fn 128) zNn=true:=by kernel_rfl
theorem yWD:zB zD (zD.fn 127) zLD=true:=by kernel_rfl
theorem yZq:zB zD (zD.fn 132) zMZ=true:=by kernel_rfl
theorem yZC:zB zD (zD.fn 139) zLx=true:=by kernel_rfl
theorem yWQ:zB zD (zD.fn 138) zNm=true:=by kernel_rfl
theorem yXw:zB zD (zD.fn 140) zLv=true:=by kernel_rfl
theorem yZo:zB zD (zD.fn 129) zLQ=true:=by kernel_rfl
theorem yZt:zB zD (zD.fn 141) zMq=true:=by kernel_rfl
theorem yYl:zB zD (zD.fn 143) zLA=true:=by kernel_rfl
theorem yYT:zB zD (zD.fn 142) zMc=true:=by kernel_rfl
theorem yZE:zB zD (zD.fn 144) zLP=true:=by kernel_rfl
theorem yZN:zB zD (zD.fn 135) zMD=true:=by kernel_rfl
theorem yZM:zB zD (zD.fn 136) zMS=true:=by kernel_rfl
theorem yYQ:zB zD (zD.fn 123) zHa=true:=by kernel_rfl
theorem yYk:zB zD (zD.fn 146) zHh=true:=by kernel_rfl
theorem yXY:zB zD (zD.fn 147) zHq=true:=by kernel_rfl
theorem yYO:zB zD (zD.fn 158) zNp=true:=by kernel_rfl
theorem yWU:zB zD (zD.fn 155) zMB=true:=by kernel_rfl
theorem yXc:zB zD (zD.fn 157) zNb=true:=by kernel_rfl
theorem yYX:zB zD (zD.fn 159) zMy=true:=by kernel_rfl
theorem yYV:zB zD (zD.fn 161) zNk=true:=by kernel_rfl
theorem yXH:zB zD (zD.fn 160) zHt=true:=by kernel_rfl
theorem yZK:zB zD (zD.fn 162) zHf=true:=by kernel_rfl
theorem yZV:zB zD (zD.fn 163) zHn=true:=by kernel_rfl
theorem yZw:zB zD (zD.fn 156) zMr=true:=by kernel_rfl
theorem yYs:zB zD (zD.fn 172) zMW=true:=by kernel_rfl
theorem yXh:zB zD (zD.fn 177) zLw=true:=by kernel_rfl
theorem yYK:enters zD.P (zD.fn 122)=true:=by kernel_rfl
theorem yWR:enters zD.P (zD.fn 125)=true:=by kernel_rfl
theorem yXF:enters zD.P (zD.fn 131)=true:=by kernel_rfl
theorem yWK:enters zD.P (zD.fn 132)=true:=by kernel_rfl
theorem yXt:enters zD.P (zD.fn 140)=true:=by kernel_rfl
theorem yZT:enters zD.P (zD.fn 141)=true:=by kernel_rfl
theorem yZp:enters zD.P (zD.fn 143)=true:=by kernel_rfl
theorem yYW:enters zD.P (zD.fn 155)=true:=by kernel_rfl
theorem yYP:enters zD.P (zD.fn 172)=true:=by kernel_rfl
theorem xAr:zB zD (zD.fn 183) zMO=true:=by kernel_rfl
theorem xAi:zB zD (zD.fn 189) zMC=true:=by kernel_rfl
theorem yYC:zB zD (zD.fn 184) zNi=true:=by kernel_rfl
theorem yZX:zB zD (zD.fn 185) zMX=true:=by kernel_rfl
theorem yYG:zB zD (zD.fn 191) zLF=true:=by kernel_rfl
theorem yWI:zB zD (zD.fn 195) zMs=true:=by kernel_rfl
theorem yXp:zB zD (zD.fn 186) zNs=true:=by kernel_rfl
theorem yZj:zB zD (zD.fn 197) zLW=true:=by kernel_rfl
theorem yXs:zB zD (zD.fn 190) zML=true:=by kernel_rfl
theorem yWW:zB zD (zD.fn 192) zMu=true:=by kernel_rfl
theorem xAn:zB zD (zD.fn 193) zLS=true:=by kernel_rfl
theorem yXg:zB zD (zD.fn 194) zMJ=true:=by kernel_rfl
theorem yYw:zB zD (zD.fn 201) zNg=true:=by kernel_rfl
theorem yXK:zB zD (zD.fn 202) zMx=true:=by kernel_rfl
theorem yXr:zB zD (zD.fn 203) zMT=true:=by kernel_rfl
theorem xAs:zB zD (zD.fn 204) zMM=true:=by kernel_rfl
theorem yZH:zB zD (zD.fn 205) zMh=true:=by kernel_rfl
theorem yXU:zB zD (zD.fn 208) zMY=true:=by kernel_rfl
theorem yWL:zB zD (zD.fn 209) zLy=true:=by kernel_rfl
theorem xAB:zB zD (zD.fn 210) zLL=true:=by kernel_rfl
theorem yYD:zB zD (zD.fn 211) zLR=true:=by kernel_rfl
theorem yZB:zB zD (zD.fn 212) zLE=true:=by kernel_rfl
theorem xAu:zB zD (zD.fn 213) zMo=true:=by kernel_rfl
theorem yYu:zB zD (zD.fn 214) zLG=true:=by kernel_rfl
theorem yXm:zB zD (zD.fn 198) zNh=true:=by kernel_rfl
theorem yWE:zB zD (zD.fn 199) zMF=true:=by kernel_rfl
theorem yWT:zB zD (zD.fn 196) zMH=true:=by kernel_rfl
theorem xAp:zB zD (zD.fn 215) zLU=true:=by kernel_rfl
theorem yXA:zB zD (zD.fn 216) zMn=true:=by kernel_rfl
theorem yZc:zB zD (zD.fn 217) zLO=true:=by kernel_rfl
theorem yZd:zB zD (zD.fn 206) zMz=true:=by kernel_rfl
theorem yXk:zB zD (zD.fn 218) zLt=true:=by kernel_rfl
theorem xAk:zB zD (zD.fn 200) zMG=true:=by kernel_rfl
theorem yXD:zB zD (zD.fn 219) zMp=true:=by kernel_rfl
theorem yWV:zB zD (zD.fn 220) zLu=true:=by kernel_rfl
theorem yYo:zB zD (zD.fn 221) zMf=true:=by kernel_rfl
theorem xAy:zB zD (zD.fn 222) zMa=true:=by kernel_rfl
theorem yXf:zB zD (zD.fn 223) zMK=true:=by kernel_rfl
theorem yXM:zB zD (zD.fn 207) zNj=true:=by kernel_rfl
theorem yYj:zB zD (zD.fn 224) zLV=true:=by kernel_rfl
theorem yZz:zB zD (zD.fn 227) zMk=true:=by kernel_rfl
theorem yXi:zB zD (zD.fn 226) zMR=true:=by kernel_rfl
theorem yYJ:zB zD (zD.fn 229) zLI=true:=by kernel_rfl
theorem yZL:zB zD (zD.fn 231) zNa=true:=by kernel_rfl
theorem yZP:zB zD (zD.fn 230) zMm=true:=by kernel_rfl
theorem yXT:zB zD (zD.fn 233) zMw=true:=by kernel_rfl
theorem yZW:zB zD (zD.fn 234) zMU=true:=by kernel_rfl
theorem yZZ:zB zD (zD.fn 228) zNf=true:=by kernel_rfl
theorem yYx:zB zD (zD.fn 235) zLX=true:=by kernel_rfl
theorem yYA:zB zD (zD.fn 236) zMv=true:=by kernel_rfl
theorem xAl:zB zD (zD.fn 237) zLM=true:=by kernel_rfl
theorem yXN:zB zD (zD.fn 238) zLz=true:=by kernel_rfl
theorem xAh:zB zD (zD.fn 239) zMV=true:=by kernel_rfl
theorem yYt:zB zD (zD.fn 242) zMl=true:=by kernel_rfl
theorem yXG:zB zD (zD.fn 232) zNd=true:=by kernel_rfl
theorem yXj:zB zD (zD.fn 244) zMb=true:=by kernel_rfl
theorem yYR:zB zD (zD.fn 245) zNq=true:=by kernel_rfl
theorem yZD:zB zD (zD.fn 246) zMi=true:=by kernel_rfl
theorem yZx:enters zD.P (zD.fn 231)=true:=by kernel_rfl
theorem yXE:enters zD.P (zD.fn 233)=true:=by kernel_rfl
theorem yXO:enters zD.P (zD.fn 234)=true:=by kernel_rfl
theorem yZl:enters zD.P (zD.fn 242)=true:=by kernel_rfl
theorem yXQ:enters zD.P (zD.fn 244)=true:=by kernel_rfl
theorem zUN:xZ zD:=⟨xBL,xBu,yYB,xAa,xAR,xAe,yYp,yXo,xAw,yYe⟩
theorem zTA:yW zD:=⟨yYb,yZm,yXy,yXR,yWF,xAo,xAm,yWD,yZq,yZC,yWQ,yXw,yZo,yZt,yYl,yYT,yZE,yZN,yZM,yYQ,yYk,yXY,yYO,yWU,yXc,yYX,yYV,yXH,yZK,yZV,yZw,yYs,yXh,yYK,yWR,yXF,yWK,yXt,yZT,yZp,yYW,yYP⟩
theorem yAG:xH zD:=⟨xAr,xAi,yYC,yZX,yYG,yWI,yXp,yZj,yXs,yWW,xAn,yXg,yYw,yXK,yXr,xAs,yZH,yXU,yWL,xAB,yYD,yZB,xAu,yYu,yXm,yWE,yWT,xAp,yXA,yZc,yZd,yXk,xAk,yXD,yWV,yYo,xAy,yXf,yXM,yYj⟩
theorem yUI:uJ zD:=⟨yZz,yXi,yYJ,yZL,yZP,yXT,yZW,yZZ,yYx,yYA,xAl,yXN,xAh,yYt,yXG,yXj,yYR,yZD,yZx,yXE,yXO,yZl,yXQ⟩
theorem yVy (h1:∀ (H:Hp) (l:Bs),l.length≤60→yB zD 98 [S l,.int .u8 46] H (.int .i64 (ixI (lastIx 46 l)))) (h2:∀ (H:Hp) (a b:Bs),yB zD 105 [S a,S b] H (.int .i64 (wJ a b))):zX zD:=⟨xCq,xAM,xCt,xCf,xCr,xBN,xCx,xCl,xAW,xCv,xBO,xBw,xBZ,xAO,xBB,xBk,xCe,xBY,xBx,xAY,xBl,xAL,xAX,xBi,xCk,xCd,xBg,xAT,xBs,xCn,xCz,xBf,xBM,xCA,xCu,xAH,xCi,xAE,xAG,xBF,xBC,xBn,xBD,xBK,xBE,xAS,xAN,xBH,xAQ,xAF,xBq,xAP,xBW,xBG,xBo,xAv,yYi,xAj,yXz,yYE,xBU,xBp,yZh,xBb,h1,h2⟩
end Go.SL

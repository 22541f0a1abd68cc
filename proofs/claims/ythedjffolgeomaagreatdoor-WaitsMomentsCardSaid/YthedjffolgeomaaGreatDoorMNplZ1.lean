import Derived.Test.YthedjffolgeomaaGreatDoorProg
import Derived.Test.YthedjffolgeomaaGreatDoorMNplO
import Derived.KernelRfl
namespace Go.SL
open Go
def ySO:Array Nat:=#[0,0,0,0,0,11,0,0,0,39,0,50,0,0,63,152,94,95,0,0,99,28,30,29,37,38,0,79,46,0,157,0,0,0,0,0,0,0,156,71,121,122,123,64,155,40,42,14,27,91,80,216,175,176,177,179,178,124,125,126,127,128,129,130,215,135,142,93,92,96,97,98,47,238,239,0,240,241,242,243,180,181,182,183,184,120,131,65,132,67,202,296,298,297,244,74,246,245,253,347,348,299,134,136,201,203,254,0,0,185,186,187,188,189,190,191,192,173,174,68,69,66,73,72,34,75,31,76,33,77,35,70,137,89,90,85,86,88,36,10,78,139,138,140,141,149,133,193,194,195,196,197,198,199,200,24,26,25,8,60,61,118,119,164,165,166,167,168,169,170,171,172,62,32,9,48,49,17,150,151,2,161,5,5,6,7,13,12,0,16,18,19,20,21,22,23,59,41,51,52,53,54,55,56,57,58,111,112,113,114,115,116,117,163,232,103,104,105,162,106,107,108,109,110,161,3,15,4,43,44,45,82,83,84,87,81,143,144,145,146,204,205,206,207,148,147,208]
noncomputable def zD:Env:=⟨Go.Proofs.Tryz.prog,fun k=>ySO.getD k 0,fun k=>ySO.getD k 0⟩
theorem c5T:zB zD (zD.fn 5) cf5=true:=by kernel_rfl
theorem c9T:zB zD (zD.fn 9) cf9=true:=by kernel_rfl
theorem xAa:zB zD (zD.fn 11) yGo=true:=by kernel_rfl
theorem yZW:zB zD (zD.fn 14) yFp=true:=by kernel_rfl
theorem xAf:zB zD (zD.fn 15) yFn=true:=by kernel_rfl
theorem yZZ:zB zD (zD.fn 17) yGh=true:=by kernel_rfl
theorem xAR:zB zD (zD.fn 21) yGd=true:=by kernel_rfl
theorem xAc:zB zD (zD.fn 22) yFR=true:=by kernel_rfl
theorem xBo:zB zD (zD.fn 23) yGe=true:=by kernel_rfl
theorem xAi:zB zD (zD.fn 24) yFo=true:=by kernel_rfl
theorem xAj:zB zD (zD.fn 25) yGT=true:=by kernel_rfl
theorem xBu:zB zD (zD.fn 27) yFj=true:=by kernel_rfl
theorem xAr:zB zD (zD.fn 28) yGQ=true:=by kernel_rfl
theorem xBA:zB zD (zD.fn 45) yFx=true:=by kernel_rfl
theorem xAJ:zB zD (zD.fn 39) yGi=true:=by kernel_rfl
theorem xBw:zB zD (zD.fn 40) yHo=true:=by kernel_rfl
theorem xAu:zB zD (zD.fn 41) yFy=true:=by kernel_rfl
theorem xBP:zB zD (zD.fn 42) yFL=true:=by kernel_rfl
theorem xBl:zB zD (zD.fn 43) yGz=true:=by kernel_rfl
theorem xAl:zB zD (zD.fn 44) yGG=true:=by kernel_rfl
theorem yZP:zB zD (zD.fn 46) yGm=true:=by kernel_rfl
theorem yZV:zB zD (zD.fn 47) yGb=true:=by kernel_rfl
theorem xAq:zB zD (zD.fn 49) yGl=true:=by kernel_rfl
theorem xAW:zB zD (zD.fn 50) yGr=true:=by kernel_rfl
theorem xBe:zB zD (zD.fn 52) yGP=true:=by kernel_rfl
theorem xAw:zB zD (zD.fn 53) yHa=true:=by kernel_rfl
theorem xBg:zB zD (zD.fn 54) yFO=true:=by kernel_rfl
theorem xAG:zB zD (zD.fn 56) yFD=true:=by kernel_rfl
theorem xBf:zB zD (zD.fn 55) yGU=true:=by kernel_rfl
theorem xBt:zB zD (zD.fn 57) yHe=true:=by kernel_rfl
theorem xBS:zB zD (zD.fn 58) yFT=true:=by kernel_rfl
theorem xBd:zB zD (zD.fn 59) yHd=true:=by kernel_rfl
theorem xAQ:zB zD (zD.fn 60) yGA=true:=by kernel_rfl
theorem yZN:zB zD (zD.fn 61) yHk=true:=by kernel_rfl
theorem xAH:zB zD (zD.fn 62) yGO=true:=by kernel_rfl
theorem yZS:zB zD (zD.fn 63) yFq=true:=by kernel_rfl
theorem xBK:zB zD (zD.fn 64) yFl=true:=by kernel_rfl
theorem xAM:zB zD (zD.fn 87) zKr=true:=by kernel_rfl
theorem xAo:zB zD (zD.fn 89) yFd=true:=by kernel_rfl
theorem xAZ:zB zD (zD.fn 65) yFw=true:=by kernel_rfl
theorem xAm:zB zD (zD.fn 66) yGg=true:=by kernel_rfl
theorem xAO:zB zD (zD.fn 79) yHg=true:=by kernel_rfl
theorem xBF:zB zD (zD.fn 73) yGf=true:=by kernel_rfl
theorem xAC:zB zD (zD.fn 74) yGZ=true:=by kernel_rfl
theorem xBr:zB zD (zD.fn 76) yFi=true:=by kernel_rfl
theorem xBc:zB zD (zD.fn 77) yGv=true:=by kernel_rfl
theorem xAU:zB zD (zD.fn 78) yFV=true:=by kernel_rfl
theorem xAE:zB zD (zD.fn 80) yFF=true:=by kernel_rfl
theorem xBm:zB zD (zD.fn 81) yFE=true:=by kernel_rfl
theorem xAI:zB zD (zD.fn 82) yGW=true:=by kernel_rfl
theorem xAh:zB zD (zD.fn 83) yFB=true:=by kernel_rfl
theorem xBh:zB zD (zD.fn 84) yFk=true:=by kernel_rfl
theorem xAD:zB zD (zD.fn 88) yGs=true:=by kernel_rfl
theorem xBa:zB zD (zD.fn 90) yGt=true:=by kernel_rfl
theorem xBy:zB zD (zD.fn 91) yGH=true:=by kernel_rfl
theorem xAb:zB zD (zD.fn 93) yGj=true:=by kernel_rfl
theorem xBR:zB zD (zD.fn 92) yHj=true:=by kernel_rfl
theorem xAF:zB zD (zD.fn 94) yGS=true:=by kernel_rfl
theorem xBz:zB zD (zD.fn 95) yGn=true:=by kernel_rfl
theorem xBD:zB zD (zD.fn 97) yGp=true:=by kernel_rfl
theorem xAY:zB zD (zD.fn 96) yGI=true:=by kernel_rfl
theorem xBk:zB zD (zD.fn 99) yFt=true:=by kernel_rfl
theorem yXN:zB zD (zD.fn 100) zMQ=true:=by kernel_rfl
theorem yZH:zB zD (zD.fn 101) zMp=true:=by kernel_rfl
theorem yXa:zB zD (zD.fn 102) zNl=true:=by kernel_rfl
theorem yZy:zB zD (zD.fn 103) zMf=true:=by kernel_rfl
theorem yYD:zB zD (zD.fn 104) zLW=true:=by kernel_rfl
theorem xAv:enters zD.P (zD.fn 55)=true:=by kernel_rfl
theorem xBq:enters zD.P (zD.fn 96)=true:=by kernel_rfl
theorem yWG:enters zD.P (zD.fn 104)=true:=by kernel_rfl
theorem xBv:enters zD.P (zD.fn 65)=true:=by kernel_rfl
theorem yZY:zB zD (zD.fn 86) zKH=true:=by kernel_rfl
theorem xBL:zB zD (zD.fn 85) yGa=true:=by kernel_rfl
theorem yXx:zB zD (zD.fn 119) zMI=true:=by kernel_rfl
theorem yYa:zB zD (zD.fn 120) zLQ=true:=by kernel_rfl
theorem xAg:zB zD (zD.fn 48) yHn=true:=by kernel_rfl
theorem yWK:zB zD (zD.fn 121) zLZ=true:=by kernel_rfl
theorem yXu:zB zD (zD.fn 109) zHo=true:=by kernel_rfl
theorem yZi:zB zD (zD.fn 118) zMJ=true:=by kernel_rfl
theorem yZq:enters zD.P (zD.fn 120)=true:=by kernel_rfl
theorem yWS:enters zD.P (zD.fn 121)=true:=by kernel_rfl
theorem yZu:zB zD (zD.fn 124) zMr=true:=by kernel_rfl
theorem yZt:zB zD (zD.fn 122) zNw=true:=by kernel_rfl
theorem yYT:zB zD (zD.fn 130) zMk=true:=by kernel_rfl
theorem yYH:zB zD (zD.fn 125) zLM=true:=by kernel_rfl
theorem yXH:zB zD (zD.fn 126) zNf=true:=by kernel_rfl
theorem yYe:zB zD (zD.fn 131) zNm=true:=by kernel_rfl
theorem yXK:zB zD (zD.fn 128) zMb=true:=by kernel_rfl
theorem yXb:zB zD (zD.fn 127) zMj=true:=by kernel_rfl
theorem yZv:zB zD (zD.fn 132) zMi=true:=by kernel_rfl
theorem yZo:zB zD (zD.fn 139) zLN=true:=by kernel_rfl
theorem yXQ:zB zD (zD.fn 138) zMY=true:=by kernel_rfl
theorem yYM:zB zD (zD.fn 140) zNj=true:=by kernel_rfl
theorem yWL:zB zD (zD.fn 129) zMh=true:=by kernel_rfl
theorem yYF:zB zD (zD.fn 141) zMz=true:=by kernel_rfl
theorem yXU:zB zD (zD.fn 143) zMx=true:=by kernel_rfl
theorem yYU:zB zD (zD.fn 142) zNu=true:=by kernel_rfl
theorem yWA:zB zD (zD.fn 144) zMO=true:=by kernel_rfl
theorem yXY:zB zD (zD.fn 135) zLR=true:=by kernel_rfl
theorem yWZ:zB zD (zD.fn 136) zMC=true:=by kernel_rfl
theorem yZn:zB zD (zD.fn 123) zHg=true:=by kernel_rfl
theorem yXk:zB zD (zD.fn 146) zHE=true:=by kernel_rfl
theorem yYS:zB zD (zD.fn 147) zHl=true:=by kernel_rfl
theorem yZa:zB zD (zD.fn 158) zNv=true:=by kernel_rfl
theorem yXy:zB zD (zD.fn 155) zMS=true:=by kernel_rfl
theorem yXV:zB zD (zD.fn 157) zMG=true:=by kernel_rfl
theorem yYf:zB zD (zD.fn 159) zMB=true:=by kernel_rfl
theorem yXP:zB zD (zD.fn 161) zMV=true:=by kernel_rfl
theorem yYh:zB zD (zD.fn 160) zHA=true:=by kernel_rfl
theorem yWQ:zB zD (zD.fn 162) zHF=true:=by kernel_rfl
theorem yXE:zB zD (zD.fn 163) zHG=true:=by kernel_rfl
theorem yYJ:zB zD (zD.fn 156) zMA=true:=by kernel_rfl
theorem yXq:zB zD (zD.fn 172) zNi=true:=by kernel_rfl
theorem yYK:zB zD (zD.fn 174) zNn=true:=by kernel_rfl
theorem yYG:zB zD (zD.fn 173) zLX=true:=by kernel_rfl
theorem yWX:zB zD (zD.fn 177) zMZ=true:=by kernel_rfl
theorem yWW:enters zD.P (zD.fn 122)=true:=by kernel_rfl
theorem yZD:enters zD.P (zD.fn 125)=true:=by kernel_rfl
theorem yXI:enters zD.P (zD.fn 131)=true:=by kernel_rfl
theorem yXM:enters zD.P (zD.fn 132)=true:=by kernel_rfl
theorem yZm:enters zD.P (zD.fn 140)=true:=by kernel_rfl
theorem yYp:enters zD.P (zD.fn 141)=true:=by kernel_rfl
theorem yXt:enters zD.P (zD.fn 143)=true:=by kernel_rfl
theorem yYl:enters zD.P (zD.fn 155)=true:=by kernel_rfl
theorem yYj:enters zD.P (zD.fn 172)=true:=by kernel_rfl
theorem yWN:enters zD.P (zD.fn 173)=true:=by kernel_rfl
theorem yXs:zB zD (zD.fn 183) zMc=true:=by kernel_rfl
theorem yWz:zB zD (zD.fn 189) zLS=true:=by kernel_rfl
theorem yYy:zB zD (zD.fn 184) zMR=true:=by kernel_rfl
theorem yWx:zB zD (zD.fn 185) zMU=true:=by kernel_rfl
theorem yYL:zB zD (zD.fn 191) zMP=true:=by kernel_rfl
theorem yXp:zB zD (zD.fn 195) zMn=true:=by kernel_rfl
theorem yWI:zB zD (zD.fn 186) zMu=true:=by kernel_rfl
theorem yXD:zB zD (zD.fn 197) zMm=true:=by kernel_rfl
theorem yYc:zB zD (zD.fn 187) zMe=true:=by kernel_rfl
theorem yZC:zB zD (zD.fn 190) zMt=true:=by kernel_rfl
theorem yZg:zB zD (zD.fn 192) zMs=true:=by kernel_rfl
theorem yXW:zB zD (zD.fn 193) zML=true:=by kernel_rfl
theorem yZx:zB zD (zD.fn 194) zMM=true:=by kernel_rfl
theorem yYB:zB zD (zD.fn 201) zNq=true:=by kernel_rfl
theorem yYx:zB zD (zD.fn 202) zNr=true:=by kernel_rfl
theorem yXl:zB zD (zD.fn 203) zLU=true:=by kernel_rfl
theorem yXg:zB zD (zD.fn 204) zMX=true:=by kernel_rfl
theorem yXo:zB zD (zD.fn 205) zNa=true:=by kernel_rfl
theorem yXZ:zB zD (zD.fn 208) zMa=true:=by kernel_rfl
theorem yZE:zB zD (zD.fn 209) zNe=true:=by kernel_rfl
theorem yZw:zB zD (zD.fn 210) zMo=true:=by kernel_rfl
theorem yWU:zB zD (zD.fn 211) zNb=true:=by kernel_rfl
theorem yXh:zB zD (zD.fn 212) zMW=true:=by kernel_rfl
theorem yXw:zB zD (zD.fn 213) zMv=true:=by kernel_rfl
theorem yWO:zB zD (zD.fn 214) zNh=true:=by kernel_rfl
theorem yYP:zB zD (zD.fn 198) zNc=true:=by kernel_rfl
theorem yXB:zB zD (zD.fn 199) zLO=true:=by kernel_rfl
theorem yWF:zB zD (zD.fn 196) zMw=true:=by kernel_rfl
theorem yYn:zB zD (zD.fn 215) zMK=true:=by kernel_rfl
theorem yXj:zB zD (zD.fn 216) zMg=true:=by kernel_rfl
theorem yZb:zB zD (zD.fn 217) zMH=true:=by kernel_rfl
theorem yZe:zB zD (zD.fn 206) zNo=true:=by kernel_rfl
theorem yXC:zB zD (zD.fn 218) zNd=true:=by kernel_rfl
theorem yYz:zB zD (zD.fn 200) zMD=true:=by kernel_rfl
theorem yYA:zB zD (zD.fn 219) zLV=true:=by kernel_rfl
theorem yZc:zB zD (zD.fn 220) zNg=true:=by kernel_rfl
theorem yXF:zB zD (zD.fn 221) zNs=true:=by kernel_rfl
theorem yWR:zB zD (zD.fn 222) zMd=true:=by kernel_rfl
theorem yXL:zB zD (zD.fn 223) zMT=true:=by kernel_rfl
theorem yXS:zB zD (zD.fn 207) zMq=true:=by kernel_rfl
theorem yXA:zB zD (zD.fn 224) zMF=true:=by kernel_rfl
theorem yZl:zB zD (zD.fn 225) zMy=true:=by kernel_rfl
theorem yCN:wC zD:=⟨yZY,xBL,yXx,yYa,xAg,yWK,yXu,yZi,yZq,yWS⟩
theorem zYG:yZ zD:=⟨yZu,yZt,yYT,yYH,yXH,yYe,yXK,yXb,yZv,yZo,yXQ,yYM,yWL,yYF,yXU,yYU,yWA,yXY,yWZ,yZn,yXk,yYS,yZa,yXy,yXV,yYf,yXP,yYh,yWQ,yXE,yYJ,yXq,yYK,yYG,yWX,yWW,yZD,yXI,yXM,yZm,yYp,yXt,yYl,yYj,yWN⟩
theorem zWX:xH zD:=⟨yXs,yWz,yYy,yWx,yYL,yXp,yWI,yXD,yYc,yZC,yZg,yXW,yZx,yYB,yYx,yXl,yXg,yXo,yXZ,yZE,yZw,yWU,yXh,yXw,yWO,yYP,yXB,yWF,yYn,yXj,yZb,yZe,yXC,yYz,yYA,yZc,yXF,yWR,yXL,yXS,yXA⟩
theorem yUj:yJF zD:=⟨yZl⟩
theorem yWu (h1:∀ (H:Hp) (l:Bs),l.length≤60→yD zD 98 [S l,.int .u8 46] H (.int .i64 (ixI (lastIx 46 l)))) (h2:∀ (H:Hp) (a b:Bs),yD zD 105 [S a,S b] H (.int .i64 (wI a b))):zV zD:=⟨c5T,c9T,xAa,yZW,xAf,yZZ,xAR,xAc,xBo,xAi,xAj,xBu,xAr,xBA,xAJ,xBw,xAu,xBP,xBl,xAl,yZP,yZV,xAq,xAW,xBe,xAw,xBg,xAG,xBf,xBt,xBS,xBd,xAQ,yZN,xAH,yZS,xBK,xAM,xAo,xAZ,xAm,xAO,xBF,xAC,xBr,xBc,xAU,xAE,xBm,xAI,xAh,xBh,xAD,xBa,xBy,xAb,xBR,xAF,xBz,xBD,xAY,xBk,yXN,yZH,yXa,yZy,yYD,xAv,xBq,yWG,xBv,h1,h2⟩
end Go.SL

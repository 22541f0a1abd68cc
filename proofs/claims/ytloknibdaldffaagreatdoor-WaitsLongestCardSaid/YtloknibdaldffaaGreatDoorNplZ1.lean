import Derived.Test.YtloknibdaldffaaGreatDoorProg
import Derived.Test.YtloknibdaldffaaGreatDoorNplO7
import Derived.KernelRfl
namespace Go.SL
open Go
def fnTab : Array Nat := #[0,0,0,0,0,0,0,0,0,0,0,32,0,0,42,124,65,66,0,0,70,71,72,73,0,0,0,0,28,0,129,0,0,0,0,0,0,0,128,117,92,93,94,43,127,20,0,0,19,62,49,180,136,137,138,140,139,95,96,97,98,99,100,101,179,105,106,64,63,67,68,69,29,197,198,0,199,200,201,202,141,142,143,144,145,103,102,44,104,46,156,258,260,259,203,52,205,204,211,312,313,261,108,109,165,166,215,0,0,146,147,148,149,150,151,152,153,154,155,47,48,45,51,50,22,54,53,55,56,57,23,110,111,115,116,112,113,114,24,8,58,119,118,120,121,167,107,157,158,159,160,161,162,163,164,25,27,26,10,59,60,122,123,170,171,172,173,174,175,176,177,178,61,0,0,30,31,12,168,169,2,173,5,4,5,6,7,9,3,11,13,14,15,16,17,18,41,21,33,34,35,36,37,38,39,40,85,86,87,88,89,90,91,135,196,77,78,79,134,80,81,82,83,84,133]
noncomputable def theE : Env := ⟨Go.Proofs.Tryz.prog,fun k => fnTab.getD k 0,fun k => fnTab.getD k 0⟩
theorem c11T : chkFunc theE (theE.fn 11) cf11 = true := by kernel_rfl
theorem c14T : chkFunc theE (theE.fn 14) cf14 = true := by kernel_rfl
theorem c15T : chkFunc theE (theE.fn 15) cf15 = true := by kernel_rfl
theorem c17T : chkFunc theE (theE.fn 17) cf17 = true := by kernel_rfl
theorem c22T : chkFunc theE (theE.fn 22) cf22 = true := by kernel_rfl
theorem c28T : chkFunc theE (theE.fn 28) cf28 = true := by kernel_rfl
theorem c45T : chkFunc theE (theE.fn 45) cf45 = true := by kernel_rfl
theorem c39T : chkFunc theE (theE.fn 39) cf39 = true := by kernel_rfl
theorem c40T : chkFunc theE (theE.fn 40) cf40 = true := by kernel_rfl
theorem c41T : chkFunc theE (theE.fn 41) cf41 = true := by kernel_rfl
theorem c42T : chkFunc theE (theE.fn 42) cf42 = true := by kernel_rfl
theorem c43T : chkFunc theE (theE.fn 43) cf43 = true := by kernel_rfl
theorem c44T : chkFunc theE (theE.fn 44) cf44 = true := by kernel_rfl
theorem c49T : chkFunc theE (theE.fn 49) cf49 = true := by kernel_rfl
theorem c50T : chkFunc theE (theE.fn 50) cf50 = true := by kernel_rfl
theorem c52T : chkFunc theE (theE.fn 52) cf52 = true := by kernel_rfl
theorem c53T : chkFunc theE (theE.fn 53) cf53 = true := by kernel_rfl
theorem c54T : chkFunc theE (theE.fn 54) cf54 = true := by kernel_rfl
theorem c56T : chkFunc theE (theE.fn 56) cf56 = true := by kernel_rfl
theorem c55T : chkFunc theE (theE.fn 55) cf55 = true := by kernel_rfl
theorem c57T : chkFunc theE (theE.fn 57) cf57 = true := by kernel_rfl
theorem c58T : chkFunc theE (theE.fn 58) cf58 = true := by kernel_rfl
theorem c59T : chkFunc theE (theE.fn 59) cf59 = true := by kernel_rfl
theorem c60T : chkFunc theE (theE.fn 60) cf60 = true := by kernel_rfl
theorem c61T : chkFunc theE (theE.fn 61) cf61 = true := by kernel_rfl
theorem c62T : chkFunc theE (theE.fn 62) cf62 = true := by kernel_rfl
theorem c63T : chkFunc theE (theE.fn 63) cf63 = true := by kernel_rfl
theorem c64T : chkFunc theE (theE.fn 64) cf64 = true := by kernel_rfl
theorem c87T : chkFunc theE (theE.fn 87) cf87 = true := by kernel_rfl
theorem c89T : chkFunc theE (theE.fn 89) cf89 = true := by kernel_rfl
theorem c65T : chkFunc theE (theE.fn 65) cf65 = true := by kernel_rfl
theorem c66T : chkFunc theE (theE.fn 66) cf66 = true := by kernel_rfl
theorem c79T : chkFunc theE (theE.fn 79) cf79 = true := by kernel_rfl
theorem c73T : chkFunc theE (theE.fn 73) cf73 = true := by kernel_rfl
theorem c74T : chkFunc theE (theE.fn 74) cf74 = true := by kernel_rfl
theorem c76T : chkFunc theE (theE.fn 76) cf76 = true := by kernel_rfl
theorem c77T : chkFunc theE (theE.fn 77) cf77 = true := by kernel_rfl
theorem c78T : chkFunc theE (theE.fn 78) cf78 = true := by kernel_rfl
theorem c80T : chkFunc theE (theE.fn 80) cf80 = true := by kernel_rfl
theorem c81T : chkFunc theE (theE.fn 81) cf81 = true := by kernel_rfl
theorem c82T : chkFunc theE (theE.fn 82) cf82 = true := by kernel_rfl
theorem c83T : chkFunc theE (theE.fn 83) cf83 = true := by kernel_rfl
theorem c84T : chkFunc theE (theE.fn 84) cf84 = true := by kernel_rfl
theorem c88T : chkFunc theE (theE.fn 88) cf88 = true := by kernel_rfl
theorem c90T : chkFunc theE (theE.fn 90) cf90 = true := by kernel_rfl
theorem c91T : chkFunc theE (theE.fn 91) cf91 = true := by kernel_rfl
theorem c93T : chkFunc theE (theE.fn 93) cf93 = true := by kernel_rfl
theorem c92T : chkFunc theE (theE.fn 92) cf92 = true := by kernel_rfl
theorem c94T : chkFunc theE (theE.fn 94) cf94 = true := by kernel_rfl
theorem c95T : chkFunc theE (theE.fn 95) cf95 = true := by kernel_rfl
theorem c97T : chkFunc theE (theE.fn 97) cf97 = true := by kernel_rfl
theorem c96T : chkFunc theE (theE.fn 96) cf96 = true := by kernel_rfl
theorem c99T : chkFunc theE (theE.fn 99) cf99 = true := by kernel_rfl
theorem c100T : chkFunc theE (theE.fn 100) cf100 = true := by kernel_rfl
theorem c101T : chkFunc theE (theE.fn 101) cf101 = true := by kernel_rfl
theorem c102T : chkFunc theE (theE.fn 102) cf102 = true := by kernel_rfl
theorem c103T : chkFunc theE (theE.fn 103) cf103 = true := by kernel_rfl
theorem c104T : chkFunc theE (theE.fn 104) cf104 = true := by kernel_rfl
theorem e55T : enters theE.P (theE.fn 55) = true := by kernel_rfl
theorem e96T : enters theE.P (theE.fn 96) = true := by kernel_rfl
theorem e104T : enters theE.P (theE.fn 104) = true := by kernel_rfl
theorem e65T : enters theE.P (theE.fn 65) = true := by kernel_rfl
theorem c86T : chkFunc theE (theE.fn 86) cf86 = true := by kernel_rfl
theorem c85T : chkFunc theE (theE.fn 85) cf85 = true := by kernel_rfl
theorem c119T : chkFunc theE (theE.fn 119) cf119 = true := by kernel_rfl
theorem c120T : chkFunc theE (theE.fn 120) cf120 = true := by kernel_rfl
theorem c48T : chkFunc theE (theE.fn 48) cf48 = true := by kernel_rfl
theorem c121T : chkFunc theE (theE.fn 121) cf121 = true := by kernel_rfl
theorem c109T : chkFunc theE (theE.fn 109) cf109 = true := by kernel_rfl
theorem c118T : chkFunc theE (theE.fn 118) cf118 = true := by kernel_rfl
theorem e120T : enters theE.P (theE.fn 120) = true := by kernel_rfl
theorem e121T : enters theE.P (theE.fn 121) = true := by kernel_rfl
theorem c124T : chkFunc theE (theE.fn 124) cf124 = true := by kernel_rfl
theorem c122T : chkFunc theE (theE.fn 122) cf122 = true := by kernel_rfl
theorem c130T : chkFunc theE (theE.fn 130) cf130 = true := by kernel_rfl
theorem c125T : chkFunc theE (theE.fn 125) cf125 = true := by kernel_rfl
theorem c126T : chkFunc theE (theE.fn 126) cf126 = true := by kernel_rfl
theorem c131T : chkFunc theE (theE.fn 131) cf131 = true := by kernel_rfl
theorem c128T : chkFunc theE (theE.fn 128) cf128 = true := by kernel_rfl
theorem c127T : chkFunc theE (theE.fn 127) cf127 = true := by kernel_rfl
theorem c132T : chkFunc theE (theE.fn 132) cf132 = true := by kernel_rfl
theorem c139T : chkFunc theE (theE.fn 139) cf139 = true := by kernel_rfl
theorem c138T : chkFunc theE (theE.fn 138) cf138 = true := by kernel_rfl
theorem c140T : chkFunc theE (theE.fn 140) cf140 = true := by kernel_rfl
theorem c129T : chkFunc theE (theE.fn 129) cf129 = true := by kernel_rfl
theorem c141T : chkFunc theE (theE.fn 141) cf141 = true := by kernel_rfl
theorem c143T : chkFunc theE (theE.fn 143) cf143 = true := by kernel_rfl
theorem c142T : chkFunc theE (theE.fn 142) cf142 = true := by kernel_rfl
theorem c144T : chkFunc theE (theE.fn 144) cf144 = true := by kernel_rfl
theorem c135T : chkFunc theE (theE.fn 135) cf135 = true := by kernel_rfl
theorem c136T : chkFunc theE (theE.fn 136) cf136 = true := by kernel_rfl
theorem c123T : chkFunc theE (theE.fn 123) cf123 = true := by kernel_rfl
theorem c146T : chkFunc theE (theE.fn 146) cf146 = true := by kernel_rfl
theorem c147T : chkFunc theE (theE.fn 147) cf147 = true := by kernel_rfl
theorem c158T : chkFunc theE (theE.fn 158) cf158 = true := by kernel_rfl
theorem c155T : chkFunc theE (theE.fn 155) cf155 = true := by kernel_rfl
theorem c157T : chkFunc theE (theE.fn 157) cf157 = true := by kernel_rfl
theorem c159T : chkFunc theE (theE.fn 159) cf159 = true := by kernel_rfl
theorem c161T : chkFunc theE (theE.fn 161) cf161 = true := by kernel_rfl
theorem c160T : chkFunc theE (theE.fn 160) cf160 = true := by kernel_rfl
theorem c162T : chkFunc theE (theE.fn 162) cf162 = true := by kernel_rfl
theorem c163T : chkFunc theE (theE.fn 163) cf163 = true := by kernel_rfl
theorem c156T : chkFunc theE (theE.fn 156) cf156 = true := by kernel_rfl
theorem c172T : chkFunc theE (theE.fn 172) cf172 = true := by kernel_rfl
theorem c177T : chkFunc theE (theE.fn 177) cf177 = true := by kernel_rfl
theorem e122T : enters theE.P (theE.fn 122) = true := by kernel_rfl
theorem e125T : enters theE.P (theE.fn 125) = true := by kernel_rfl
theorem e131T : enters theE.P (theE.fn 131) = true := by kernel_rfl
theorem e132T : enters theE.P (theE.fn 132) = true := by kernel_rfl
theorem e140T : enters theE.P (theE.fn 140) = true := by kernel_rfl
theorem e141T : enters theE.P (theE.fn 141) = true := by kernel_rfl
theorem e143T : enters theE.P (theE.fn 143) = true := by kernel_rfl
theorem e155T : enters theE.P (theE.fn 155) = true := by kernel_rfl
theorem e172T : enters theE.P (theE.fn 172) = true := by kernel_rfl
theorem c188T : chkFunc theE (theE.fn 188) cf188 = true := by kernel_rfl
theorem c183T : chkFunc theE (theE.fn 183) cf183 = true := by kernel_rfl
theorem c189T : chkFunc theE (theE.fn 189) cf189 = true := by kernel_rfl
theorem c184T : chkFunc theE (theE.fn 184) cf184 = true := by kernel_rfl
theorem c185T : chkFunc theE (theE.fn 185) cf185 = true := by kernel_rfl
theorem c191T : chkFunc theE (theE.fn 191) cf191 = true := by kernel_rfl
theorem c195T : chkFunc theE (theE.fn 195) cf195 = true := by kernel_rfl
theorem c186T : chkFunc theE (theE.fn 186) cf186 = true := by kernel_rfl
theorem c197T : chkFunc theE (theE.fn 197) cf197 = true := by kernel_rfl
theorem c187T : chkFunc theE (theE.fn 187) cf187 = true := by kernel_rfl
theorem c190T : chkFunc theE (theE.fn 190) cf190 = true := by kernel_rfl
theorem c192T : chkFunc theE (theE.fn 192) cf192 = true := by kernel_rfl
theorem c193T : chkFunc theE (theE.fn 193) cf193 = true := by kernel_rfl
theorem c194T : chkFunc theE (theE.fn 194) cf194 = true := by kernel_rfl
theorem c201T : chkFunc theE (theE.fn 201) cf201 = true := by kernel_rfl
theorem c202T : chkFunc theE (theE.fn 202) cf202 = true := by kernel_rfl
theorem c203T : chkFunc theE (theE.fn 203) cf203 = true := by kernel_rfl
theorem c204T : chkFunc theE (theE.fn 204) cf204 = true := by kernel_rfl
theorem c205T : chkFunc theE (theE.fn 205) cf205 = true := by kernel_rfl
theorem c208T : chkFunc theE (theE.fn 208) cf208 = true := by kernel_rfl
theorem c209T : chkFunc theE (theE.fn 209) cf209 = true := by kernel_rfl
theorem c210T : chkFunc theE (theE.fn 210) cf210 = true := by kernel_rfl
theorem c211T : chkFunc theE (theE.fn 211) cf211 = true := by kernel_rfl
theorem c212T : chkFunc theE (theE.fn 212) cf212 = true := by kernel_rfl
theorem c213T : chkFunc theE (theE.fn 213) cf213 = true := by kernel_rfl
theorem c214T : chkFunc theE (theE.fn 214) cf214 = true := by kernel_rfl
theorem c198T : chkFunc theE (theE.fn 198) cf198 = true := by kernel_rfl
theorem c199T : chkFunc theE (theE.fn 199) cf199 = true := by kernel_rfl
theorem c196T : chkFunc theE (theE.fn 196) cf196 = true := by kernel_rfl
theorem c215T : chkFunc theE (theE.fn 215) cf215 = true := by kernel_rfl
theorem c216T : chkFunc theE (theE.fn 216) cf216 = true := by kernel_rfl
theorem c217T : chkFunc theE (theE.fn 217) cf217 = true := by kernel_rfl
theorem c206T : chkFunc theE (theE.fn 206) cf206 = true := by kernel_rfl
theorem c218T : chkFunc theE (theE.fn 218) cf218 = true := by kernel_rfl
theorem c200T : chkFunc theE (theE.fn 200) cf200 = true := by kernel_rfl
theorem c219T : chkFunc theE (theE.fn 219) cf219 = true := by kernel_rfl
theorem c220T : chkFunc theE (theE.fn 220) cf220 = true := by kernel_rfl
theorem c221T : chkFunc theE (theE.fn 221) cf221 = true := by kernel_rfl
theorem c222T : chkFunc theE (theE.fn 222) cf222 = true := by kernel_rfl
theorem c223T : chkFunc theE (theE.fn 223) cf223 = true := by kernel_rfl
theorem c207T : chkFunc theE (theE.fn 207) cf207 = true := by kernel_rfl
theorem c224T : chkFunc theE (theE.fn 224) cf224 = true := by kernel_rfl
theorem codes2T : Codes2 theE := ⟨c86T,c85T,c119T,c120T,c48T,c121T,c109T,c118T,e120T,e121T⟩
theorem codes3T : Codes3 theE := ⟨c124T,c122T,c130T,c125T,c126T,c131T,c128T,c127T,c132T,c139T,c138T,c140T,c129T,c141T,c143T,c142T,c144T,c135T,c136T,c123T,c146T,c147T,c158T,c155T,c157T,c159T,c161T,c160T,c162T,c163T,c156T,c172T,c177T,e122T,e125T,e131T,e132T,e140T,e141T,e143T,e155T,e172T⟩
theorem codes4T : Codes4 theE := ⟨c188T,c183T,c189T,c184T,c185T,c191T,c195T,c186T,c197T,c187T,c190T,c192T,c193T,c194T,c201T,c202T,c203T,c204T,c205T,c208T,c209T,c210T,c211T,c212T,c213T,c214T,c198T,c199T,c196T,c215T,c216T,c217T,c206T,c218T,c200T,c219T,c220T,c221T,c222T,c223T,c207T,c224T⟩
theorem codesT (h1 : ∀ (H : Hp) (l : Bs),l.length ≤ 60 → FnP theE 98 [S l,.int .u8 46] H (.int .i64 (ixI (lastIx 46 l)))) (h2 : ∀ (H : Hp) (a b : Bs),FnP theE 105 [S a,S b] H (.int .i64 (cmpBs a b))) : Codes theE := ⟨c11T,c14T,c15T,c17T,c22T,c28T,c45T,c39T,c40T,c41T,c42T,c43T,c44T,c49T,c50T,c52T,c53T,c54T,c56T,c55T,c57T,c58T,c59T,c60T,c61T,c62T,c63T,c64T,c87T,c89T,c65T,c66T,c79T,c73T,c74T,c76T,c77T,c78T,c80T,c81T,c82T,c83T,c84T,c88T,c90T,c91T,c93T,c92T,c94T,c95T,c97T,c96T,c99T,c100T,c101T,c102T,c103T,c104T,e55T,e96T,e104T,e65T,h1,h2⟩
end Go.SL

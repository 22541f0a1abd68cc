import Derived.Test.YthedjffolgeomaaGreatDoorANplL
import Derived.Test.YthedjffolgeomaaGreatDoorANplM
import Derived.Laws.BitsLemmas
import Derived.Test.YthedjffolgeomaaGreatDoorANplM5
import Derived.Test.YthedjffolgeomaaGreatDoorANplM6
import Derived.Test.YthedjffolgeomaaGreatDoorANplM7
namespace Go.SL
open Go
def yPO : List zA := [
 Jc 4 (.int .i64 0)]
def yNN : List zA := [
 Jm 6 0,Js 7 (.len true (.t 6)),Kb 8 .sub 7 1,Jm 5 8]
def yOK : List zA := [
 Jm 9 5,Kb 10 .geq 9 0]
def yLD : List zA := [
 Jm 13 0,Jm 14 5,Js 15 (.idxs (.t 13) (.t 14)),Jm 16 1,Kc 17 .eql 15 16]
def yIP : List zA := [
 Jm 18 5,Jm 4 18]
def yIN : List zA := [
 Jm 11 5,Kb 12 .sub 11 1,Jm 5 12]
def yIO : List zA := [
 Jc 4 (.int .i64 (-1))]
def yIf : zI := ⟨19, [.slot 4],
  (Jz yPO [0,1] (.seq (Jz yNN [0,1,5] (.block 0 (.loop [0,1,5] (.seq (Jz yOK [0,1,5,10] (.cond (.t 10) .skip (.exit 0))) (.seq (.block 1 (Jz yLD [0,1,5,17] (.cond (.t 17) (Jz yIP [4] .ret) .skip))) (.reg yIN [0,1,5])))))) (Jz yIO [4] .ret)))⟩
def zND : List zA := [
 Jc 10 (.bool true)]
def zRl : List zA := [
 Jc 11 (.bool true)]
def zOh : List zA := [
 Jm 21 2,Jm 22 1,Kc 23 .sub 21 22,Jm 12 23]
def zOL : List zA := [
 Jm 24 12,Kb 25 .leq 24 12]
def zNQ : List zA := [
 Jm 26 0,Jm 27 1,Jm 28 2,Jm 29 4,Jx 30 109 [.t 26,.t 27,.t 28,.t 29]]
def yVP : List zA := [
 Jm 31 3,Kb 32 .eql 31 0]
def yVK : List zA := [
 Jm 33 0,Jm 34 1,Jm 35 2,Jm 36 4,Jx 37 110 [.t 33,.t 34,.t 35,.t 36]]
def yVE : List zA := [
 Jm 38 10,Kn 39 38]
def yVC : List zA := [
 Jm 40 0,Jm 41 1,Jm 42 2,Jm 43 4,Jx 44 111 [.t 40,.t 41,.t 42,.t 43]]
def yWt : List zA := [
 Jm 45 3,Kb 46 .sub 45 1,Jm 3 46]
def yUH : List zA := [
 Jm 48 0,Jm 49 1,Jm 50 2,Jm 51 4,Jx 52 112 [.t 48,.t 49,.t 50,.t 51],Jm 47 52,Ke 53 0 47,Ke 54 1 47,Jm 13 53,Jm 14 54]
def yUR : List zA := [
 Jm 55 14,Kb 56 .eql 55 2]
def yTR : List zA := [
 Jm 57 0,Jm 58 1,Jm 59 2,Jm 60 4,Jx 61 113 [.t 57,.t 58,.t 59,.t 60]]
def yUO : List zA := [
 Jm 62 2,Kb 63 .sub 62 1,Jm 64 13,Jm 65 1,Kc 66 .sub 64 65,Kc 67 .sub 63 66,Jm 13 67]
def yUt : List zA := [
 Jc 14 (.int .i64 1)]
def yTW : List zA := [
 Jm 68 10,Jm 69 68,Ju 70 11 69,Ja 71 69 70,Jm 72 71,Ju 73 14 72,Jt 74 (.bin .eql (.t 73) (.c (.int .i64 1))) 72,Ja 75 72 74]
def yUP : List zA := [
 Jm 76 0,Jm 77 1,Jm 78 2,Jm 79 4,Jx 80 114 [.t 76,.t 77,.t 78,.t 79]]
def yTG : List yU := [
 ⟨0,Jm 81 1,[]⟩,
 ⟨1,Kb 82 .gtr 81 0,[]⟩,
 ⟨2,Jm 83 82,[]⟩,
 ⟨3,Ju 84 4 83,[]⟩,
 ⟨4,Ju 85 0 83,[]⟩,
 ⟨5,Ju 86 1 83,[]⟩,
 ⟨6,Jt 87 (.bin .sub (.t 86) (.c (.int .i64 1))) 83,[]⟩,
 ⟨7,Jt 88 (.idx 2 (.t 85) (.t 87)) 83,[]⟩,
 ⟨8,Jt 89 (.ld (some 2) (.t 88)) 83,[]⟩,
 ⟨9,Ju 90 0 83,[]⟩,
 ⟨10,Ju 91 13 83,[]⟩,
 ⟨11,Jt 92 (.idx 2 (.t 90) (.t 91)) 83,[]⟩,
 ⟨12,Jt 93 (.ld (some 2) (.t 92)) 83,[]⟩,
 ⟨13,⟨some 94,.callv (.t 84) [.t 89,.t 93],(some (83,true))⟩,[]⟩,
 ⟨14,Jt 95 (.bin .lss (.t 94) (.c (.int .i64 0))) 83,[]⟩,
 ⟨15,Jt 96 (.not (.t 95)) 83,[]⟩,
 ⟨16,Ja 97 83 96,[]⟩]
def yTM : List zA := [
 Jm 98 0,Jm 99 1,Jm 100 2,Jm 101 13,Jm 102 4,Jx 103 115 [.t 98,.t 99,.t 100,.t 101,.t 102],Jm 15 103]
def yTT : List zA := [
 Jm 104 15,Jm 1 104]
def yUl : List zA := [
 Jm 106 0,Jm 107 1,Jm 108 2,Jm 109 13,Jm 110 4,Jx 111 116 [.t 106,.t 107,.t 108,.t 109,.t 110],Jm 105 111,Ke 112 0 105,Ke 113 1 105,Jm 16 112,Jm 17 113]
def yUi : List zA := [
 Jm 114 17,Jm 11 114]
def yUV : List zA := [
 Jm 115 16,Jm 116 1,Kc 117 .sub 115 116,Jm 118 2,Jm 119 16,Kc 120 .sub 118 119,Jm 18 117,Jm 19 120]
def yUy : List zA := [
 Jm 121 12,Kb 122 .quo 121 8,Jm 20 122]
def yUD : List zA := [
 Jm 123 18,Jm 124 19,Kc 125 .lss 123 124]
def yUm : List zA := [
 Jm 126 18,Jm 127 20,Kc 128 .geq 126 127,Jm 10 128]
def yVa : List zA := [
 Jm 129 0,Jm 130 1,Jm 131 16,Jm 132 3,Jm 133 4,Jx 134 86 [.t 129,.t 130,.t 131,.t 132,.t 133]]
def yUr : List zA := [
 Jm 135 16,Kb 136 .add 135 1,Jm 1 136]
def yTX : List zA := [
 Jm 137 19,Jm 138 20,Kc 139 .geq 137 138,Jm 10 139]
def yUg : List zA := [
 Jm 140 0,Jm 141 16,Kb 142 .add 141 1,Jm 143 2,Jm 144 3,Jm 145 4,Jx 146 86 [.t 140,.t 142,.t 143,.t 144,.t 145]]
def yUE : List zA := [
 Jm 147 16,Jm 2 147]
def zJL : zI := ⟨148, [],
  (Jz zND [0,1,2,3,4,10] (Jz zRl [0,1,2,3,4,10,11] (.block 0 (.loop [0,1,2,3,4,10,11] (.block 1 (Jz zOh [0,1,2,3,4,10,11,12] (.seq (Jz zOL [0,1,2,3,4,10,11,12,25] (.cond (.t 25) (Jz zNQ [] .ret) .skip)) (.seq (Jz yVP [0,1,2,3,4,10,11,12,32] (.cond (.t 32) (Jz yVK [] .ret) .skip)) (.seq (Jz yVE [0,1,2,3,4,10,11,12,39] (.cond (.t 39) (Jz yVC [0,1,2,3,4,10,11,12] (.reg yWt [0,1,2,3,4,10,11,12])) .skip)) (Jz yUH [0,1,2,3,4,10,11,12,13,14] (.seq (Jz yUR [0,1,2,3,4,10,11,12,13,14,56] (.cond (.t 56) (Jz yTR [0,1,2,3,4,10,11,12,13] (Jz yUO [0,1,2,3,4,10,11,12,13] (.reg yUt [0,1,2,3,4,10,11,12,13,14]))) .skip)) (.seq (Jz yTW [0,1,2,3,4,10,11,12,13,75] (.cond (.t 75) (Jz yUP [0,1,2,3,4,10,11,12,13,80] (.cond (.t 80) .ret .skip)) .skip)) (.seq (.seq (.regd yTG [0,1,2,3,4,10,11,12,13,97]) (.cond (.t 97) (Jz yTM [0,2,3,4,10,11,15] (Jz yTT [0,1,2,3,4,10,11] (.exit 1))) .skip)) (Jz yUl [0,1,2,3,4,12,16,17] (Jz yUi [0,1,2,3,4,11,12,16] (Jz yUV [0,1,2,3,4,11,12,16,18,19] (Jz yUy [0,1,2,3,4,11,16,18,19,20] (Jz yUD [0,1,2,3,4,11,16,18,19,20,125] (.cond (.t 125) (Jz yUm [0,1,2,3,4,10,11,16] (Jz yVa [0,2,3,4,10,11,16] (.reg yUr [0,1,2,3,4,10,11]))) (Jz yTX [0,1,2,3,4,10,11,16] (Jz yUg [0,1,3,4,10,11,16] (.reg yUE [0,1,2,3,4,10,11]))))))))))))))))))))))⟩
def yPo : List zA := [
 Jc 2 (.int .i64 0)]
def yJp : List zA := [
 Jm 3 0,Js 4 (.cvi .u32 (.t 3)),Jx 5 117 [.t 4],Jm 2 5]
def yNz : List zA := [
 Jm 6 0,Jx 7 118 [.t 6],Jm 2 7]
def yId : zI := ⟨8, [.slot 2],
  (Jz yPo [0] (.seq (.cond (.c (.bool false)) (Jz yJp [2] .ret) .skip) (Jz yNz [2] .ret)))⟩
def zVH : List zA := [
 Jc 4 (.slice none 0 0)]
def zYr : List zA := [
 ⟨some 10,.mkmap none,none⟩,Jm 5 10]
def yFx : List zA := [
 Jc 6 (.slice none 0 0)]
def yAZ : List zA := [
 Jm 11 0,Je 12 11,Jc 13 (.int .i64 0)]
def zUi : List zA := [
 Kc 14 .lss 13 12]
def yBV : List zA := [
 Ji 15 5 11 13,Jk 16 5 15,Js 8 (.new [.int .i64 0,.int .i64 0,.int .i64 0,.string ⟨#[]⟩,.slice none 0 0]),Jw 5 8 16]
def yEl : List zA := [
 Jm 17 1,Jk 18 5 8,
 ⟨some 19,.callv (.t 17) [.t 18],none⟩,Jm 9 19]
def zUQ : List zA := [
 Jm 20 5,Jm 21 9,
 ⟨some 22,.look false [.s] (.bool false) false (.t 20) (.t 21),none⟩,Kn 23 22]
def zUx : List zA := [
 Jm 24 5,Jm 25 9,
 ⟨none,.upd false [.s] (.t 24) (.t 25) (.c (.bool true)),none⟩]
def zVP : List zA := [
 Jm 26 6,Jm 27 9,
 ⟨some 28,.mksl 1 1 [.string ⟨#[]⟩] [(0,1,.t 27)],none⟩,
 ⟨some 29,.app 1 16 [.string ⟨#[]⟩] (.t 26) (.t 28),none⟩,Jm 6 29]
def zOK : List zA := [
 Kb 30 .add 13 1,Jm 13 30]
def zQg : List zA := [
 Jm 31 6,Jm 4 31]
def zLJ : zI := ⟨32, [.slot 4],
  (Jz zVH [0,1] (Jz zYr [0,1,5] (Jz yFx [0,1,5,6] (.seq (Jz yAZ [1,5,6,11,12,13] (.block 0 (.loop [1,5,6,11,12,13] (Jz zUi [1,5,6,11,12,13,14] (.seq (.cond (.t 14) .skip (.exit 0)) (.seq (.block 1 (Jz yBV [1,5,6,8,11,12,13] (Jz yEl [1,5,6,9,11,12,13] (Jz zUQ [1,5,6,9,11,12,13,23] (.cond (.t 23) (Jz zUx [1,5,6,9,11,12,13] (.reg zVP [1,5,6,11,12,13])) .skip))))) (.reg zOK [1,5,6,11,12,13]))))))) (Jz zQg [4] .ret)))))⟩
def zWq : List zA := [
 Kx 1 0,Jc 2 (.string ⟨#[]⟩)]
def zZi : List zA := [
 Jf 3 3 1,Jf 4 0 3,Jl 5 4,Jm 2 5]
def zLT : zI := ⟨6, [.slot 2],
  (Jz zWq [1] (Jz zZi [2] .ret))⟩
end Go.SL
/- What an environment must be: its functions have the codes; rules for loops. -/
namespace Go.SL
open Go
structure zX (E : Env) : Prop where
 c11:zB E (E.fn 11) yHR=true
 c14:zB E (E.fn 14) yGF=true
 c15:zB E (E.fn 15) yIo=true
 c17:zB E (E.fn 17) yHt=true
 c22:zB E (E.fn 22) yHJ=true
 c28:zB E (E.fn 28) yGx=true
 c45:zB E (E.fn 45) yGM=true
 c39:zB E (E.fn 39) yHw=true
 c40:zB E (E.fn 40) yIv=true
 c41:zB E (E.fn 41) yIi=true
 c42:zB E (E.fn 42) yGL=true
 c43:zB E (E.fn 43) yGG=true
 c44:zB E (E.fn 44) yHl=true
 c46:zB E (E.fn 46) yHk=true
 c47:zB E (E.fn 47) yHG=true
 c49:zB E (E.fn 49) yHV=true
 c50:zB E (E.fn 50) yHD=true
 c52:zB E (E.fn 52) yHL=true
 c53:zB E (E.fn 53) yHQ=true
 c54:zB E (E.fn 54) yGU=true
 c56:zB E (E.fn 56) yHn=true
 c55:zB E (E.fn 55) yHr=true
 c57:zB E (E.fn 57) yGB=true
 c58:zB E (E.fn 58) yIs=true
 c59:zB E (E.fn 59) yHK=true
 c60:zB E (E.fn 60) yHo=true
 c61:zB E (E.fn 61) yGS=true
 c62:zB E (E.fn 62) yHe=true
 c63:zB E (E.fn 63) yGQ=true
 c64:zB E (E.fn 64) yHC=true
 c87:zB E (E.fn 87) zJK=true
 c89:zB E (E.fn 89) yGV=true
 c65:zB E (E.fn 65) yHj=true
 c66:zB E (E.fn 66) yIg=true
 c79:zB E (E.fn 79) yGW=true
 c73:zB E (E.fn 73) yHH=true
 c74:zB E (E.fn 74) yGX=true
 c76:zB E (E.fn 76) yGE=true
 c77:zB E (E.fn 77) yIn=true
 c78:zB E (E.fn 78) yHh=true
 c80:zB E (E.fn 80) yHS=true
 c81:zB E (E.fn 81) yHa=true
 c82:zB E (E.fn 82) yIm=true
 c83:zB E (E.fn 83) yGH=true
 c84:zB E (E.fn 84) yHq=true
 c88:zB E (E.fn 88) yIu=true
 c90:zB E (E.fn 90) yGA=true
 c91:zB E (E.fn 91) yIp=true
 c93:zB E (E.fn 93) yIx=true
 c92:zB E (E.fn 92) yIj=true
 c94:zB E (E.fn 94) yIC=true
 c95:zB E (E.fn 95) yHx=true
 c97:zB E (E.fn 97) yHg=true
 c96:zB E (E.fn 96) yGO=true
 c99:zB E (E.fn 99) yGY=true
 c100:zB E (E.fn 100) zLK=true
 c101:zB E (E.fn 101) zMN=true
 c102:zB E (E.fn 102) zME=true
 c103:zB E (E.fn 103) zMQ=true
 c104:zB E (E.fn 104) zLB=true
 e55:enters E.P (E.fn 55)=true
 e96:enters E.P (E.fn 96)=true
 e104:enters E.P (E.fn 104)=true
 e65:enters E.P (E.fn 65)=true
 lastIx:∀ (H:Hp) (l:Bs),l.length≤60→yB E 98 [S l,.int .u8 46] H (.int .i64 (ixI (lastIx 46 l)))
 cmpStr:∀ (H:Hp) (a b:Bs),yB E 105 [S a,S b] H (.int .i64 (wJ a b))
section
variable {E:Env} {fr:Fr} {H:Hp} {Q:X→Fr→Hp→Prop} {K:List Item}
def LG (live:List Nat) (n k:Nat) (F:Nat→Fr) (P:Nat→Prop) (H0:Hp) (fr:Fr) (H:Hp):Prop:=k < n∧fr.keep live=F (k + 1)∧H=H0∧P (k + 1)
theorem yZb {live:List Nat} {n k:Nat} {F:Nat→Fr} {P:Nat→Prop} {H0:Hp}:LG live n k F P H0 fr H=(k < n∧fr.keep live=F (k + 1)∧H=H0∧P (k + 1)):=rfl
def LP (live:List Nat) (n k:Nat) (I:Nat→Fr→Hp→Prop) (fr:Fr) (H:Hp):Prop:=k < n∧I (k + 1) (fr.keep live) H
theorem yZR {live:List Nat} {n k:Nat} {I:Nat→Fr→Hp→Prop}:LP live n k I fr H=(k < n∧I (k + 1) (fr.keep live) H):=rfl
def LM (live:List Nat) (m:Nat) (I:Nat→Fr→Hp→Prop) (fr:Fr) (H:Hp):Prop:=∃ m',m' < m∧I m' (fr.keep live) H
theorem yZa {live:List Nat} {m:Nat} {I:Nat→Fr→Hp→Prop}:LM live m I fr H=(∃ m',m' < m∧I m' (fr.keep live) H):=rfl
theorem pZ {live : List Nat} {c : vM} (I : Nat → Fr → Hp → Prop) (m0 : Nat) (h0 : I m0 (fr.keep live) H)
  (h:∀ m fr' H',I m fr' H'→zS E (.code c :: .goal (LM live m I) :: K) fr' H' Q) :
  zS E (.code (.loop live c) :: K) fr H Q:=zIs I m0 h0 h
def ySn (E : Env) (res : List pT) (Q : Value → Hp → Prop) (e : X) (fr : Fr) (H : Hp) : Prop := match e with
 | .exit _=>False
 | _=>zCu E fr H res∧Q (zBF E fr H res) H
theorem yST {res:List pT} {R:Value→Hp→Prop}:ySn E res R .ret fr H=(zCu E fr H res∧R (zBF E fr H res) H):=rfl
theorem yRl {res:List pT} {R:Value→Hp→Prop}:ySn E res R .nrm fr H=(zCu E fr H res∧R (zBF E fr H res) H):=rfl
theorem Fn.of_vks {f : FuncId} {af : zI} {args : List Value} {R : Value → Hp → Prop} (hc : zB E f af = true) (hl : args.length ≤ af.nt)
  (h:zS E [.code af.body] (zBC 0 args) H (ySn E af.res R)):Fn E.P f args H R :=
 Fn.of_vc hc hl (qQ (fun e _ _ h=>by cases e<;>exact h) (yJP h))
theorem yK {live : List Nat} {c : vM} (n k0 : Nat) (I : Nat → Fr → Hp → Prop) (hk : k0 ≤ n) (h0 : I k0 (fr.keep live) H)
  (h:∀ k fr' H',k≤n→I k fr' H'→zS E (.code c :: .goal (LP live n k I) :: K) fr' H' Q) :
  zS E (.code (.loop live c) :: K) fr H Q:=by
 refine zIs (fun m fr' H'=>∃ k,k≤n∧m=n - k∧I k fr' H') (n - k0) ⟨k0,hk,rfl,h0⟩ ?_
 rintro m fr' H' ⟨k,hk,rfl,hi⟩
 have:=h k fr' H' hk hi
 simp only [zS] at this ⊢
 refine qQ (fun e fr H h=>?_) this
 cases e with
 | nrm =>
  have h:k < n∧I (k + 1) (fr.keep live) H:=h
  exact⟨n - (k + 1),by omega,k + 1,by omega,rfl,h.2⟩
 | exit id=>simpa [uU] using h
 | ret=>simpa [uU] using h
theorem zT {live : List Nat} {c : vM} (n k0 : Nat) (F : Nat → Fr) (P : Nat → Prop) (hk : k0 ≤ n) (h0 : fr.keep live = F k0) (hP : P k0)
  (h:∀ k,k≤n→P k→zS E (.code c :: .goal (LG live n k F P H) :: K) (F k) H Q) :
  zS E (.code (.loop live c) :: K) fr H Q:=by
 refine yK n k0 (fun k fr' H'=>fr'=F k∧H'=H∧P k) hk ⟨h0,rfl,hP⟩ ?_
 rintro k fr' H' hk ⟨rfl,rfl,hp⟩
 exact h k hk hp
theorem yIr:H.le H=True:=eq_true (Hp.le.refl H)
theorem yB.intro {f:Nat} {args:List Value} {v:Value} (h:Fn E.P (E.fn f) args H fun u H'=>u=v∧H.le H'):yB E f args H v:=h
theorem zLC {n:Nat} (h:n≤1099511627777):IntKind.i64.wrap ((n:Nat):Int)=(n:Int):=by rw [IntKind.wrap_i64]; omega
theorem zR {n:Nat} (h:n≤1099511627776):IntKind.i64.wrap ((n:Int) + 1)=((n + 1:Nat):Int):=by rw [IntKind.wrap_i64]; omega
theorem yZ {n:Int} (h : -9223372036854775808≤n∧n≤9223372036854775807):IntKind.i64.wrap n=n:=by rw [IntKind.wrap_i64]; omega
theorem yXa (l:Bs) (i:Nat):(((l.getD i 0).toNat:Nat):Int)=bI l i:=rfl
theorem Fn.same {f : Nat} {args : List Value} {v : Value} (h : yB E f args H v) : Fn E.P (E.fn f) args H fun u H' => u = v ∧ H' = H := fun w hw =>
 (h w hw).mono fun _ _ ⟨u,H',he,hs,hk,hu,hl⟩=>⟨u,H,he,hs.le hl,⟨hk.os,hk.tape,hk.output,hk.size,hk.same,fun b o hb=>.inl (by rw [hb]; simp),fun b hb ht=>⟨(hk.shape b hb ht).1,ht⟩⟩,hu,rfl⟩
theorem yVR (a b:Bool):(!a || b) = !(a && !b):=by cases a<;>cases b<;>rfl
theorem toNat_ofNat' (n:Nat):((n:Int)).toNat=n:=Int.toNat_natCast n
end
end Go.SL
/- Rules for what is laid, stored, ranged over. -/
namespace Go.SL
open Go
section
variable {E:Env} {fr:Fr} {H:Hp} {Q:X→Fr→Hp→Prop} {k:List Item} {d:Option Nat} {r:List zA} {live:List Nat}
theorem yL (H:Hp) (b:Nat) (o:xI) (c:Nat):(H.put b o) c=if c=b then some o else H c:=rfl
theorem yRd {zero : List Value} : zS E (.ops (⟨d, .newH zero, none⟩ :: r) live :: k) fr H Q =
  (∀ b,H b=none→zS E (.ops r live :: k) (setD fr d ⟨true,.val (.pointer (some ⟨b,0,none⟩))⟩) (H.put b (.row zero zero.length true)) Q):=by
 simp [zS,kE,vI,qA,yY,xU]
theorem ySA {x : Arg} : zS E (.ops (⟨d, .boxH x, none⟩ :: r) live :: k) fr H Q =
  (vok fr x∧∀ b,H b=none→zS E (.ops r live :: k) (setD fr d ⟨true,.val (.pointer (some ⟨b,0,none⟩))⟩) (H.put b (.row (vo E fr x).cells.toList (vo E fr x).cells.toList.length true)) Q):=by
 simp [zS,kE,vI,qA,yY,xU]
theorem yVi {n : Nat} {x v : Arg} : zS E (.ops (⟨d, .st n x v, none⟩ :: r) live :: k) fr H Q =
  (pok fr x ∧ vok fr v ∧ (vo E fr v).cells.toList.length = n ∧ (vo E fr v).cells.toList.all yV = true ∧
   (match pvo E fr x with
    | .lp s o => (match fr.get s with
     | some ⟨true,.box vs⟩=>o + n≤vs.length∧zS E (.ops r live :: k) (setD (fr.upb s (xC vs o (vo E fr v).cells.toList)) d ⟨true,.val undef⟩) H Q
     | _=>False)
    | .val (.pointer (some a)) => a.spot = none ∧ (match H a.block with
     | some (.row vs cap true)=>a.off + n≤vs.length∧zS E (.ops r live :: k) (setD fr d ⟨true,.val undef⟩) (H.put a.block (.row (xC vs a.off (vo E fr v).cells.toList) cap true)) Q
     | _=>False)
    | _=>False)):=by
 simp [zS,kE,vI,qA,yY,xU]
 all_goals (intros; exact Iff.rfl)
theorem yRI {size len : Nat} {zero : List Value} {parts : List (Nat × Nat × Arg)} : zS E (.ops (⟨d, .mksl size len zero parts, none⟩ :: r) live :: k) fr H Q =
  (zAL E fr zero.length parts∧∀ b,H b=none→zS E (.ops r live :: k) (setD fr d ⟨true,.val (.slice (some ⟨b,0,none⟩) len len)⟩) (H.put b (.row (qH E fr zero parts) zero.length true)) Q):=by
 simp [zS,kE,vI,qA,yY,xU]
theorem yHs : zS E (.ops (⟨d, .mkmap none, none⟩ :: r) live :: k) fr H Q =
  (∀ b,H b=none→zS E (.ops r live :: k) (setD fr d ⟨true,.val (.map (some b))⟩) (H.put b (.obj (.map #[] 0))) Q):=by
 simp [zS,kE,vI,qA,yY,xU]
theorem yWo {size bytes : Nat} {zero : List Value} {l c : Arg} : zS E (.ops (⟨d, .mk size bytes zero l c, none⟩ :: r) live :: k) fr H Q =
  (vok fr l∧vok fr c∧(match vo E fr l,vo E fr c with
  | .int _ p, .int _ q => 0 ≤ p ∧ p ≤ q ∧ bytes * q ≤ 140737488355328 ∧ q ≤ 4611686018427387904 ∧
    ∀ b,H b=none→zS E (.ops r live :: k) (setD fr d ⟨true,.val (.slice (some ⟨b,0,none⟩) p.toNat q.toNat)⟩) (H.put b (.row (rep zero p.toNat) (q.toNat * size) true)) Q
  | _,_=>False)):=by
 simp [zS,kE,vI,qA,yY,xU]
 all_goals (intros; exact Iff.rfl)
theorem yRA {m : Arg} : zS E (.ops (⟨d, .mlen m, none⟩ :: r) live :: k) fr H Q =
  (vok fr m∧(match vo E fr m with
  | .map none=>zS E (.ops r live :: k) (setD fr d ⟨true,.val (.int .i64 0)⟩) H Q
  | .map (some b) => (match H b with
   | some (.obj (.map es _))=>zS E (.ops r live :: k) (setD fr d ⟨true,.val (.int .i64 es.size)⟩) H Q
   | _=>False)
  | _=>False)):=by
 simp [zS,kE,vI,qA,yY,xU]
 all_goals (intros; exact Iff.rfl)
theorem zAM {f : Arg} {ps : List Nat} {ops : List zA} {lv : List Nat} {body : vM} (G : Hp) (S : List (List Value) → Prop) (Inv : List (List Value) → Hp → Prop)
  (h1:vok fr f) (h2:zFD (vo E fr f)) (hI:Iter E (vo E fr f) G S) (hl:∀ xs,S xs→∀ x∈xs,x.length=ps.length) (h0:Inv [] H) (hG:∀ pre H,Inv pre H→G.le H)
  (hb : ∀ pre x H', (∃ suf, S (pre ++ x :: suf)) → Inv pre H' →
   zS E [.ops ops lv,.code body,.goal (fun _ H''=>Inv (pre ++ [x]) H'')] (zAV fr.vals ps x) H' (fun e _ H''=>uU E k e fr H'' Q))
  (hend:∀ xs H',S xs→Inv xs H'→zS E k fr H' Q) :
  zS E (.code (.rangeF f ps (.reg ops lv) body) :: k) fr H Q:=by
 simp only [zS,vc]
 refine⟨h1,h2,G,S,hI,hl,Inv,h0,hG,fun pre x H' hs hi=>?_,hend⟩
 have:=hb pre x H' hs hi
 simp only [zS,uU] at this
 refine zHW (fun fr' H'' h=>⟨trivial,?_⟩) this
 refine qQ (fun e fr3 H3 h=>?_) h
 cases e<;>exact h
theorem xM {i f : Nat} {args : List Arg} {ls : List Nat} {p q : List yU} {g : Option (Nat × Bool)} (v : Value) (h0 : qA fr g)
  (h1:yY fr g=true→kA fr args∧yB E f (args.map (vo E fr)) H v) (hs:pX E (setD fr d ⟨yY fr g,.val v⟩) H ls p)
  (h:zS E (.opd (⟨i,⟨d,.callp f args,g⟩,ls⟩ :: p) q live :: k) (setD fr d ⟨yY fr g,.val v⟩) H Q) :
  zS E (.opd p (⟨i,⟨d,.callp f args,g⟩,ls⟩ :: q) live :: k) fr H Q:=by
 simp only [zCm,vI]
 exact⟨h0,v,h1,hs,h⟩
theorem zFQ {i : Nat} {x : Arg} {args : List Arg} {ls : List Nat} {p q : List yU} {R : Value → Hp → Prop} (h0 : vok fr x) (h0' : kA fr args) (h1 : FnV E (vo E fr x) (args.map (vo E fr)) H R)
  (h:∀ v H',R v H'→pX E (setD fr d ⟨true,.val v⟩) H' ls p∧zS E (.opd (⟨i,⟨d,.callv x args,none⟩,ls⟩ :: p) q live :: k) (setD fr d ⟨true,.val v⟩) H' Q) :
  zS E (.opd p (⟨i,⟨d,.callv x args,none⟩,ls⟩ :: q) live :: k) fr H Q:=by
 simp only [zCm,vI,qA,yY,xU]
 exact⟨trivial,fun _=>⟨h0,h0',R,h1,h⟩,fun e=>by cases e⟩
theorem zEp {i f : Nat} {args : List Arg} {ls : List Nat} {p q : List yU} {R : Value → Hp → Prop} (h0 : kA fr args) (h1 : Fn E.P (E.fn f) (args.map (vo E fr)) H R)
  (h:∀ v H',R v H'→pX E (setD fr d ⟨true,.val v⟩) H' ls p∧zS E (.opd (⟨i,⟨d,.call f args,none⟩,ls⟩ :: p) q live :: k) (setD fr d ⟨true,.val v⟩) H' Q) :
  zS E (.opd p (⟨i,⟨d,.call f args,none⟩,ls⟩ :: q) live :: k) fr H Q:=by
 simp only [zCm,vI,qA,yY,xU]
 exact⟨trivial,fun _=>⟨h0,R,h1,h⟩,fun e=>by cases e⟩
theorem qY {i : Nat} {op : pB} {ls : List Nat} {p q : List yU} {g : Option (Nat × Bool)} (hop : ∀ x, op ≠ .sim x) (hop' : ∀ f a, op ≠ .callp f a) (h0 : qA fr g)
  (h1:yY fr g=true→xU E op d fr H (fun fr' H'=>pX E fr' H' ls p∧zS E (.opd (⟨i,⟨d,op,g⟩,ls⟩ :: p) q live :: k) fr' H' Q))
  (h2:yY fr g=false→pX E (setD fr d ⟨false,.val undef⟩) H ls p∧zS E (.opd (⟨i,⟨d,op,g⟩,ls⟩ :: p) q live :: k) (setD fr d ⟨false,.val undef⟩) H Q) :
  zS E (.opd p (⟨i,⟨d,op,g⟩,ls⟩ :: q) live :: k) fr H Q:=by
 simp only [zCm,vI]
 cases op<;>first | exact absurd rfl (hop _) | exact absurd rfl (hop' _ _) | exact⟨h0,h1,h2⟩
theorem zEh {i size len : Nat} {zero : List Value} {parts : List (Nat × Nat × Arg)} {ls : List Nat} {p q : List yU} : zS E (.opd p (⟨i, ⟨d, .mksl size len zero parts, none⟩, ls⟩ :: q) live :: k) fr H Q =
  (zAL E fr zero.length parts∧∀ b,H b=none→pX E (setD fr d ⟨true,.val (.slice (some ⟨b,0,none⟩) len len)⟩) (H.put b (.row (qH E fr zero parts) zero.length true)) ls p∧zS E (.opd (⟨i,⟨d,.mksl size len zero parts,none⟩,ls⟩ :: p) q live :: k) (setD fr d ⟨true,.val (.slice (some ⟨b,0,none⟩) len len)⟩) (H.put b (.row (qH E fr zero parts) zero.length true)) Q):=by
 simp [zCm,vI,qA,yY,xU]
theorem yP {f : Nat} {first cap : Array Value} {args : List Value} {R : Value → Hp → Prop} (he : enters E.P (E.fn f) = true) (h : Fn E.P (E.fn f) (first.toList ++ args ++ cap.toList) H R) :
  FnV E (.func (.func (E.fn f)) first cap) args H R:=fun w hw=>⟨he,h w hw⟩
theorem zRq {l : List Bs} {pre suf : List (List Value)} {x : List Value} (h : pre ++ x :: suf = l.map (fun x => [S x])) :
  pre.length < l.length∧x = [S (l.getD pre.length [])]∧l.drop pre.length=l.getD pre.length [] :: l.drop (pre.length + 1):=by
 have hlen:=congrArg List.length h
 simp only [List.length_append,List.length_cons,List.length_map] at hlen
 have hlt:pre.length < l.length:=by omega
 have hx:(pre ++ x :: suf)[pre.length]? = some x:=by simp
 rw [h] at hx
 simp only [List.getElem?_map,List.getElem?_eq_getElem hlt,Option.map_some,Option.some.injEq] at hx
 refine⟨hlt,?_,?_⟩
 ·rw [← hx,List.getD_eq_getElem?_getD,List.getElem?_eq_getElem hlt]; rfl
 ·rw [List.drop_eq_getElem_cons hlt,List.getD_eq_getElem?_getD,List.getElem?_eq_getElem hlt]; rfl
theorem yWu (a:List Value) (b:Nat) (c:Bool):(∃ vs cap wr,xI.row a b c=xI.row vs cap wr)=True:=eq_true ⟨_,_,_,rfl⟩
theorem yTk (s:ByteArray):yV (.string s)=true:=rfl
theorem ySu (k:IntKind) (n:Int):yV (.int k n)=true:=rfl
theorem yPa (b:Bool):yV (.bool b)=true:=rfl
theorem yHd (a:Option Addr) (n c:Nat):yV (.slice a n c)=true:=rfl
theorem yRz (a:Option Addr):yV (.pointer a)=true:=rfl
theorem yOT (f:Go.Fn) (a b:Array Value):yV (.func f a b)=true:=rfl
theorem yRq (a:Option Nat):yV (.map a)=true:=rfl
theorem zG.one {sz n : Nat} {v : Value} {row : Nat → List Value} (h : zG H sz v n row) : yV v = true := by
 obtain⟨a,cap,rfl,_⟩:=h; rfl
theorem yA {c a b : Arg} {y : Bool} (hc : vo E fr c = .bool false) (hb : vo E fr b = .bool y) : xN E fr H (.pick c a b) = .val (.bool y) := by
 simp only [xN,hc,hb]
 cases vo E fr a<;>rfl
theorem yQ {c a b : Arg} {y : Bool} (hc : vo E fr c = .bool true) (ha : vo E fr a = .bool y) : xN E fr H (.pick c a b) = .val (.bool y) := by
 simp only [xN,hc,ha]
 cases vo E fr b<;>rfl
theorem zAJ {H:Hp} {b c:Nat} {o:xI} (hb:H b=some o) (hc:H c=none):b≠c:=by rintro rfl; rw [hb] at hc; cases hc
end
end Go.SL
/- Rules: maps with guards, drawn stores. -/
namespace Go.SL
open Go
section
variable {E:Env} {fr:Fr} {H:Hp} {Q:X→Fr→Hp→Prop} {k:List Item} {d:Option Nat} {r:List zA} {live:List Nat} {κ ν:Type} [DecidableEq κ]
theorem zEH (a b:Bs):uX false [.s] (S a) (S b)=some (decide (a=b)):=by simp [uX,pA,Bool.beq_eq_decide_eq]
theorem yRR (a b:Int):uX false [.i] (.int .i64 a) (.int .i64 b)=some (decide (a=b)):=by simp [uX,pA,Bool.beq_eq_decide_eq]
theorem zOy (a b : zBy) : uX true [.i, .s] (.agg #[.int .i64 a.1, S a.2]) (.agg #[.int .i64 b.1, S b.2]) = some (decide (a = b)) := by
 simp only [uX,zBG,if_true,allEq,pA]
 simp [Prod.ext_iff,Bool.beq_eq_decide_eq]
theorem zBw {op : pB} {g : Option (Nat × Bool)} (hop : ∀ x, op ≠ .sim x) (hop' : ∀ f a, op ≠ .callp f a) (h0 : qA fr g) (hg : yY fr g = false)
  (h:zS E (.ops r live :: k) (setD fr d ⟨false,.val undef⟩) H Q):zS E (.ops (⟨d,op,g⟩ :: r) live :: k) fr H Q:=by
 simp only [zS,kE,vI] at h ⊢
 refine⟨h0,?_⟩
 cases op<;>first | exact absurd rfl (hop _) | exact absurd rfl (hop' _ _) | exact⟨fun h=>(by rw [hg] at h; cases h),fun _=>h⟩
theorem zAr {op : pB} {g : Option (Nat × Bool)} (hop : ∀ x, op ≠ .sim x) (hop' : ∀ f a, op ≠ .callp f a) (h0 : qA fr g) (hg : yY fr g = true)
  (h:zS E (.ops (⟨d,op,none⟩ :: r) live :: k) fr H Q):zS E (.ops (⟨d,op,g⟩ :: r) live :: k) fr H Q:=by
 simp only [zS,kE,vI] at h ⊢
 refine⟨h0,?_⟩
 have h:=h.2
 cases op<;>first | exact absurd rfl (hop _) | exact absurd rfl (hop' _ _) | exact⟨fun _=>h.1 rfl,fun h=>(by rw [hg] at h; cases h)⟩
theorem jW {i n : Nat} {x v : Arg} {ls : List Nat} {p q : List yU} : zS E (.opd p (⟨i, ⟨d, .st n x v, none⟩, ls⟩ :: q) live :: k) fr H Q =
  (pok fr x ∧ vok fr v ∧ (vo E fr v).cells.toList.length = n ∧ (vo E fr v).cells.toList.all yV = true ∧
   (match pvo E fr x with
    | .lp s o => (match fr.get s with
     | some ⟨true,.box vs⟩=>o + n≤vs.length∧pX E (setD (fr.upb s (xC vs o (vo E fr v).cells.toList)) d ⟨true,.val undef⟩) H ls p∧zS E (.opd (⟨i,⟨d,.st n x v,none⟩,ls⟩ :: p) q live :: k) (setD (fr.upb s (xC vs o (vo E fr v).cells.toList)) d ⟨true,.val undef⟩) H Q
     | _=>False)
    | .val (.pointer (some a)) => a.spot = none ∧ (match H a.block with
     | some (.row vs cap true)=>a.off + n≤vs.length∧pX E (setD fr d ⟨true,.val undef⟩) (H.put a.block (.row (xC vs a.off (vo E fr v).cells.toList) cap true)) ls p∧zS E (.opd (⟨i,⟨d,.st n x v,none⟩,ls⟩ :: p) q live :: k) (setD fr d ⟨true,.val undef⟩) (H.put a.block (.row (xC vs a.off (vo E fr v).cells.toList) cap true)) Q
     | _=>False)
    | _=>False)):=by
 simp [zCm,vI,qA,yY,xU]
 all_goals (intros; exact Iff.rfl)
theorem yUh {i size bytes : Nat} {zero : List Value} {l c : Arg} {ls : List Nat} {p q : List yU} : zS E (.opd p (⟨i, ⟨d, .mk size bytes zero l c, none⟩, ls⟩ :: q) live :: k) fr H Q =
  (vok fr l∧vok fr c∧(match vo E fr l,vo E fr c with
  | .int _ p', .int _ q' => 0 ≤ p' ∧ p' ≤ q' ∧ bytes * q' ≤ 140737488355328 ∧ q' ≤ 4611686018427387904 ∧
    ∀ b, H b = none → pX E (setD fr d ⟨true, .val (.slice (some ⟨b, 0, none⟩) p'.toNat q'.toNat)⟩) (H.put b (.row (rep zero p'.toNat) (q'.toNat * size) true)) ls p ∧
     zS E (.opd (⟨i,⟨d,.mk size bytes zero l c,none⟩,ls⟩ :: p) q live :: k) (setD fr d ⟨true,.val (.slice (some ⟨b,0,none⟩) p'.toNat q'.toNat)⟩) (H.put b (.row (rep zero p'.toNat) (q'.toNat * size) true)) Q
  | _,_=>False)):=by
 simp [zCm,vI,qA,yY,xU]
 all_goals (intros; exact Iff.rfl)
end
theorem map_nil {ν:Type} {κ:Type} {H:Hp} {b:Nat} (enc:κ→Value) (encv:ν→Value):uI (H.put b (.obj (.map #[] 0))) b (([]:List (κ × ν)).map fun e=>(enc e.1,encv e.2)):=⟨#[],0,Hp.put_same ..,rfl⟩
theorem zGv (z : Value) (n i : Nat) : (rep [z] n)[i]? = if i < n then some z else none := by
 induction n generalizing i with
 | zero=>simp [rep]
 | succ n ih =>
  simp only [rep,List.singleton_append]
  cases i with
  | zero=>simp
  | succ i=>simp [ih]
end Go.SL
/- Reads that are skipped: their values do not matter. -/
namespace Go.SL
open Go
def ldV (E : Env) (fr : Fr) (H : Hp) (n : Option Nat) (x : Arg) : Value := match xN E fr H (.ld n x) with
 | .val v=>v
 | _=>undef
def yVT (E : Env) (fr : Fr) (H : Hp) (n : Nat) (x i : Arg) : Value := match xN E fr H (.idx n x i) with
 | .val v=>v
 | _=>undef
theorem vU {E : Env} {fr : Fr} {H : Hp} {n : Option Nat} {x : Arg} : xN E fr H (.ld n x) = .val (ldV E fr H n x) := by
 simp only [ldV,xN]
 cases vZ fr H (pvo E fr x)<;>rfl
theorem vH {E : Env} {fr : Fr} {H : Hp} {n : Nat} {x i : Arg} : xN E fr H (.idx n x i) = .val (yVT E fr H n x i) := by
 simp only [yVT,xN]
 split<;>rfl
end Go.SL
/- Rules: the length of a map; memories with several new blocks; first index. -/
namespace Go.SL
open Go
theorem yOV {E : Env} {fr : Fr} {H : Hp} {Q : X → Fr → Hp → Prop} {k : List Item} {d : Option Nat} {r : List zA} {live : List Nat} {m : Arg} {b : Nat} {l : List (Value × Value)} (h1 : vok fr m) (hm : vo E fr m = .map (some b)) (hM : uI H b l)
  (h:zS E (.ops r live :: k) (setD fr d ⟨true,.val (.int .i64 l.length)⟩) H Q):zS E (.ops (⟨d,.mlen m,none⟩ :: r) live :: k) fr H Q:=by
 obtain⟨es,cl,hH,rfl⟩:=hM
 rw [yRA]
 refine⟨h1,?_⟩
 rw [hm]
 simp only [hH]
 simpa using h
theorem yQQ (H : Hp) {b c : Nat} (o o' p : xI) (h : b ≠ c) : ((H.put b o).put c p).put b o' = (H.put b o').put c p := by
 funext x
 simp only [Hp.put]
 by_cases h1:x=b
 ·subst h1; simp [h]
 ·simp [h1]
def qK (P : Nat → Bool) : Nat → Int
 | 0=>-1
 | n + 1=>if qK P n≥0 then qK P n else if P n then n else -1
theorem yIl (P : Nat → Bool) (n : Nat) : qK P n ≥ 0 ↔ wM P n = true := by
 induction n with
 | zero=>simp [qK,wM]
 | succ n ih =>
  have e:wM P (n + 1)=(wM P n || P n):=rfl
  have e2:qK P (n + 1)=if qK P n≥0 then qK P n else if P n then (n:Int) else -1:=rfl
  rw [e,e2,Bool.or_eq_true,← ih]
  by_cases h:qK P n≥0
  ·rw [if_pos h]; exact⟨.inl,fun _=>h⟩
  ·rw [if_neg h]
   by_cases hp:P n=true
   ·rw [if_pos hp]; exact⟨fun _=>.inr hp,fun _=>by omega⟩
   ·rw [if_neg hp]; exact⟨fun h=>absurd h (by omega),fun h'=>h'.elim (fun x=>absurd x h) (fun x=>absurd x hp)⟩
theorem yIa (P : Nat → Bool) (n : Nat) : decide (qK P n ≥ 0) = wM P n := by
 rw [Bool.eq_iff_iff,decide_eq_true_eq]; exact yIl P n
theorem zSI {P : Nat → Bool} {k n : Nat} (h : qK P k = -1) (hp : P k = true) (hk : k < n) : qK P n = k := by
 induction n with
 | zero=>omega
 | succ n ih =>
  simp only [qK]
  by_cases e:k=n
  ·subst e; simp [h,hp]
  ·rw [ih (by omega),if_pos (by omega)]
theorem zSn {P:Nat→Bool} {k:Nat} (h:qK P k = -1) (hp:P k=false):qK P (k + 1) = -1:=by simp [qK,h,hp]
theorem yTc {P : Nat → Bool} {n : Nat} : (!wM (fun i => !P i) n) = zP P n := by
 induction n with
 | zero=>rfl
 | succ n ih=>simp only [wM,zP,← ih,Bool.not_or,Bool.not_not]
end Go.SL
/- Appending, cloning. -/
namespace Go.SL
open Go
section
variable {E:Env} {fr:Fr} {H:Hp} {Q:X→Fr→Hp→Prop} {k:List Item} {d:Option Nat} {r:List zA} {live:List Nat}
theorem zAl {size bytes n cap0 b0 capc : Nat} {zero : List Value} {s x : Arg} {vs : List Value} (h1 : vok fr s) (h2 : vok fr x) (h3 : pG H size (vo E fr x)) (h4 : (zN H size (vo E fr x)).all yV = true)
  (hs:vo E fr s = .slice (some ⟨b0,0,none⟩) n cap0) (h5:(n + zV (vo E fr x)) * bytes≤140737488355328) (h6:n + zV (vo E fr x)≤4611686018427387904) (hb:H b0=some (.row vs capc true)) (h7:vs.length=n * size) (h8:capc=cap0 * size)
  (h:∀ b cap,(H.del b0) b=none→zS E (.ops r live :: k) (setD fr d ⟨true,.val (.slice (some ⟨b,0,none⟩) (n + zV (vo E fr x)) cap)⟩) ((H.del b0).put b (.row (vs ++ zN H size (vo E fr x)) (cap * size) true)) Q) :
  zS E (.ops (⟨d,.app size bytes zero s x,none⟩ :: r) live :: k) fr H Q:=by
 simp only [zS,kE,vI,qA,yY,xU] at h ⊢
 refine⟨trivial,fun _=>⟨h1,h2,h3,h4,?_⟩,fun e=>by cases e⟩
 simp only [hs,hb]
 exact⟨h5,h6,h7,h8,h⟩
theorem zDy {size bytes : Nat} {zero : List Value} {s x : Arg} (h1 : vok fr s) (h2 : vok fr x) (h3 : pG H size (vo E fr x)) (h4 : (zN H size (vo E fr x)).all yV = true)
  (hs:vo E fr s = .slice none 0 0) (h5:zV (vo E fr x) * bytes≤140737488355328) (h6:zV (vo E fr x)≤4611686018427387904)
  (h7:zV (vo E fr x)=0→zS E (.ops r live :: k) (setD fr d ⟨true,.val (.slice none 0 0)⟩) H Q)
  (h:0 < zV (vo E fr x)→∀ b cap,H b=none→zS E (.ops r live :: k) (setD fr d ⟨true,.val (.slice (some ⟨b,0,none⟩) (zV (vo E fr x)) cap)⟩) (H.put b (.row (zN H size (vo E fr x)) (cap * size) true)) Q) :
  zS E (.ops (⟨d,.app size bytes zero s x,none⟩ :: r) live :: k) fr H Q:=by
 simp only [zS,kE,vI,qA,yY,xU] at h h7 ⊢
 refine⟨trivial,fun _=>⟨h1,h2,h3,h4,?_⟩,fun e=>by cases e⟩
 simp only [hs]
 exact⟨h5,h6,h7,h⟩
end
theorem zUw {H : Hp} {b : Nat} (h : H b = none) (o : xI) : (H.put b o).del b = H := by
 funext c
 simp only [Hp.del,Hp.put]
 by_cases e:c=b
 ·subst e; simp [h]
 ·simp [e]
def flat (n:Nat) (row:Nat→List Value):List Value:=((List.range n).map row).flatten
theorem vT (n:Nat) (row:Nat→List Value):flat (n + 1) row=flat n row ++ row n:=by simp [flat,List.range_succ]
theorem xS {n sz : Nat} {row : Nat → List Value} (h : ∀ i, i < n → (row i).length = sz) : (flat n row).length = n * sz := by
 induction n with
 | zero=>simp [flat]
 | succ n ih =>
  rw [vT,List.length_append,ih (fun i hi=>h i (by omega)),h n (by omega),Nat.succ_mul]
theorem pK {n sz : Nat} {row : Nat → List Value} (h : ∀ i, i < n → (row i).length = sz) : ∀ i, i < n → ((flat n row).drop (i * sz)).take sz = row i := by
 induction n with
 | zero=>intro i hi; omega
 | succ n ih =>
  intro i hi
  rw [vT]
  have hl:=xS (n:=n) (fun i hi=>h i (by omega))
  by_cases e:i=n
  ·subst e
   rw [List.drop_append_of_le_length (by omega),List.drop_of_length_le (by omega),List.nil_append,List.take_of_length_le (by rw [h i (by omega)]; omega)]
  ·have hlt:i < n:=by omega
   have h1 : i * sz + sz ≤ n * sz := by
    have:=Nat.mul_le_mul_right sz (show i + 1≤n by omega)
    rw [Nat.succ_mul] at this; exact this
   rw [List.drop_append_of_le_length (by omega),List.take_append_of_le_length (by rw [List.length_drop]; omega)]
   exact ih (fun i hi=>h i (by omega)) i hlt
theorem zIf {n : Nat} {row : Nat → List Value} (h : ∀ i, i < n → (row i).all yV = true) : (flat n row).all yV = true := by
 induction n with
 | zero=>simp [flat]
 | succ n ih=>rw [vT,List.all_append,ih (fun i hi=>h i (by omega)),h n (by omega)]; rfl
theorem zIa {n sz : Nat} {row : Nat → List Value} {cs : List Value} (hl : cs.length = n * sz) (h : ∀ i, i < n → (cs.drop (i * sz)).take sz = row i) : cs = flat n row := by
 induction n generalizing cs with
 | zero=>simp at hl; simp [hl,flat]
 | succ n ih =>
  rw [Nat.succ_mul] at hl
  rw [vT,← ih (cs:=cs.take (n * sz)) (by rw [List.length_take]; omega),← h n (by omega)]
  ·rw [List.take_of_length_le (l:=cs.drop (n * sz)) (by rw [List.length_drop]; omega),List.take_append_drop]
  ·intro i hi
   have h1 : i * sz + sz ≤ n * sz := by
    have:=Nat.mul_le_mul_right sz (show i + 1≤n by omega)
    rw [Nat.succ_mul] at this; exact this
   rw [List.drop_take,List.take_take,Nat.min_eq_left (by omega)]
   exact h i (by omega)
theorem zG.src {H : Hp} {sz n : Nat} {v : Value} {row : Nat → List Value} (h : zG H sz v n row) : pG H sz v ∧ zV v = n ∧ zN H sz v = flat n row := by
 obtain⟨a,cap,rfl,hs,hr⟩:=h
 cases a with
 | none =>
  have hn : n = 0 := by
   cases n with
   | zero=>rfl
   | succ n=>obtain⟨b,o,vs,c,wr,ha,_⟩:=hr (by omega); cases ha
  subst hn
  exact⟨rfl,rfl,rfl⟩
 | some p =>
  cases n with
  | zero =>
   refine⟨.inl rfl,rfl,?_⟩
   simp only [zN]
   split<;>simp [flat]
  | succ m =>
  obtain⟨b,o,vs,c',wr',ha,h2,hi⟩:=hr (by omega)
  cases ha
  have hlen : o + (m + 1) * sz ≤ vs.length ∧ ∀ i, i < m + 1 → (vs.drop (o + i * sz)).take sz = row i := by
   have:=(hi m (by omega)).1
   refine⟨by rw [Nat.succ_mul]; omega,fun i h=>(hi i h).2⟩
  refine⟨.inr ⟨rfl,by rw [h2]; exact hlen.1⟩,rfl,?_⟩
  simp only [zN,h2]
  apply zIa (sz:=sz)
  ·rw [List.length_take,List.length_drop]; omega
  ·intro i hi
   have h1 : i * sz + sz ≤ (m + 1) * sz := by
    have:=Nat.mul_le_mul_right sz (show i + 1≤m + 1 by omega)
    rw [Nat.succ_mul] at this; exact this
   rw [List.drop_take,List.take_take,Nat.min_eq_left (by omega),List.drop_drop]
   exact hlen.2 i hi
def zFe (H : Hp) (sz n : Nat) (row : Nat → List Value) (u : Value) (H' : Hp) : Prop :=
 (u = .slice none 0 0∧n=0∧H'=H)∨∃ b cap,H b=none∧u = .slice (some ⟨b,0,none⟩) n cap∧H'=H.put b (.row (flat n row) (cap * sz) true)
theorem zFe.le {H H' : Hp} {sz n : Nat} {row : Nat → List Value} {u : Value} (h : zFe H sz n row u H') : H.le H' := by
 rcases h with⟨_,_,rfl⟩ | ⟨b,cap,hb,_,rfl⟩
 ·exact Hp.le.refl _
 ·exact zJ hb _
theorem zG.ofRow {H : Hp} {sz n cap c : Nat} {row : Nat → List Value} {b : Nat} {wr : Bool} (h : ∀ i, i < n → (row i).length = sz) (hb : H b = some (.row (flat n row) c wr)) : zG H sz (.slice (some ⟨b, 0, none⟩) n cap) n row := by
 refine⟨_,_,rfl,(fun h=>by cases h),fun _=>⟨b,0,_,_,_,rfl,hb,fun i hi=>⟨?_,?_⟩⟩⟩
 ·have h1 : i * sz + sz ≤ n * sz := by
   have:=Nat.mul_le_mul_right sz (show i + 1≤n by omega)
   rw [Nat.succ_mul] at this; exact this
  rw [xS h]; omega
 ·rw [Nat.zero_add]; exact pK h i hi
theorem zFe.at {H H' : Hp} {sz n : Nat} {row : Nat → List Value} {u : Value} (hl : ∀ i, i < n → (row i).length = sz) (h : zFe H sz n row u H') : zG H' sz u n row := by
 rcases h with⟨rfl,rfl,rfl⟩ | ⟨b,cap,hb,rfl,rfl⟩
 ·exact zG.nil
 ·exact zG.ofRow hl (Hp.put_same ..)
end Go.SL
/- Writing into rows. -/
namespace Go.SL
open Go
theorem xW {n : Nat} {row row' : Nat → List Value} (h : ∀ i, i < n → row i = row' i) : flat n row = flat n row' := by
 induction n with
 | zero=>rfl
 | succ n ih=>rw [vT,vT,ih (fun i hi=>h i (by omega)),h n (by omega)]
theorem yRB {n sz : Nat} {row : Nat → List Value} (h : ∀ i, i < n → (row i).length = sz) {i j : Nat} (hi : i < n) (hj : j < sz) (x : Value) :
  (flat n row).set (i * sz + j) x=flat n (fun i'=>if i'=i then (row i).set j x else row i'):=by
 induction n with
 | zero=>omega
 | succ n ih =>
  have hl:=xS (n:=n) (fun i hi=>h i (by omega))
  rw [vT,vT,List.set_append]
  by_cases e:i=n
  ·subst e
   rw [if_neg (by rw [hl]; omega),hl,Nat.add_sub_cancel_left]
   simp only [if_true]
   congr 1
   exact xW fun i' h'=>by rw [if_neg (by omega)]
  ·have h1 : i * sz + sz ≤ n * sz := by
    have:=Nat.mul_le_mul_right sz (show i + 1≤n by omega)
    rw [Nat.succ_mul] at this; exact this
   rw [if_pos (by rw [hl]; omega),ih (fun i hi=>h i (by omega)) (by omega),if_neg (by omega)]
theorem yTK {l : List Value} {p : Nat} (h : p < l.length) (x : Value) : l.take p ++ [x] ++ l.drop (p + 1) = l.set p x := by
 rw [List.set_eq_take_append_cons_drop,if_pos h,List.append_assoc]; rfl
theorem zAQ {n sz : Nat} {row : Nat → List Value} (h : ∀ i, i < n → (row i).length = sz) {i j : Nat} (hi : i < n) (hj : j < sz) (x : Value) :
  (flat n row).take (i * sz + j) ++ [x] ++ (flat n row).drop (i * sz + j + 1)=flat n (fun i'=>if i'=i then (row i).set j x else row i'):=by
 have h1 : i * sz + sz ≤ n * sz := by
  have:=Nat.mul_le_mul_right sz (show i + 1≤n by omega)
  rw [Nat.succ_mul] at this; exact this
 rw [yTK (by rw [xS h]; omega),yRB h hi hj]
theorem yQm {n sz : Nat} {row : Nat → List Value} (h : ∀ i, i < n → (row i).length = sz) {i j : Nat} (hi : i < n) (hj : j < sz) : (flat n row).getD (i * sz + j) undef = (row i).getD j undef :=
 zK (pK h i hi) hj
def yX (f:Nat→Value) (k:Nat) (x:Value):Nat→Value:=fun i=>if i=k then x else f i
theorem zRP (H : Hp) (b : Nat) : (H.del b).le H := fun c o h => by
 simp only [Hp.del] at h
 split at h
 ·cases h
 ·exact h
theorem zEO {H H' : Hp} {b : Nat} (hb : H b = none) (h : H.le H') : H.le (H'.del b) := fun c o hc => by
 simp only [Hp.del]
 rw [if_neg (by rintro rfl; rw [hb] at hc; cases hc)]
 exact h c o hc
end Go.SL
/- Lists of copies that are being built; a call in a larger memory. -/
namespace Go.SL
open Go
theorem Fn.frame {P : Program} {f : FuncId} {args : List Value} {G H : Hp} {Q : Value → Hp → Prop} (h : Fn P f args G Q) (hle : G.le H) :
  Fn P f args H (fun u H''=>∃ H2,Q u H2∧H2.le H''∧∀ c o,H c=some o→G c=none→H2 c=none∧H'' c=some o):=by
 intro w hw
 refine(h w (hw.le hle)).mono ?_
 rintro e w' ⟨v,H2,he,hs,hk,hq⟩
 have hG : ∀ c, H c = none → G c = none := fun c hc => by
  cases hx:G c with
  | none=>rfl
  | some o=>rw [hle c o hx] at hc; cases hc
 refine⟨v,fun c=>match H2 c with | some o=>some o | none=>if G c=none then H c else none,he,?_,?_,H2,hq,?_,?_⟩
 ·intro b o hb
  simp only at hb
  cases h2:H2 b with
  | some o'=>rw [h2] at hb; simp only at hb; cases hb; exact hs b o h2
  | none =>
   rw [h2] at hb
   simp only at hb
   split at hb
   ·rename_i hg
    rw [hk.same b (hw.lt hb) hg]
    exact hw b o hb
   ·cases hb
 ·refine ⟨hk.os, hk.tape, hk.output, hk.size, fun b hb h0 => hk.same b hb (hG b h0), fun b o hb => ?_, fun b hb ht => by
   have hs2:=hk.shape b hb (fun hx=>ht (hx.le hle))
   refine⟨hs2.1,fun hx=>?_⟩
   cases h2:H2 b with
   | some o=>simp only [h2] at hx; exact hs2.2 (by rw [h2]; exact hx)
   | none =>
    simp only [h2] at hx
    split at hx
    ·exact ht hx
    ·exact hx.elim⟩
  cases h2:H2 b with
  | some o' =>
   rcases hk.fresh b o' h2 with hx | hx
   ·exact .inl fun h0=>hx (hG b h0)
   ·exact .inr hx
  | none =>
   rw [h2] at hb
   simp only at hb
   split at hb
   ·exact .inl (by rw [hb]; simp)
   ·cases hb
 ·intro c o hc
  simp only [hc]
 ·intro c o hc hg
  have hn : H2 c = none := by
   cases h2:H2 c with
   | none=>rfl
   | some o' =>
    rcases hk.fresh c o' h2 with hx | hx
    ·exact absurd hg hx
    ·exact absurd (hw.lt hc) (Nat.not_lt.2 hx)
  exact⟨hn,by simp only [hn,hg,if_true]; exact hc⟩
def zJO (H0 G H : Hp) (v : Value) (L : List wG) : Prop :=
 ∃ z, H0.le G ∧ G.le H ∧ (∀ i, i < L.length → xT G (z i) (L.getD i default).sets) ∧
  ((v = .slice none 0 0∧L = [])∨∃ b cap,G b=none∧v = .slice (some ⟨b,0,none⟩) L.length cap∧H b=some (.row (flat L.length (zDn L z)) (cap * 3) true))
def Bld (H0 H : Hp) (v : Value) (L : List wG) : Prop :=
 ∃ G z, H0.le G ∧ G.le H ∧ (∀ i, i < L.length → xT G (z i) (L.getD i default).sets) ∧
  ((v = .slice none 0 0∧L = [])∨∃ b cap,G b=none∧v = .slice (some ⟨b,0,none⟩) L.length cap∧H b=some (.row (flat L.length (zDn L z)) (cap * 3) true))
theorem zSF (L:List wG) (z:Nat→Value) (i:Nat):(zDn L z i).length=3:=rfl
theorem Bld.puts {H0 H : Hp} {v : Value} {L : List wG} (h : Bld H0 H v L) : pS H v L := by
 obtain⟨G,z,h1,h2,h3,h4⟩:=h
 refine⟨z,?_,fun i hi=>(h3 i hi).mono h2⟩
 rcases h4 with⟨rfl,rfl⟩ | ⟨b,cap,hb,rfl,hH⟩
 ·exact zG.nil
 ·exact zG.ofRow (fun i _=>zSF L z i) hH
theorem Bld.put {H0 H : Hp} {v : Value} {L : List wG} {c : Nat} {o : xI} (h : Bld H0 H v L) (hc : H c = none) : Bld H0 (H.put c o) v L := by
 obtain⟨G,z,h1,h2,h3,h4⟩:=h
 refine⟨G,z,h1,h2.trans (zJ hc _),h3,?_⟩
 rcases h4 with h4 | ⟨b,cap,hb,hv,hH⟩
 ·exact .inl h4
 ·exact .inr ⟨b,cap,hb,hv,zJ hc _ _ _ hH⟩
section
variable {E:Env} {fr:Fr} {Q:X→Fr→Hp→Prop} {k:List Item} {d:Option Nat} {r:List zA} {live:List Nat}
end
theorem zJO.put {H0 G H : Hp} {v : Value} {L : List wG} {c : Nat} {o : xI} (h : zJO H0 G H v L) (hc : H c = none) : zJO H0 G (H.put c o) v L := by
 obtain⟨z,h1,h2,h3,h4⟩:=h
 refine⟨z,h1,h2.trans (zJ hc _),h3,?_⟩
 rcases h4 with h4 | ⟨b,cap,hb,hv,hH⟩
 ·exact .inl h4
 ·exact .inr ⟨b,cap,hb,hv,zJ hc _ _ _ hH⟩
theorem zJO.frame {H0 G H H2 H' : Hp} {v : Value} {L : List wG} (h : zJO H0 G H v L) (h1 : G.le H2) (h2 : H2.le H') (h3 : ∀ c o, H c = some o → G c = none → H2 c = none ∧ H' c = some o) : zJO H0 H2 H' v L := by
 obtain⟨z,g1,g2,g3,g4⟩:=h
 refine⟨z,g1.trans h1,h2,fun i hi=>(g3 i hi).mono h1,?_⟩
 rcases g4 with g4 | ⟨b,cap,hb,hv,hH⟩
 ·exact .inl g4
 ·have:=h3 b _ hH hb
  exact .inr ⟨b,cap,this.1,hv,this.2⟩
end Go.SL
/- The codes of the further functions. -/
namespace Go.SL
open Go
structure xZ (E : Env) : Prop where
 c86:zB E (E.fn 86) zJL=true
 c85:zB E (E.fn 85) yId=true
 c119:zB E (E.fn 119) zLJ=true
 c120:zB E (E.fn 120) zLT=true
 c48:zB E (E.fn 48) yGN=true
 c121:zB E (E.fn 121) zMd=true
 c109:zB E (E.fn 109) zHm=true
 c118:zB E (E.fn 118) zNe=true
 e120:enters E.P (E.fn 120)=true
 e121:enters E.P (E.fn 121)=true
end Go.SL
/- The codes of further functions. -/
namespace Go.SL
open Go
structure yW (E : Env) : Prop where
 c124:zB E (E.fn 124) zLN=true
 c122:zB E (E.fn 122) zMe=true
 c130:zB E (E.fn 130) zMt=true
 c125:zB E (E.fn 125) zLZ=true
 c126:zB E (E.fn 126) zNr=true
 c131:zB E (E.fn 131) zMg=true
 c128:zB E (E.fn 128) zNn=true
 c127:zB E (E.fn 127) zLD=true
 c132:zB E (E.fn 132) zMZ=true
 c139:zB E (E.fn 139) zLx=true
 c138:zB E (E.fn 138) zNm=true
 c140:zB E (E.fn 140) zLv=true
 c129:zB E (E.fn 129) zLQ=true
 c141:zB E (E.fn 141) zMq=true
 c143:zB E (E.fn 143) zLA=true
 c142:zB E (E.fn 142) zMc=true
 c144:zB E (E.fn 144) zLP=true
 c135:zB E (E.fn 135) zMD=true
 c136:zB E (E.fn 136) zMS=true
 c123:zB E (E.fn 123) zHa=true
 c146:zB E (E.fn 146) zHh=true
 c147:zB E (E.fn 147) zHq=true
 c158:zB E (E.fn 158) zNp=true
 c155:zB E (E.fn 155) zMB=true
 c157:zB E (E.fn 157) zNb=true
 c159:zB E (E.fn 159) zMy=true
 c161:zB E (E.fn 161) zNk=true
 c160:zB E (E.fn 160) zHt=true
 c162:zB E (E.fn 162) zHf=true
 c163:zB E (E.fn 163) zHn=true
 c156:zB E (E.fn 156) zMr=true
 c172:zB E (E.fn 172) zMW=true
 c177:zB E (E.fn 177) zLw=true
 e122:enters E.P (E.fn 122)=true
 e125:enters E.P (E.fn 125)=true
 e131:enters E.P (E.fn 131)=true
 e132:enters E.P (E.fn 132)=true
 e140:enters E.P (E.fn 140)=true
 e141:enters E.P (E.fn 141)=true
 e143:enters E.P (E.fn 143)=true
 e155:enters E.P (E.fn 155)=true
 e172:enters E.P (E.fn 172)=true
end Go.SL
/- The codes of further functions. -/
namespace Go.SL
open Go
structure xH (E : Env) : Prop where
 c183:zB E (E.fn 183) zMO=true
 c189:zB E (E.fn 189) zMC=true
 c184:zB E (E.fn 184) zNi=true
 c185:zB E (E.fn 185) zMX=true
 c191:zB E (E.fn 191) zLF=true
 c195:zB E (E.fn 195) zMs=true
 c186:zB E (E.fn 186) zNs=true
 c197:zB E (E.fn 197) zLW=true
 c190:zB E (E.fn 190) zML=true
 c192:zB E (E.fn 192) zMu=true
 c193:zB E (E.fn 193) zLS=true
 c194:zB E (E.fn 194) zMJ=true
 c201:zB E (E.fn 201) zNg=true
 c202:zB E (E.fn 202) zMx=true
 c203:zB E (E.fn 203) zMT=true
 c204:zB E (E.fn 204) zMM=true
 c205:zB E (E.fn 205) zMh=true
 c208:zB E (E.fn 208) zMY=true
 c209:zB E (E.fn 209) zLy=true
 c210:zB E (E.fn 210) zLL=true
 c211:zB E (E.fn 211) zLR=true
 c212:zB E (E.fn 212) zLE=true
 c213:zB E (E.fn 213) zMo=true
 c214:zB E (E.fn 214) zLG=true
 c198:zB E (E.fn 198) zNh=true
 c199:zB E (E.fn 199) zMF=true
 c196:zB E (E.fn 196) zMH=true
 c215:zB E (E.fn 215) zLU=true
 c216:zB E (E.fn 216) zMn=true
 c217:zB E (E.fn 217) zLO=true
 c206:zB E (E.fn 206) zMz=true
 c218:zB E (E.fn 218) zLt=true
 c200:zB E (E.fn 200) zMG=true
 c219:zB E (E.fn 219) zMp=true
 c220:zB E (E.fn 220) zLu=true
 c221:zB E (E.fn 221) zMf=true
 c222:zB E (E.fn 222) zMa=true
 c223:zB E (E.fn 223) zMK=true
 c207:zB E (E.fn 207) zNj=true
 c224:zB E (E.fn 224) zLV=true
end Go.SL
/- The codes of further functions. -/
namespace Go.SL
open Go
structure uJ (E : Env) : Prop where
 c227:zB E (E.fn 227) zMk=true
 c226:zB E (E.fn 226) zMR=true
 c229:zB E (E.fn 229) zLI=true
 c231:zB E (E.fn 231) zNa=true
 c230:zB E (E.fn 230) zMm=true
 c233:zB E (E.fn 233) zMw=true
 c234:zB E (E.fn 234) zMU=true
 c228:zB E (E.fn 228) zNf=true
 c235:zB E (E.fn 235) zLX=true
 c236:zB E (E.fn 236) zMv=true
 c237:zB E (E.fn 237) zLM=true
 c238:zB E (E.fn 238) zLz=true
 c239:zB E (E.fn 239) zMV=true
 c242:zB E (E.fn 242) zMl=true
 c232:zB E (E.fn 232) zNd=true
 c244:zB E (E.fn 244) zMb=true
 c245:zB E (E.fn 245) zNq=true
 c246:zB E (E.fn 246) zMi=true
 e231:enters E.P (E.fn 231)=true
 e233:enters E.P (E.fn 233)=true
 e234:enters E.P (E.fn 234)=true
 e242:enters E.P (E.fn 242)=true
 e244:enters E.P (E.fn 244)=true
end Go.SL
/- Small rules that several texts use. -/
namespace Go.SL
open Go
variable {E:Env} {H:Hp}
section
variable {fr:Fr} {Q:X→Fr→Hp→Prop} {k:List Item} {d:Option Nat} {r:List zA} {live:List Nat}
theorem qO {op : pB} (hop : ∀ x, op ≠ .sim x) (hop' : ∀ f a, op ≠ .callp f a) (h : xU E op d fr H (fun fr' H' => zS E (.ops r live :: k) fr' H' Q)) : zS E (.ops (⟨d, op, none⟩ :: r) live :: k) fr H Q := by
 simp only [zS,kE,vI,qA,yY]
 cases op<;>first | exact absurd rfl (hop _) | exact absurd rfl (hop' _ _) | exact⟨trivial,fun _=>(by simpa only [zS] using h),fun h=>by cases h⟩
end
theorem zGU (i:Decidable False) : @decide False i=false:=by cases i<;>first | rfl | (rename_i h; exact h.elim)
theorem zIk (i:Decidable True) : @decide True i=true:=by cases i<;>first | rfl | (rename_i h; exact(h trivial).elim)
theorem w01:IntKind.i64.wrap (0 + 1)=1:=by decide
theorem pS.one {H:Hp} {v:Value} {ps:List wG} (h:pS H v ps):yV v=true:=by obtain⟨z,h,_⟩:=h; exact zG.one h
theorem zG.lit {H : Hp} {b n cap sz c : Nat} {vs : List Value} {wr : Bool} {row : Nat → List Value} (hb : H b = some (.row vs c wr)) (h : ∀ i, i < n → i * sz + sz ≤ vs.length ∧ (vs.drop (i * sz)).take sz = row i) :
  zG H sz (.slice (some ⟨b,0,none⟩) n cap) n row :=
 ⟨_,_,rfl,(fun h=>by cases h),fun _=>⟨b,0,vs,c,wr,rfl,hb,fun i hi=>by rw [Nat.zero_add]; exact h i hi⟩⟩
theorem pS.nil0 {H:Hp}:pS H (.slice none 0 0) []:=⟨fun _=>undef,zG.nil,fun i hi=>by simp at hi⟩
theorem qN.sl {v:Value} {hs:List qT} (h:qN H v hs):∃ a c,v = .slice a hs.length c:=by obtain⟨a,c,h,_⟩:=h; exact⟨a,c,h⟩
theorem zG.sl {sz n:Nat} {v:Value} {row:Nat→List Value} (h:zG H sz v n row):∃ a c,v = .slice a n c:=by obtain⟨a,c,h,_⟩:=h; exact⟨a,c,h⟩
end Go.SL

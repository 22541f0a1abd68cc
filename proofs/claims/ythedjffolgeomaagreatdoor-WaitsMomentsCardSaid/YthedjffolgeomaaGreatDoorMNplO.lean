import Derived.Test.YthedjffolgeomaaGreatDoorMNplL
import Derived.Test.YthedjffolgeomaaGreatDoorMNplM
import Derived.Laws.BitsLemmas
import Derived.Test.YthedjffolgeomaaGreatDoorMNplM5
import Derived.Test.YthedjffolgeomaaGreatDoorMNplM6
import Derived.Test.YthedjffolgeomaaGreatDoorMNplM7
namespace Go.SL
open Go
def yHG : List zA := [
 Jc 4 (.int .i64 0)]
def yMI : List zA := [
 Jm 6 0,Js 7 (.len true (.t 6)),Kb 8 .sub 7 1,Jm 5 8]
def yMu : List zA := [
 Jm 9 5,Kb 10 .geq 9 0]
def yNT : List zA := [
 Jm 13 0,Jm 14 5,Js 15 (.idxs (.t 13) (.t 14)),Jm 16 1,Kc 17 .eql 15 16]
def yLW : List zA := [
 Jm 18 5,Jm 4 18]
def yLM : List zA := [
 Jm 11 5,Kb 12 .sub 11 1,Jm 5 12]
def yJw : List zA := [
 Jc 4 (.int .i64 (-1))]
def yFY : zJ := ⟨19, [.slot 4],
  (Jz yHG [0,1] (.seq (Jz yMI [0,1,5] (.block 0 (.loop [0,1,5] (.seq (Jz yMu [0,1,5,10] (.cond (.t 10) .skip (.exit 0))) (.seq (.block 1 (Jz yNT [0,1,5,17] (.cond (.t 17) (Jz yLW [4] .ret) .skip))) (.reg yLM [0,1,5])))))) (Jz yJw [4] .ret)))⟩
def zQr : List zA := [
 Jc 10 (.bool true)]
def zOX : List zA := [
 Jc 11 (.bool true)]
def zOq : List zA := [
 Jm 21 2,Jm 22 1,Kc 23 .sub 21 22,Jm 12 23]
def zQu : List zA := [
 Jm 24 12,Kb 25 .leq 24 12]
def zOr : List zA := [
 Jm 26 0,Jm 27 1,Jm 28 2,Jm 29 4,Jx 30 109 [.t 26,.t 27,.t 28,.t 29]]
def yVS : List zA := [
 Jm 31 3,Kb 32 .eql 31 0]
def yWd : List zA := [
 Jm 33 0,Jm 34 1,Jm 35 2,Jm 36 4,Jx 37 110 [.t 33,.t 34,.t 35,.t 36]]
def yVD : List zA := [
 Jm 38 10,Kn 39 38]
def yVI : List zA := [
 Jm 40 0,Jm 41 1,Jm 42 2,Jm 43 4,Jx 44 111 [.t 40,.t 41,.t 42,.t 43]]
def yVF : List zA := [
 Jm 45 3,Kb 46 .sub 45 1,Jm 3 46]
def yTZ : List zA := [
 Jm 48 0,Jm 49 1,Jm 50 2,Jm 51 4,Jx 52 112 [.t 48,.t 49,.t 50,.t 51],Jm 47 52,Ke 53 0 47,Ke 54 1 47,Jm 13 53,Jm 14 54]
def yUr : List zA := [
 Jm 55 14,Kb 56 .eql 55 2]
def yTA : List zA := [
 Jm 57 0,Jm 58 1,Jm 59 2,Jm 60 4,Jx 61 113 [.t 57,.t 58,.t 59,.t 60]]
def yTS : List zA := [
 Jm 62 2,Kb 63 .sub 62 1,Jm 64 13,Jm 65 1,Kc 66 .sub 64 65,Kc 67 .sub 63 66,Jm 13 67]
def yUO : List zA := [
 Jc 14 (.int .i64 1)]
def yTM : List zA := [
 Jm 68 10,Jm 69 68,Ju 70 11 69,Ja 71 69 70,Jm 72 71,Ju 73 14 72,Jt 74 (.bin .eql (.t 73) (.c (.int .i64 1))) 72,Ja 75 72 74]
def yUR : List zA := [
 Jm 76 0,Jm 77 1,Jm 78 2,Jm 79 4,Jx 80 114 [.t 76,.t 77,.t 78,.t 79]]
def yUI : List yS := [
 ⟨0,Jm 81 1,[]⟩,
 ⟨1,Kb 82 .gtr 81 0,[]⟩,
 ⟨2,Jm 83 82,[]⟩,
 ⟨3,Ju 84 4 83,[]⟩,
 ⟨4,Ju 85 0 83,[]⟩,
 ⟨5,Ju 86 1 83,[]⟩,
 ⟨6,Jt 87 (.bin .sub (.t 86) (.c (.int .i64 1))) 83,[]⟩,
 ⟨7,Jt 88 (.idx 2 (.t 85) (.t 87)) 83,[]⟩,
 ⟨8,Jt 89 (.ld (some 2) (.t 88)) 83,[]⟩,
 ⟨9,Ju 90 0 83,[]⟩,
 ⟨10,Ju 91 13 83,[]⟩,
 ⟨11,Jt 92 (.idx 2 (.t 90) (.t 91)) 83,[]⟩,
 ⟨12,Jt 93 (.ld (some 2) (.t 92)) 83,[]⟩,
 ⟨13,⟨some 94,.callv (.t 84) [.t 89,.t 93],(some (83,true))⟩,[]⟩,
 ⟨14,Jt 95 (.bin .lss (.t 94) (.c (.int .i64 0))) 83,[]⟩,
 ⟨15,Jt 96 (.not (.t 95)) 83,[]⟩,
 ⟨16,Ja 97 83 96,[]⟩]
def yUa : List zA := [
 Jm 98 0,Jm 99 1,Jm 100 2,Jm 101 13,Jm 102 4,Jx 103 115 [.t 98,.t 99,.t 100,.t 101,.t 102],Jm 15 103]
def yUY : List zA := [
 Jm 104 15,Jm 1 104]
def yUS : List zA := [
 Jm 106 0,Jm 107 1,Jm 108 2,Jm 109 13,Jm 110 4,Jx 111 116 [.t 106,.t 107,.t 108,.t 109,.t 110],Jm 105 111,Ke 112 0 105,Ke 113 1 105,Jm 16 112,Jm 17 113]
def yUh : List zA := [
 Jm 114 17,Jm 11 114]
def yUm : List zA := [
 Jm 115 16,Jm 116 1,Kc 117 .sub 115 116,Jm 118 2,Jm 119 16,Kc 120 .sub 118 119,Jm 18 117,Jm 19 120]
def yTz : List zA := [
 Jm 121 12,Kb 122 .quo 121 8,Jm 20 122]
def yUx : List zA := [
 Jm 123 18,Jm 124 19,Kc 125 .lss 123 124]
def yUd : List zA := [
 Jm 126 18,Jm 127 20,Kc 128 .geq 126 127,Jm 10 128]
def yUq : List zA := [
 Jm 129 0,Jm 130 1,Jm 131 16,Jm 132 3,Jm 133 4,Jx 134 86 [.t 129,.t 130,.t 131,.t 132,.t 133]]
def yTU : List zA := [
 Jm 135 16,Kb 136 .add 135 1,Jm 1 136]
def yUX : List zA := [
 Jm 137 19,Jm 138 20,Kc 139 .geq 137 138,Jm 10 139]
def yUB : List zA := [
 Jm 140 0,Jm 141 16,Kb 142 .add 141 1,Jm 143 2,Jm 144 3,Jm 145 4,Jx 146 86 [.t 140,.t 142,.t 143,.t 144,.t 145]]
def yUu : List zA := [
 Jm 147 16,Jm 2 147]
def zKH : zJ := ⟨148, [],
  (Jz zQr [0,1,2,3,4,10] (Jz zOX [0,1,2,3,4,10,11] (.block 0 (.loop [0,1,2,3,4,10,11] (.block 1 (Jz zOq [0,1,2,3,4,10,11,12] (.seq (Jz zQu [0,1,2,3,4,10,11,12,25] (.cond (.t 25) (Jz zOr [] .ret) .skip)) (.seq (Jz yVS [0,1,2,3,4,10,11,12,32] (.cond (.t 32) (Jz yWd [] .ret) .skip)) (.seq (Jz yVD [0,1,2,3,4,10,11,12,39] (.cond (.t 39) (Jz yVI [0,1,2,3,4,10,11,12] (.reg yVF [0,1,2,3,4,10,11,12])) .skip)) (Jz yTZ [0,1,2,3,4,10,11,12,13,14] (.seq (Jz yUr [0,1,2,3,4,10,11,12,13,14,56] (.cond (.t 56) (Jz yTA [0,1,2,3,4,10,11,12,13] (Jz yTS [0,1,2,3,4,10,11,12,13] (.reg yUO [0,1,2,3,4,10,11,12,13,14]))) .skip)) (.seq (Jz yTM [0,1,2,3,4,10,11,12,13,75] (.cond (.t 75) (Jz yUR [0,1,2,3,4,10,11,12,13,80] (.cond (.t 80) .ret .skip)) .skip)) (.seq (.seq (.regd yUI [0,1,2,3,4,10,11,12,13,97]) (.cond (.t 97) (Jz yUa [0,2,3,4,10,11,15] (Jz yUY [0,1,2,3,4,10,11] (.exit 1))) .skip)) (Jz yUS [0,1,2,3,4,12,16,17] (Jz yUh [0,1,2,3,4,11,12,16] (Jz yUm [0,1,2,3,4,11,12,16,18,19] (Jz yTz [0,1,2,3,4,11,16,18,19,20] (Jz yUx [0,1,2,3,4,11,16,18,19,20,125] (.cond (.t 125) (Jz yUd [0,1,2,3,4,10,11,16] (Jz yUq [0,2,3,4,10,11,16] (.reg yTU [0,1,2,3,4,10,11]))) (Jz yUX [0,1,2,3,4,10,11,16] (Jz yUB [0,1,3,4,10,11,16] (.reg yUu [0,1,2,3,4,10,11]))))))))))))))))))))))⟩
def yQa : List zA := [
 Jc 2 (.int .i64 0)]
def yLg : List zA := [
 Jm 3 0,Js 4 (.cvi .u32 (.t 3)),Jx 5 117 [.t 4],Jm 2 5]
def yJm : List zA := [
 Jm 6 0,Jx 7 118 [.t 6],Jm 2 7]
def yGa : zJ := ⟨8, [.slot 2],
  (Jz yQa [0] (.seq (.cond (.c (.bool false)) (Jz yLg [2] .ret) .skip) (Jz yJm [2] .ret)))⟩
def yEM : List zA := [
 Jc 4 (.slice none 0 0)]
def yDR : List zA := [
 ⟨some 10,.mkmap none,none⟩,Jm 5 10]
def yEq : List zA := [
 Jc 6 (.slice none 0 0)]
def yAF : List zA := [
 Jm 11 0,Je 12 11,Jc 13 (.int .i64 0)]
def zYY : List zA := [
 Kc 14 .lss 13 12]
def zYP : List zA := [
 Ji 15 5 11 13,Jk 16 5 15,Js 8 (.new [.int .i64 0,.int .i64 0,.int .i64 0,.string ⟨#[]⟩,.slice none 0 0]),Jw 5 8 16]
def yDP : List zA := [
 Jm 17 1,Jk 18 5 8,
 ⟨some 19,.callv (.t 17) [.t 18],none⟩,Jm 9 19]
def yEH : List zA := [
 Jm 20 5,Jm 21 9,
 ⟨some 22,.look false [.s] (.bool false) false (.t 20) (.t 21),none⟩,Kn 23 22]
def zXw : List zA := [
 Jm 24 5,Jm 25 9,
 ⟨none,.upd false [.s] (.t 24) (.t 25) (.c (.bool true)),none⟩]
def zYo : List zA := [
 Jm 26 6,Jm 27 9,
 ⟨some 28,.mksl 1 1 [.string ⟨#[]⟩] [(0,1,.t 27)],none⟩,
 ⟨some 29,.app 1 16 [.string ⟨#[]⟩] (.t 26) (.t 28),none⟩,Jm 6 29]
def zPb : List zA := [
 Kb 30 .add 13 1,Jm 13 30]
def zNJ : List zA := [
 Jm 31 6,Jm 4 31]
def zMI : zJ := ⟨32, [.slot 4],
  (Jz yEM [0,1] (Jz yDR [0,1,5] (Jz yEq [0,1,5,6] (.seq (Jz yAF [1,5,6,11,12,13] (.block 0 (.loop [1,5,6,11,12,13] (Jz zYY [1,5,6,11,12,13,14] (.seq (.cond (.t 14) .skip (.exit 0)) (.seq (.block 1 (Jz zYP [1,5,6,8,11,12,13] (Jz yDP [1,5,6,9,11,12,13] (Jz yEH [1,5,6,9,11,12,13,23] (.cond (.t 23) (Jz zXw [1,5,6,9,11,12,13] (.reg zYo [1,5,6,11,12,13])) .skip))))) (.reg zPb [1,5,6,11,12,13]))))))) (Jz zNJ [4] .ret)))))⟩
def zXt : List zA := [
 Kx 1 0,Jc 2 (.string ⟨#[]⟩)]
def yDG : List zA := [
 Jf 3 3 1,Jf 4 0 3,Jl 5 4,Jm 2 5]
def zLQ : zJ := ⟨6, [.slot 2],
  (Jz zXt [1] (Jz yDG [2] .ret))⟩
end Go.SL
/- What an environment must be: its functions have the codes; rules for loops. -/
namespace Go.SL
open Go
structure zV (E : Env) : Prop where
 c5:zB E (E.fn 5) cf5=true
 c9:zB E (E.fn 9) cf9=true
 c11:zB E (E.fn 11) yGo=true
 c14:zB E (E.fn 14) yFp=true
 c15:zB E (E.fn 15) yFn=true
 c17:zB E (E.fn 17) yGh=true
 c21:zB E (E.fn 21) yGd=true
 c22:zB E (E.fn 22) yFR=true
 c23:zB E (E.fn 23) yGe=true
 c24:zB E (E.fn 24) yFo=true
 c25:zB E (E.fn 25) yGT=true
 c27:zB E (E.fn 27) yFj=true
 c28:zB E (E.fn 28) yGQ=true
 c45:zB E (E.fn 45) yFx=true
 c39:zB E (E.fn 39) yGi=true
 c40:zB E (E.fn 40) yHo=true
 c41:zB E (E.fn 41) yFy=true
 c42:zB E (E.fn 42) yFL=true
 c43:zB E (E.fn 43) yGz=true
 c44:zB E (E.fn 44) yGG=true
 c46:zB E (E.fn 46) yGm=true
 c47:zB E (E.fn 47) yGb=true
 c49:zB E (E.fn 49) yGl=true
 c50:zB E (E.fn 50) yGr=true
 c52:zB E (E.fn 52) yGP=true
 c53:zB E (E.fn 53) yHa=true
 c54:zB E (E.fn 54) yFO=true
 c56:zB E (E.fn 56) yFD=true
 c55:zB E (E.fn 55) yGU=true
 c57:zB E (E.fn 57) yHe=true
 c58:zB E (E.fn 58) yFT=true
 c59:zB E (E.fn 59) yHd=true
 c60:zB E (E.fn 60) yGA=true
 c61:zB E (E.fn 61) yHk=true
 c62:zB E (E.fn 62) yGO=true
 c63:zB E (E.fn 63) yFq=true
 c64:zB E (E.fn 64) yFl=true
 c87:zB E (E.fn 87) zKr=true
 c89:zB E (E.fn 89) yFd=true
 c65:zB E (E.fn 65) yFw=true
 c66:zB E (E.fn 66) yGg=true
 c79:zB E (E.fn 79) yHg=true
 c73:zB E (E.fn 73) yGf=true
 c74:zB E (E.fn 74) yGZ=true
 c76:zB E (E.fn 76) yFi=true
 c77:zB E (E.fn 77) yGv=true
 c78:zB E (E.fn 78) yFV=true
 c80:zB E (E.fn 80) yFF=true
 c81:zB E (E.fn 81) yFE=true
 c82:zB E (E.fn 82) yGW=true
 c83:zB E (E.fn 83) yFB=true
 c84:zB E (E.fn 84) yFk=true
 c88:zB E (E.fn 88) yGs=true
 c90:zB E (E.fn 90) yGt=true
 c91:zB E (E.fn 91) yGH=true
 c93:zB E (E.fn 93) yGj=true
 c92:zB E (E.fn 92) yHj=true
 c94:zB E (E.fn 94) yGS=true
 c95:zB E (E.fn 95) yGn=true
 c97:zB E (E.fn 97) yGp=true
 c96:zB E (E.fn 96) yGI=true
 c99:zB E (E.fn 99) yFt=true
 c100:zB E (E.fn 100) zMQ=true
 c101:zB E (E.fn 101) zMp=true
 c102:zB E (E.fn 102) zNl=true
 c103:zB E (E.fn 103) zMf=true
 c104:zB E (E.fn 104) zLW=true
 e55:enters E.P (E.fn 55)=true
 e96:enters E.P (E.fn 96)=true
 e104:enters E.P (E.fn 104)=true
 e65:enters E.P (E.fn 65)=true
 lastIx:∀ (H:Hp) (l:Bs),l.length≤60→yD E 98 [S l,.int .u8 46] H (.int .i64 (ixI (lastIx 46 l)))
 cmpStr:∀ (H:Hp) (a b:Bs),yD E 105 [S a,S b] H (.int .i64 (wI a b))
section
variable {E:Env} {fr:Fr} {H:Hp} {Q:X→Fr→Hp→Prop} {K:List Item}
def LG (live:List Nat) (n k:Nat) (F:Nat→Fr) (P:Nat→Prop) (H0:Hp) (fr:Fr) (H:Hp):Prop:=k < n∧fr.keep live=F (k + 1)∧H=H0∧P (k + 1)
theorem yYg {live:List Nat} {n k:Nat} {F:Nat→Fr} {P:Nat→Prop} {H0:Hp}:LG live n k F P H0 fr H=(k < n∧fr.keep live=F (k + 1)∧H=H0∧P (k + 1)):=rfl
def LP (live:List Nat) (n k:Nat) (I:Nat→Fr→Hp→Prop) (fr:Fr) (H:Hp):Prop:=k < n∧I (k + 1) (fr.keep live) H
theorem yYb {live:List Nat} {n k:Nat} {I:Nat→Fr→Hp→Prop}:LP live n k I fr H=(k < n∧I (k + 1) (fr.keep live) H):=rfl
def LM (live:List Nat) (m:Nat) (I:Nat→Fr→Hp→Prop) (fr:Fr) (H:Hp):Prop:=∃ m',m' < m∧I m' (fr.keep live) H
theorem yXm {live:List Nat} {m:Nat} {I:Nat→Fr→Hp→Prop}:LM live m I fr H=(∃ m',m' < m∧I m' (fr.keep live) H):=rfl
theorem pX {live : List Nat} {c : vQ} (I : Nat → Fr → Hp → Prop) (m0 : Nat) (h0 : I m0 (fr.keep live) H)
  (h:∀ m fr' H',I m fr' H'→zT E (.code c :: .goal (LM live m I) :: K) fr' H' Q) :
  zT E (.code (.loop live c) :: K) fr H Q:=zIs I m0 h0 h
def yRi (E : Env) (res : List pO) (Q : Value → Hp → Prop) (e : X) (fr : Fr) (H : Hp) : Prop := match e with
 | .exit _=>False
 | _=>zCt E fr H res∧Q (zBQ E fr H res) H
theorem yQC {res:List pO} {R:Value→Hp→Prop}:yRi E res R .ret fr H=(zCt E fr H res∧R (zBQ E fr H res) H):=rfl
theorem ySz {res:List pO} {R:Value→Hp→Prop}:yRi E res R .nrm fr H=(zCt E fr H res∧R (zBQ E fr H res) H):=rfl
theorem Fn.of_vks {f : FuncId} {af : zJ} {args : List Value} {R : Value → Hp → Prop} (hc : zB E f af = true) (hl : args.length ≤ af.nt)
  (h:zT E [.code af.body] (zBU 0 args) H (yRi E af.res R)):Fn E.P f args H R :=
 Fn.of_vc hc hl (qN (fun e _ _ h=>by cases e<;>exact h) (yMT h))
theorem yP {live : List Nat} {c : vQ} (n k0 : Nat) (I : Nat → Fr → Hp → Prop) (hk : k0 ≤ n) (h0 : I k0 (fr.keep live) H)
  (h:∀ k fr' H',k≤n→I k fr' H'→zT E (.code c :: .goal (LP live n k I) :: K) fr' H' Q) :
  zT E (.code (.loop live c) :: K) fr H Q:=by
 refine zIs (fun m fr' H'=>∃ k,k≤n∧m=n - k∧I k fr' H') (n - k0) ⟨k0,hk,rfl,h0⟩ ?_
 rintro m fr' H' ⟨k,hk,rfl,hi⟩
 have:=h k fr' H' hk hi
 simp only [zT] at this ⊢
 refine qN (fun e fr H h=>?_) this
 cases e with
 | nrm =>
  have h:k < n∧I (k + 1) (fr.keep live) H:=h
  exact⟨n - (k + 1),by omega,k + 1,by omega,rfl,h.2⟩
 | exit id=>simpa [uN] using h
 | ret=>simpa [uN] using h
theorem zS {live : List Nat} {c : vQ} (n k0 : Nat) (F : Nat → Fr) (P : Nat → Prop) (hk : k0 ≤ n) (h0 : fr.keep live = F k0) (hP : P k0)
  (h:∀ k,k≤n→P k→zT E (.code c :: .goal (LG live n k F P H) :: K) (F k) H Q) :
  zT E (.code (.loop live c) :: K) fr H Q:=by
 refine yP n k0 (fun k fr' H'=>fr'=F k∧H'=H∧P k) hk ⟨h0,rfl,hP⟩ ?_
 rintro k fr' H' hk ⟨rfl,rfl,hp⟩
 exact h k hk hp
theorem yFs:H.le H=True:=eq_true (Hp.le.refl H)
theorem yD.intro {f:Nat} {args:List Value} {v:Value} (h:Fn E.P (E.fn f) args H fun u H'=>u=v∧H.le H'):yD E f args H v:=h
theorem zLY {n:Nat} (h:n≤1099511627777):IntKind.i64.wrap ((n:Nat):Int)=(n:Int):=by rw [IntKind.wrap_i64]; omega
theorem zQ {n:Nat} (h:n≤1099511627776):IntKind.i64.wrap ((n:Int) + 1)=((n + 1:Nat):Int):=by rw [IntKind.wrap_i64]; omega
theorem yX {n:Int} (h : -9223372036854775808≤n∧n≤9223372036854775807):IntKind.i64.wrap n=n:=by rw [IntKind.wrap_i64]; omega
theorem yXO (l:Bs) (i:Nat):(((l.getD i 0).toNat:Nat):Int)=bI l i:=rfl
theorem Fn.same {f : Nat} {args : List Value} {v : Value} (h : yD E f args H v) : Fn E.P (E.fn f) args H fun u H' => u = v ∧ H' = H := fun w hw =>
 (h w hw).mono fun _ _ ⟨u,H',he,hs,hk,hu,hl⟩=>⟨u,H,he,hs.le hl,⟨hk.os,hk.tape,hk.output,hk.size,hk.same,fun b o hb=>.inl (by rw [hb]; simp),fun b hb ht=>⟨(hk.shape b hb ht).1,ht⟩⟩,hu,rfl⟩
theorem yWc (a b:Bool):(!a || b) = !(a && !b):=by cases a<;>cases b<;>rfl
theorem toNat_ofNat' (n:Nat):((n:Int)).toNat=n:=Int.toNat_natCast n
end
end Go.SL
/- Rules for what is laid, stored, ranged over. -/
namespace Go.SL
open Go
section
variable {E:Env} {fr:Fr} {H:Hp} {Q:X→Fr→Hp→Prop} {k:List Item} {d:Option Nat} {r:List zA} {live:List Nat}
theorem yL (H:Hp) (b:Nat) (o:xD) (c:Nat):(H.put b o) c=if c=b then some o else H c:=rfl
theorem yQO {zero : List Value} : zT E (.ops (⟨d, .newH zero, none⟩ :: r) live :: k) fr H Q =
  (∀ b,H b=none→zT E (.ops r live :: k) (setD fr d ⟨true,.val (.pointer (some ⟨b,0,none⟩))⟩) (H.put b (.row zero zero.length true)) Q):=by
 simp [zT,kE,wJ,vG,yM,xQ]
theorem yQB {x : Arg} : zT E (.ops (⟨d, .boxH x, none⟩ :: r) live :: k) fr H Q =
  (vok fr x∧∀ b,H b=none→zT E (.ops r live :: k) (setD fr d ⟨true,.val (.pointer (some ⟨b,0,none⟩))⟩) (H.put b (.row (vo E fr x).cells.toList (vo E fr x).cells.toList.length true)) Q):=by
 simp [zT,kE,wJ,vG,yM,xQ]
theorem yVK {n : Nat} {x v : Arg} : zT E (.ops (⟨d, .st n x v, none⟩ :: r) live :: k) fr H Q =
  (pok fr x ∧ vok fr v ∧ (vo E fr v).cells.toList.length = n ∧ (vo E fr v).cells.toList.all yW = true ∧
   (match pvo E fr x with
    | .lp s o => (match fr.get s with
     | some ⟨true,.box vs⟩=>o + n≤vs.length∧zT E (.ops r live :: k) (setD (fr.upb s (xB vs o (vo E fr v).cells.toList)) d ⟨true,.val undef⟩) H Q
     | _=>False)
    | .val (.pointer (some a)) => a.spot = none ∧ (match H a.block with
     | some (.row vs cap true)=>a.off + n≤vs.length∧zT E (.ops r live :: k) (setD fr d ⟨true,.val undef⟩) (H.put a.block (.row (xB vs a.off (vo E fr v).cells.toList) cap true)) Q
     | _=>False)
    | _=>False)):=by
 simp [zT,kE,wJ,vG,yM,xQ]
 all_goals (intros; exact Iff.rfl)
theorem yQX {size len : Nat} {zero : List Value} {parts : List (Nat × Nat × Arg)} : zT E (.ops (⟨d, .mksl size len zero parts, none⟩ :: r) live :: k) fr H Q =
  (zAc E fr zero.length parts∧∀ b,H b=none→zT E (.ops r live :: k) (setD fr d ⟨true,.val (.slice (some ⟨b,0,none⟩) len len)⟩) (H.put b (.row (uQ E fr zero parts) zero.length true)) Q):=by
 simp [zT,kE,wJ,vG,yM,xQ]
theorem yGE : zT E (.ops (⟨d, .mkmap none, none⟩ :: r) live :: k) fr H Q =
  (∀ b,H b=none→zT E (.ops r live :: k) (setD fr d ⟨true,.val (.map (some b))⟩) (H.put b (.obj (.map #[] 0))) Q):=by
 simp [zT,kE,wJ,vG,yM,xQ]
theorem yWp {size bytes : Nat} {zero : List Value} {l c : Arg} : zT E (.ops (⟨d, .mk size bytes zero l c, none⟩ :: r) live :: k) fr H Q =
  (vok fr l∧vok fr c∧(match vo E fr l,vo E fr c with
  | .int _ p, .int _ q => 0 ≤ p ∧ p ≤ q ∧ bytes * q ≤ 140737488355328 ∧ q ≤ 4611686018427387904 ∧
    ∀ b,H b=none→zT E (.ops r live :: k) (setD fr d ⟨true,.val (.slice (some ⟨b,0,none⟩) p.toNat q.toNat)⟩) (H.put b (.row (rep zero p.toNat) (q.toNat * size) true)) Q
  | _,_=>False)):=by
 simp [zT,kE,wJ,vG,yM,xQ]
 all_goals (intros; exact Iff.rfl)
theorem yRg {m : Arg} : zT E (.ops (⟨d, .mlen m, none⟩ :: r) live :: k) fr H Q =
  (vok fr m∧(match vo E fr m with
  | .map none=>zT E (.ops r live :: k) (setD fr d ⟨true,.val (.int .i64 0)⟩) H Q
  | .map (some b) => (match H b with
   | some (.obj (.map es _))=>zT E (.ops r live :: k) (setD fr d ⟨true,.val (.int .i64 es.size)⟩) H Q
   | _=>False)
  | _=>False)):=by
 simp [zT,kE,wJ,vG,yM,xQ]
 all_goals (intros; exact Iff.rfl)
theorem zAz {f : Arg} {ps : List Nat} {ops : List zA} {lv : List Nat} {body : vQ} (G : Hp) (S : List (List Value) → Prop) (Inv : List (List Value) → Hp → Prop)
  (h1:vok fr f) (h2:zGk (vo E fr f)) (hI:Iter E (vo E fr f) G S) (hl:∀ xs,S xs→∀ x∈xs,x.length=ps.length) (h0:Inv [] H) (hG:∀ pre H,Inv pre H→G.le H)
  (hb : ∀ pre x H', (∃ suf, S (pre ++ x :: suf)) → Inv pre H' →
   zT E [.ops ops lv,.code body,.goal (fun _ H''=>Inv (pre ++ [x]) H'')] (zAY fr.vals ps x) H' (fun e _ H''=>uN E k e fr H'' Q))
  (hend:∀ xs H',S xs→Inv xs H'→zT E k fr H' Q) :
  zT E (.code (.rangeF f ps (.reg ops lv) body) :: k) fr H Q:=by
 simp only [zT,vc]
 refine⟨h1,h2,G,S,hI,hl,Inv,h0,hG,fun pre x H' hs hi=>?_,hend⟩
 have:=hb pre x H' hs hi
 simp only [zT,uN] at this
 refine zIt (fun fr' H'' h=>⟨trivial,?_⟩) this
 refine qN (fun e fr3 H3 h=>?_) h
 cases e<;>exact h
theorem yV {i f : Nat} {args : List Arg} {ls : List Nat} {p q : List yS} {g : Option (Nat × Bool)} (v : Value) (h0 : vG fr g)
  (h1:yM fr g=true→pB fr args∧yD E f (args.map (vo E fr)) H v) (hs:pS E (setD fr d ⟨yM fr g,.val v⟩) H ls p)
  (h:zT E (.opd (⟨i,⟨d,.callp f args,g⟩,ls⟩ :: p) q live :: k) (setD fr d ⟨yM fr g,.val v⟩) H Q) :
  zT E (.opd p (⟨i,⟨d,.callp f args,g⟩,ls⟩ :: q) live :: k) fr H Q:=by
 simp only [zCl,wJ]
 exact⟨h0,v,h1,hs,h⟩
theorem yGB {i : Nat} {x : Arg} {args : List Arg} {ls : List Nat} {p q : List yS} {R : Value → Hp → Prop} (h0 : vok fr x) (h0' : pB fr args) (h1 : FnV E (vo E fr x) (args.map (vo E fr)) H R)
  (h:∀ v H',R v H'→pS E (setD fr d ⟨true,.val v⟩) H' ls p∧zT E (.opd (⟨i,⟨d,.callv x args,none⟩,ls⟩ :: p) q live :: k) (setD fr d ⟨true,.val v⟩) H' Q) :
  zT E (.opd p (⟨i,⟨d,.callv x args,none⟩,ls⟩ :: q) live :: k) fr H Q:=by
 simp only [zCl,wJ,vG,yM,xQ]
 exact⟨trivial,fun _=>⟨h0,h0',R,h1,h⟩,fun e=>by cases e⟩
theorem zGn {i f : Nat} {args : List Arg} {ls : List Nat} {p q : List yS} {R : Value → Hp → Prop} (h0 : pB fr args) (h1 : Fn E.P (E.fn f) (args.map (vo E fr)) H R)
  (h:∀ v H',R v H'→pS E (setD fr d ⟨true,.val v⟩) H' ls p∧zT E (.opd (⟨i,⟨d,.call f args,none⟩,ls⟩ :: p) q live :: k) (setD fr d ⟨true,.val v⟩) H' Q) :
  zT E (.opd p (⟨i,⟨d,.call f args,none⟩,ls⟩ :: q) live :: k) fr H Q:=by
 simp only [zCl,wJ,vG,yM,xQ]
 exact⟨trivial,fun _=>⟨h0,R,h1,h⟩,fun e=>by cases e⟩
theorem uX {i : Nat} {op : qX} {ls : List Nat} {p q : List yS} {g : Option (Nat × Bool)} (hop : ∀ x, op ≠ .sim x) (hop' : ∀ f a, op ≠ .callp f a) (h0 : vG fr g)
  (h1:yM fr g=true→xQ E op d fr H (fun fr' H'=>pS E fr' H' ls p∧zT E (.opd (⟨i,⟨d,op,g⟩,ls⟩ :: p) q live :: k) fr' H' Q))
  (h2:yM fr g=false→pS E (setD fr d ⟨false,.val undef⟩) H ls p∧zT E (.opd (⟨i,⟨d,op,g⟩,ls⟩ :: p) q live :: k) (setD fr d ⟨false,.val undef⟩) H Q) :
  zT E (.opd p (⟨i,⟨d,op,g⟩,ls⟩ :: q) live :: k) fr H Q:=by
 simp only [zCl,wJ]
 cases op<;>first | exact absurd rfl (hop _) | exact absurd rfl (hop' _ _) | exact⟨h0,h1,h2⟩
theorem zCD {i size len : Nat} {zero : List Value} {parts : List (Nat × Nat × Arg)} {ls : List Nat} {p q : List yS} : zT E (.opd p (⟨i, ⟨d, .mksl size len zero parts, none⟩, ls⟩ :: q) live :: k) fr H Q =
  (zAc E fr zero.length parts∧∀ b,H b=none→pS E (setD fr d ⟨true,.val (.slice (some ⟨b,0,none⟩) len len)⟩) (H.put b (.row (uQ E fr zero parts) zero.length true)) ls p∧zT E (.opd (⟨i,⟨d,.mksl size len zero parts,none⟩,ls⟩ :: p) q live :: k) (setD fr d ⟨true,.val (.slice (some ⟨b,0,none⟩) len len)⟩) (H.put b (.row (uQ E fr zero parts) zero.length true)) Q):=by
 simp [zCl,wJ,vG,yM,xQ]
theorem wE {f : Nat} {first cap : Array Value} {args : List Value} {R : Value → Hp → Prop} (he : enters E.P (E.fn f) = true) (h : Fn E.P (E.fn f) (first.toList ++ args ++ cap.toList) H R) :
  FnV E (.func (.func (E.fn f)) first cap) args H R:=fun w hw=>⟨he,h w hw⟩
theorem zOP {l : List Bs} {pre suf : List (List Value)} {x : List Value} (h : pre ++ x :: suf = l.map (fun x => [S x])) :
  pre.length < l.length∧x = [S (l.getD pre.length [])]∧l.drop pre.length=l.getD pre.length [] :: l.drop (pre.length + 1):=by
 have hlen:=congrArg List.length h
 simp only [List.length_append,List.length_cons,List.length_map] at hlen
 have hlt:pre.length < l.length:=by omega
 have hx:(pre ++ x :: suf)[pre.length]? = some x:=by simp
 rw [h] at hx
 simp only [List.getElem?_map,List.getElem?_eq_getElem hlt,Option.map_some,Option.some.injEq] at hx
 refine⟨hlt,?_,?_⟩
 ·rw [← hx,List.getD_eq_getElem?_getD,List.getElem?_eq_getElem hlt]; rfl
 ·rw [List.drop_eq_getElem_cons hlt,List.getD_eq_getElem?_getD,List.getElem?_eq_getElem hlt]; rfl
theorem yVl (a:List Value) (b:Nat) (c:Bool):(∃ vs cap wr,xD.row a b c=xD.row vs cap wr)=True:=eq_true ⟨_,_,_,rfl⟩
theorem yRq (s:ByteArray):yW (.string s)=true:=rfl
theorem yRE (k:IntKind) (n:Int):yW (.int k n)=true:=rfl
theorem yLr (b:Bool):yW (.bool b)=true:=rfl
theorem zIN (a:Option Addr) (n c:Nat):yW (.slice a n c)=true:=rfl
theorem ySD (a:Option Addr):yW (.pointer a)=true:=rfl
theorem yOu (f:Go.Fn) (a b:Array Value):yW (.func f a b)=true:=rfl
theorem yQL (a:Option Nat):yW (.map a)=true:=rfl
theorem zG.one {sz n : Nat} {v : Value} {row : Nat → List Value} (h : zG H sz v n row) : yW v = true := by
 obtain⟨a,cap,rfl,_⟩:=h; rfl
theorem yB {c a b : Arg} {y : Bool} (hc : vo E fr c = .bool false) (hb : vo E fr b = .bool y) : xI E fr H (.pick c a b) = .val (.bool y) := by
 simp only [xI,hc,hb]
 cases vo E fr a<;>rfl
theorem yQ {c a b : Arg} {y : Bool} (hc : vo E fr c = .bool true) (ha : vo E fr a = .bool y) : xI E fr H (.pick c a b) = .val (.bool y) := by
 simp only [xI,hc,ha]
 cases vo E fr b<;>rfl
theorem zAA {H:Hp} {b c:Nat} {o:xD} (hb:H b=some o) (hc:H c=none):b≠c:=by rintro rfl; rw [hb] at hc; cases hc
end
end Go.SL
/- Rules: maps with guards, drawn stores. -/
namespace Go.SL
open Go
section
variable {E:Env} {fr:Fr} {H:Hp} {Q:X→Fr→Hp→Prop} {k:List Item} {d:Option Nat} {r:List zA} {live:List Nat} {κ ν:Type} [DecidableEq κ]
theorem zGv (a b:Bs):uT false [.s] (S a) (S b)=some (decide (a=b)):=by simp [uT,pK,Bool.beq_eq_decide_eq]
theorem yQU (a b:Int):uT false [.i] (.int .i64 a) (.int .i64 b)=some (decide (a=b)):=by simp [uT,pK,Bool.beq_eq_decide_eq]
theorem zOo (a b : zBY) : uT true [.i, .s] (.agg #[.int .i64 a.1, S a.2]) (.agg #[.int .i64 b.1, S b.2]) = some (decide (a = b)) := by
 simp only [uT,zCv,if_true,allEq,pK]
 simp [Prod.ext_iff,Bool.beq_eq_decide_eq]
theorem zCJ {op : qX} {g : Option (Nat × Bool)} (hop : ∀ x, op ≠ .sim x) (hop' : ∀ f a, op ≠ .callp f a) (h0 : vG fr g) (hg : yM fr g = false)
  (h:zT E (.ops r live :: k) (setD fr d ⟨false,.val undef⟩) H Q):zT E (.ops (⟨d,op,g⟩ :: r) live :: k) fr H Q:=by
 simp only [zT,kE,wJ] at h ⊢
 refine⟨h0,?_⟩
 cases op<;>first | exact absurd rfl (hop _) | exact absurd rfl (hop' _ _) | exact⟨fun h=>(by rw [hg] at h; cases h),fun _=>h⟩
theorem zBg {op : qX} {g : Option (Nat × Bool)} (hop : ∀ x, op ≠ .sim x) (hop' : ∀ f a, op ≠ .callp f a) (h0 : vG fr g) (hg : yM fr g = true)
  (h:zT E (.ops (⟨d,op,none⟩ :: r) live :: k) fr H Q):zT E (.ops (⟨d,op,g⟩ :: r) live :: k) fr H Q:=by
 simp only [zT,kE,wJ] at h ⊢
 refine⟨h0,?_⟩
 have h:=h.2
 cases op<;>first | exact absurd rfl (hop _) | exact absurd rfl (hop' _ _) | exact⟨fun _=>h.1 rfl,fun h=>(by rw [hg] at h; cases h)⟩
theorem jA {i n : Nat} {x v : Arg} {ls : List Nat} {p q : List yS} : zT E (.opd p (⟨i, ⟨d, .st n x v, none⟩, ls⟩ :: q) live :: k) fr H Q =
  (pok fr x ∧ vok fr v ∧ (vo E fr v).cells.toList.length = n ∧ (vo E fr v).cells.toList.all yW = true ∧
   (match pvo E fr x with
    | .lp s o => (match fr.get s with
     | some ⟨true,.box vs⟩=>o + n≤vs.length∧pS E (setD (fr.upb s (xB vs o (vo E fr v).cells.toList)) d ⟨true,.val undef⟩) H ls p∧zT E (.opd (⟨i,⟨d,.st n x v,none⟩,ls⟩ :: p) q live :: k) (setD (fr.upb s (xB vs o (vo E fr v).cells.toList)) d ⟨true,.val undef⟩) H Q
     | _=>False)
    | .val (.pointer (some a)) => a.spot = none ∧ (match H a.block with
     | some (.row vs cap true)=>a.off + n≤vs.length∧pS E (setD fr d ⟨true,.val undef⟩) (H.put a.block (.row (xB vs a.off (vo E fr v).cells.toList) cap true)) ls p∧zT E (.opd (⟨i,⟨d,.st n x v,none⟩,ls⟩ :: p) q live :: k) (setD fr d ⟨true,.val undef⟩) (H.put a.block (.row (xB vs a.off (vo E fr v).cells.toList) cap true)) Q
     | _=>False)
    | _=>False)):=by
 simp [zCl,wJ,vG,yM,xQ]
 all_goals (intros; exact Iff.rfl)
theorem yUl {i size bytes : Nat} {zero : List Value} {l c : Arg} {ls : List Nat} {p q : List yS} : zT E (.opd p (⟨i, ⟨d, .mk size bytes zero l c, none⟩, ls⟩ :: q) live :: k) fr H Q =
  (vok fr l∧vok fr c∧(match vo E fr l,vo E fr c with
  | .int _ p', .int _ q' => 0 ≤ p' ∧ p' ≤ q' ∧ bytes * q' ≤ 140737488355328 ∧ q' ≤ 4611686018427387904 ∧
    ∀ b, H b = none → pS E (setD fr d ⟨true, .val (.slice (some ⟨b, 0, none⟩) p'.toNat q'.toNat)⟩) (H.put b (.row (rep zero p'.toNat) (q'.toNat * size) true)) ls p ∧
     zT E (.opd (⟨i,⟨d,.mk size bytes zero l c,none⟩,ls⟩ :: p) q live :: k) (setD fr d ⟨true,.val (.slice (some ⟨b,0,none⟩) p'.toNat q'.toNat)⟩) (H.put b (.row (rep zero p'.toNat) (q'.toNat * size) true)) Q
  | _,_=>False)):=by
 simp [zCl,wJ,vG,yM,xQ]
 all_goals (intros; exact Iff.rfl)
end
theorem map_nil {ν:Type} {κ:Type} {H:Hp} {b:Nat} (enc:κ→Value) (encv:ν→Value):uR (H.put b (.obj (.map #[] 0))) b (([]:List (κ × ν)).map fun e=>(enc e.1,encv e.2)):=⟨#[],0,Hp.put_same ..,rfl⟩
theorem zGq (z : Value) (n i : Nat) : (rep [z] n)[i]? = if i < n then some z else none := by
 induction n generalizing i with
 | zero=>simp [rep]
 | succ n ih =>
  simp only [rep,List.singleton_append]
  cases i with
  | zero=>simp
  | succ i=>simp [ih]
end Go.SL
/- Reads that are skipped: their values do not matter. -/
namespace Go.SL
open Go
def ldV (E : Env) (fr : Fr) (H : Hp) (n : Option Nat) (x : Arg) : Value := match xI E fr H (.ld n x) with
 | .val v=>v
 | _=>undef
def yVi (E : Env) (fr : Fr) (H : Hp) (n : Nat) (x i : Arg) : Value := match xI E fr H (.idx n x i) with
 | .val v=>v
 | _=>undef
theorem vR {E : Env} {fr : Fr} {H : Hp} {n : Option Nat} {x : Arg} : xI E fr H (.ld n x) = .val (ldV E fr H n x) := by
 simp only [ldV,xI]
 cases vD fr H (pvo E fr x)<;>rfl
theorem vI {E : Env} {fr : Fr} {H : Hp} {n : Nat} {x i : Arg} : xI E fr H (.idx n x i) = .val (yVi E fr H n x i) := by
 simp only [yVi,xI]
 split<;>rfl
end Go.SL
/- Rules: the length of a map; memories with several new blocks; first index. -/
namespace Go.SL
open Go
theorem yNh {E : Env} {fr : Fr} {H : Hp} {Q : X → Fr → Hp → Prop} {k : List Item} {d : Option Nat} {r : List zA} {live : List Nat} {m : Arg} {b : Nat} {l : List (Value × Value)} (h1 : vok fr m) (hm : vo E fr m = .map (some b)) (hM : uR H b l)
  (h:zT E (.ops r live :: k) (setD fr d ⟨true,.val (.int .i64 l.length)⟩) H Q):zT E (.ops (⟨d,.mlen m,none⟩ :: r) live :: k) fr H Q:=by
 obtain⟨es,cl,hH,rfl⟩:=hM
 rw [yRg]
 refine⟨h1,?_⟩
 rw [hm]
 simp only [hH]
 simpa using h
theorem yRA (H : Hp) {b c : Nat} (o o' p : xD) (h : b ≠ c) : ((H.put b o).put c p).put b o' = (H.put b o').put c p := by
 funext x
 simp only [Hp.put]
 by_cases h1:x=b
 ·subst h1; simp [h]
 ·simp [h1]
def qE (P : Nat → Bool) : Nat → Int
 | 0=>-1
 | n + 1=>if qE P n≥0 then qE P n else if P n then n else -1
theorem yGF (P : Nat → Bool) (n : Nat) : qE P n ≥ 0 ↔ vA P n = true := by
 induction n with
 | zero=>simp [qE,vA]
 | succ n ih =>
  have e:vA P (n + 1)=(vA P n || P n):=rfl
  have e2:qE P (n + 1)=if qE P n≥0 then qE P n else if P n then (n:Int) else -1:=rfl
  rw [e,e2,Bool.or_eq_true,← ih]
  by_cases h:qE P n≥0
  ·rw [if_pos h]; exact⟨.inl,fun _=>h⟩
  ·rw [if_neg h]
   by_cases hp:P n=true
   ·rw [if_pos hp]; exact⟨fun _=>.inr hp,fun _=>by omega⟩
   ·rw [if_neg hp]; exact⟨fun h=>absurd h (by omega),fun h'=>h'.elim (fun x=>absurd x h) (fun x=>absurd x hp)⟩
theorem yFI (P : Nat → Bool) (n : Nat) : decide (qE P n ≥ 0) = vA P n := by
 rw [Bool.eq_iff_iff,decide_eq_true_eq]; exact yGF P n
theorem zRW {P : Nat → Bool} {k n : Nat} (h : qE P k = -1) (hp : P k = true) (hk : k < n) : qE P n = k := by
 induction n with
 | zero=>omega
 | succ n ih =>
  simp only [qE]
  by_cases e:k=n
  ·subst e; simp [h,hp]
  ·rw [ih (by omega),if_pos (by omega)]
theorem zSs {P:Nat→Bool} {k:Nat} (h:qE P k = -1) (hp:P k=false):qE P (k + 1) = -1:=by simp [qE,h,hp]
theorem ySe {P : Nat → Bool} {n : Nat} : (!vA (fun i => !P i) n) = zO P n := by
 induction n with
 | zero=>rfl
 | succ n ih=>simp only [vA,zO,← ih,Bool.not_or,Bool.not_not]
end Go.SL
/- Appending, cloning. -/
namespace Go.SL
open Go
section
variable {E:Env} {fr:Fr} {H:Hp} {Q:X→Fr→Hp→Prop} {k:List Item} {d:Option Nat} {r:List zA} {live:List Nat}
theorem kJ {size bytes n cap0 b0 capc : Nat} {zero : List Value} {s x : Arg} {vs : List Value} (h1 : vok fr s) (h2 : vok fr x) (h3 : qY H size (vo E fr x)) (h4 : (zL H size (vo E fr x)).all yW = true)
  (hs:vo E fr s = .slice (some ⟨b0,0,none⟩) n cap0) (h5:(n + zU (vo E fr x)) * bytes≤140737488355328) (h6:n + zU (vo E fr x)≤4611686018427387904) (hb:H b0=some (.row vs capc true)) (h7:vs.length=n * size) (h8:capc=cap0 * size)
  (h:∀ b cap,(H.del b0) b=none→zT E (.ops r live :: k) (setD fr d ⟨true,.val (.slice (some ⟨b,0,none⟩) (n + zU (vo E fr x)) cap)⟩) ((H.del b0).put b (.row (vs ++ zL H size (vo E fr x)) (cap * size) true)) Q) :
  zT E (.ops (⟨d,.app size bytes zero s x,none⟩ :: r) live :: k) fr H Q:=by
 simp only [zT,kE,wJ,vG,yM,xQ] at h ⊢
 refine⟨trivial,fun _=>⟨h1,h2,h3,h4,?_⟩,fun e=>by cases e⟩
 simp only [hs,hb]
 exact⟨h5,h6,h7,h8,h⟩
theorem zDK {size bytes : Nat} {zero : List Value} {s x : Arg} (h1 : vok fr s) (h2 : vok fr x) (h3 : qY H size (vo E fr x)) (h4 : (zL H size (vo E fr x)).all yW = true)
  (hs:vo E fr s = .slice none 0 0) (h5:zU (vo E fr x) * bytes≤140737488355328) (h6:zU (vo E fr x)≤4611686018427387904)
  (h7:zU (vo E fr x)=0→zT E (.ops r live :: k) (setD fr d ⟨true,.val (.slice none 0 0)⟩) H Q)
  (h:0 < zU (vo E fr x)→∀ b cap,H b=none→zT E (.ops r live :: k) (setD fr d ⟨true,.val (.slice (some ⟨b,0,none⟩) (zU (vo E fr x)) cap)⟩) (H.put b (.row (zL H size (vo E fr x)) (cap * size) true)) Q) :
  zT E (.ops (⟨d,.app size bytes zero s x,none⟩ :: r) live :: k) fr H Q:=by
 simp only [zT,kE,wJ,vG,yM,xQ] at h h7 ⊢
 refine⟨trivial,fun _=>⟨h1,h2,h3,h4,?_⟩,fun e=>by cases e⟩
 simp only [hs]
 exact⟨h5,h6,h7,h⟩
end
theorem zHy {H : Hp} {b : Nat} (h : H b = none) (o : xD) : (H.put b o).del b = H := by
 funext c
 simp only [Hp.del,Hp.put]
 by_cases e:c=b
 ·subst e; simp [h]
 ·simp [e]
def flat (n:Nat) (row:Nat→List Value):List Value:=((List.range n).map row).flatten
theorem vP (n:Nat) (row:Nat→List Value):flat (n + 1) row=flat n row ++ row n:=by simp [flat,List.range_succ]
theorem xR {n sz : Nat} {row : Nat → List Value} (h : ∀ i, i < n → (row i).length = sz) : (flat n row).length = n * sz := by
 induction n with
 | zero=>simp [flat]
 | succ n ih =>
  rw [vP,List.length_append,ih (fun i hi=>h i (by omega)),h n (by omega),Nat.succ_mul]
theorem pE {n sz : Nat} {row : Nat → List Value} (h : ∀ i, i < n → (row i).length = sz) : ∀ i, i < n → ((flat n row).drop (i * sz)).take sz = row i := by
 induction n with
 | zero=>intro i hi; omega
 | succ n ih =>
  intro i hi
  rw [vP]
  have hl:=xR (n:=n) (fun i hi=>h i (by omega))
  by_cases e:i=n
  ·subst e
   rw [List.drop_append_of_le_length (by omega),List.drop_of_length_le (by omega),List.nil_append,List.take_of_length_le (by rw [h i (by omega)]; omega)]
  ·have hlt:i < n:=by omega
   have h1 : i * sz + sz ≤ n * sz := by
    have:=Nat.mul_le_mul_right sz (show i + 1≤n by omega)
    rw [Nat.succ_mul] at this; exact this
   rw [List.drop_append_of_le_length (by omega),List.take_append_of_le_length (by rw [List.length_drop]; omega)]
   exact ih (fun i hi=>h i (by omega)) i hlt
theorem zDO {n : Nat} {row : Nat → List Value} (h : ∀ i, i < n → (row i).all yW = true) : (flat n row).all yW = true := by
 induction n with
 | zero=>simp [flat]
 | succ n ih=>rw [vP,List.all_append,ih (fun i hi=>h i (by omega)),h n (by omega)]; rfl
theorem zIq {n sz : Nat} {row : Nat → List Value} {cs : List Value} (hl : cs.length = n * sz) (h : ∀ i, i < n → (cs.drop (i * sz)).take sz = row i) : cs = flat n row := by
 induction n generalizing cs with
 | zero=>simp at hl; simp [hl,flat]
 | succ n ih =>
  rw [Nat.succ_mul] at hl
  rw [vP,← ih (cs:=cs.take (n * sz)) (by rw [List.length_take]; omega),← h n (by omega)]
  ·rw [List.take_of_length_le (l:=cs.drop (n * sz)) (by rw [List.length_drop]; omega),List.take_append_drop]
  ·intro i hi
   have h1 : i * sz + sz ≤ n * sz := by
    have:=Nat.mul_le_mul_right sz (show i + 1≤n by omega)
    rw [Nat.succ_mul] at this; exact this
   rw [List.drop_take,List.take_take,Nat.min_eq_left (by omega)]
   exact h i (by omega)
theorem zG.src {H : Hp} {sz n : Nat} {v : Value} {row : Nat → List Value} (h : zG H sz v n row) : qY H sz v ∧ zU v = n ∧ zL H sz v = flat n row := by
 obtain⟨a,cap,rfl,hs,hr⟩:=h
 cases a with
 | none =>
  have hn : n = 0 := by
   cases n with
   | zero=>rfl
   | succ n=>obtain⟨b,o,vs,c,wr,ha,_⟩:=hr (by omega); cases ha
  subst hn
  exact⟨rfl,rfl,rfl⟩
 | some p =>
  cases n with
  | zero =>
   refine⟨.inl rfl,rfl,?_⟩
   simp only [zL]
   split<;>simp [flat]
  | succ m =>
  obtain⟨b,o,vs,c',wr',ha,h2,hi⟩:=hr (by omega)
  cases ha
  have hlen : o + (m + 1) * sz ≤ vs.length ∧ ∀ i, i < m + 1 → (vs.drop (o + i * sz)).take sz = row i := by
   have:=(hi m (by omega)).1
   refine⟨by rw [Nat.succ_mul]; omega,fun i h=>(hi i h).2⟩
  refine⟨.inr ⟨rfl,by rw [h2]; exact hlen.1⟩,rfl,?_⟩
  simp only [zL,h2]
  apply zIq (sz:=sz)
  ·rw [List.length_take,List.length_drop]; omega
  ·intro i hi
   have h1 : i * sz + sz ≤ (m + 1) * sz := by
    have:=Nat.mul_le_mul_right sz (show i + 1≤m + 1 by omega)
    rw [Nat.succ_mul] at this; exact this
   rw [List.drop_take,List.take_take,Nat.min_eq_left (by omega),List.drop_drop]
   exact hlen.2 i hi
def zCF (H : Hp) (sz n : Nat) (row : Nat → List Value) (u : Value) (H' : Hp) : Prop :=
 (u = .slice none 0 0∧n=0∧H'=H)∨∃ b cap,H b=none∧u = .slice (some ⟨b,0,none⟩) n cap∧H'=H.put b (.row (flat n row) (cap * sz) true)
theorem zCF.le {H H' : Hp} {sz n : Nat} {row : Nat → List Value} {u : Value} (h : zCF H sz n row u H') : H.le H' := by
 rcases h with⟨_,_,rfl⟩ | ⟨b,cap,hb,_,rfl⟩
 ·exact Hp.le.refl _
 ·exact zM hb _
theorem zG.ofRow {H : Hp} {sz n cap c : Nat} {row : Nat → List Value} {b : Nat} {wr : Bool} (h : ∀ i, i < n → (row i).length = sz) (hb : H b = some (.row (flat n row) c wr)) : zG H sz (.slice (some ⟨b, 0, none⟩) n cap) n row := by
 refine⟨_,_,rfl,(fun h=>by cases h),fun _=>⟨b,0,_,_,_,rfl,hb,fun i hi=>⟨?_,?_⟩⟩⟩
 ·have h1 : i * sz + sz ≤ n * sz := by
   have:=Nat.mul_le_mul_right sz (show i + 1≤n by omega)
   rw [Nat.succ_mul] at this; exact this
  rw [xR h]; omega
 ·rw [Nat.zero_add]; exact pE h i hi
theorem zCF.at {H H' : Hp} {sz n : Nat} {row : Nat → List Value} {u : Value} (hl : ∀ i, i < n → (row i).length = sz) (h : zCF H sz n row u H') : zG H' sz u n row := by
 rcases h with⟨rfl,rfl,rfl⟩ | ⟨b,cap,hb,rfl,rfl⟩
 ·exact zG.nil
 ·exact zG.ofRow hl (Hp.put_same ..)
end Go.SL
/- Writing into rows. -/
namespace Go.SL
open Go
theorem xZ {n : Nat} {row row' : Nat → List Value} (h : ∀ i, i < n → row i = row' i) : flat n row = flat n row' := by
 induction n with
 | zero=>rfl
 | succ n ih=>rw [vP,vP,ih (fun i hi=>h i (by omega)),h n (by omega)]
theorem yQH {n sz : Nat} {row : Nat → List Value} (h : ∀ i, i < n → (row i).length = sz) {i j : Nat} (hi : i < n) (hj : j < sz) (x : Value) :
  (flat n row).set (i * sz + j) x=flat n (fun i'=>if i'=i then (row i).set j x else row i'):=by
 induction n with
 | zero=>omega
 | succ n ih =>
  have hl:=xR (n:=n) (fun i hi=>h i (by omega))
  rw [vP,vP,List.set_append]
  by_cases e:i=n
  ·subst e
   rw [if_neg (by rw [hl]; omega),hl,Nat.add_sub_cancel_left]
   simp only [if_true]
   congr 1
   exact xZ fun i' h'=>by rw [if_neg (by omega)]
  ·have h1 : i * sz + sz ≤ n * sz := by
    have:=Nat.mul_le_mul_right sz (show i + 1≤n by omega)
    rw [Nat.succ_mul] at this; exact this
   rw [if_pos (by rw [hl]; omega),ih (fun i hi=>h i (by omega)) (by omega),if_neg (by omega)]
theorem yUp {l : List Value} {p : Nat} (h : p < l.length) (x : Value) : l.take p ++ [x] ++ l.drop (p + 1) = l.set p x := by
 rw [List.set_eq_take_append_cons_drop,if_pos h,List.append_assoc]; rfl
theorem zAW {n sz : Nat} {row : Nat → List Value} (h : ∀ i, i < n → (row i).length = sz) {i j : Nat} (hi : i < n) (hj : j < sz) (x : Value) :
  (flat n row).take (i * sz + j) ++ [x] ++ (flat n row).drop (i * sz + j + 1)=flat n (fun i'=>if i'=i then (row i).set j x else row i'):=by
 have h1 : i * sz + sz ≤ n * sz := by
  have:=Nat.mul_le_mul_right sz (show i + 1≤n by omega)
  rw [Nat.succ_mul] at this; exact this
 rw [yUp (by rw [xR h]; omega),yQH h hi hj]
theorem yPP {n sz : Nat} {row : Nat → List Value} (h : ∀ i, i < n → (row i).length = sz) {i j : Nat} (hi : i < n) (hj : j < sz) : (flat n row).getD (i * sz + j) undef = (row i).getD j undef :=
 zH (pE h i hi) hj
def yR (f:Nat→Value) (k:Nat) (x:Value):Nat→Value:=fun i=>if i=k then x else f i
theorem yNU (H : Hp) (b : Nat) : (H.del b).le H := fun c o h => by
 simp only [Hp.del] at h
 split at h
 ·cases h
 ·exact h
theorem zIW {H H' : Hp} {b : Nat} (hb : H b = none) (h : H.le H') : H.le (H'.del b) := fun c o hc => by
 simp only [Hp.del]
 rw [if_neg (by rintro rfl; rw [hb] at hc; cases hc)]
 exact h c o hc
end Go.SL
/- Lists of copies that are being built; a call in a larger memory. -/
namespace Go.SL
open Go
theorem Fn.frame {P : Program} {f : FuncId} {args : List Value} {G H : Hp} {Q : Value → Hp → Prop} (h : Fn P f args G Q) (hle : G.le H) :
  Fn P f args H (fun u H''=>∃ H2,Q u H2∧H2.le H''∧∀ c o,H c=some o→G c=none→H2 c=none∧H'' c=some o):=by
 intro w hw
 refine(h w (hw.le hle)).mono ?_
 rintro e w' ⟨v,H2,he,hs,hk,hq⟩
 have hG : ∀ c, H c = none → G c = none := fun c hc => by
  cases hx:G c with
  | none=>rfl
  | some o=>rw [hle c o hx] at hc; cases hc
 refine⟨v,fun c=>match H2 c with | some o=>some o | none=>if G c=none then H c else none,he,?_,?_,H2,hq,?_,?_⟩
 ·intro b o hb
  simp only at hb
  cases h2:H2 b with
  | some o'=>rw [h2] at hb; simp only at hb; cases hb; exact hs b o h2
  | none =>
   rw [h2] at hb
   simp only at hb
   split at hb
   ·rename_i hg
    rw [hk.same b (hw.lt hb) hg]
    exact hw b o hb
   ·cases hb
 ·refine ⟨hk.os, hk.tape, hk.output, hk.size, fun b hb h0 => hk.same b hb (hG b h0), fun b o hb => ?_, fun b hb ht => by
   have hs2:=hk.shape b hb (fun hx=>ht (hx.le hle))
   refine⟨hs2.1,fun hx=>?_⟩
   cases h2:H2 b with
   | some o=>simp only [h2] at hx; exact hs2.2 (by rw [h2]; exact hx)
   | none =>
    simp only [h2] at hx
    split at hx
    ·exact ht hx
    ·exact hx.elim⟩
  cases h2:H2 b with
  | some o' =>
   rcases hk.fresh b o' h2 with hx | hx
   ·exact .inl fun h0=>hx (hG b h0)
   ·exact .inr hx
  | none =>
   rw [h2] at hb
   simp only at hb
   split at hb
   ·exact .inl (by rw [hb]; simp)
   ·cases hb
 ·intro c o hc
  simp only [hc]
 ·intro c o hc hg
  have hn : H2 c = none := by
   cases h2:H2 c with
   | none=>rfl
   | some o' =>
    rcases hk.fresh c o' h2 with hx | hx
    ·exact absurd hg hx
    ·exact absurd (hw.lt hc) (Nat.not_lt.2 hx)
  exact⟨hn,by simp only [hn,hg,if_true]; exact hc⟩
def zKd (H0 G H : Hp) (v : Value) (L : List xO) : Prop :=
 ∃ z, H0.le G ∧ G.le H ∧ (∀ i, i < L.length → xL G (z i) (L.getD i default).sets) ∧
  ((v = .slice none 0 0∧L = [])∨∃ b cap,G b=none∧v = .slice (some ⟨b,0,none⟩) L.length cap∧H b=some (.row (flat L.length (vW L z)) (cap * 3) true))
def Bld (H0 H : Hp) (v : Value) (L : List xO) : Prop :=
 ∃ G z, H0.le G ∧ G.le H ∧ (∀ i, i < L.length → xL G (z i) (L.getD i default).sets) ∧
  ((v = .slice none 0 0∧L = [])∨∃ b cap,G b=none∧v = .slice (some ⟨b,0,none⟩) L.length cap∧H b=some (.row (flat L.length (vW L z)) (cap * 3) true))
theorem zSx (L:List xO) (z:Nat→Value) (i:Nat):(vW L z i).length=3:=rfl
theorem Bld.puts {H0 H : Hp} {v : Value} {L : List xO} (h : Bld H0 H v L) : pL H v L := by
 obtain⟨G,z,h1,h2,h3,h4⟩:=h
 refine⟨z,?_,fun i hi=>(h3 i hi).mono h2⟩
 rcases h4 with⟨rfl,rfl⟩ | ⟨b,cap,hb,rfl,hH⟩
 ·exact zG.nil
 ·exact zG.ofRow (fun i _=>zSx L z i) hH
theorem Bld.put {H0 H : Hp} {v : Value} {L : List xO} {c : Nat} {o : xD} (h : Bld H0 H v L) (hc : H c = none) : Bld H0 (H.put c o) v L := by
 obtain⟨G,z,h1,h2,h3,h4⟩:=h
 refine⟨G,z,h1,h2.trans (zM hc _),h3,?_⟩
 rcases h4 with h4 | ⟨b,cap,hb,hv,hH⟩
 ·exact .inl h4
 ·exact .inr ⟨b,cap,hb,hv,zM hc _ _ _ hH⟩
section
variable {E:Env} {fr:Fr} {Q:X→Fr→Hp→Prop} {k:List Item} {d:Option Nat} {r:List zA} {live:List Nat}
end
theorem zKd.put {H0 G H : Hp} {v : Value} {L : List xO} {c : Nat} {o : xD} (h : zKd H0 G H v L) (hc : H c = none) : zKd H0 G (H.put c o) v L := by
 obtain⟨z,h1,h2,h3,h4⟩:=h
 refine⟨z,h1,h2.trans (zM hc _),h3,?_⟩
 rcases h4 with h4 | ⟨b,cap,hb,hv,hH⟩
 ·exact .inl h4
 ·exact .inr ⟨b,cap,hb,hv,zM hc _ _ _ hH⟩
theorem zKd.frame {H0 G H H2 H' : Hp} {v : Value} {L : List xO} (h : zKd H0 G H v L) (h1 : G.le H2) (h2 : H2.le H') (h3 : ∀ c o, H c = some o → G c = none → H2 c = none ∧ H' c = some o) : zKd H0 H2 H' v L := by
 obtain⟨z,g1,g2,g3,g4⟩:=h
 refine⟨z,g1.trans h1,h2,fun i hi=>(g3 i hi).mono h1,?_⟩
 rcases g4 with g4 | ⟨b,cap,hb,hv,hH⟩
 ·exact .inl g4
 ·have:=h3 b _ hH hb
  exact .inr ⟨b,cap,this.1,hv,this.2⟩
end Go.SL
/- The codes of the further functions. -/
namespace Go.SL
open Go
structure wC (E : Env) : Prop where
 c86:zB E (E.fn 86) zKH=true
 c85:zB E (E.fn 85) yGa=true
 c119:zB E (E.fn 119) zMI=true
 c120:zB E (E.fn 120) zLQ=true
 c48:zB E (E.fn 48) yHn=true
 c121:zB E (E.fn 121) zLZ=true
 c109:zB E (E.fn 109) zHo=true
 c118:zB E (E.fn 118) zMJ=true
 e120:enters E.P (E.fn 120)=true
 e121:enters E.P (E.fn 121)=true
end Go.SL
/- The codes of further functions. -/
namespace Go.SL
open Go
structure yZ (E : Env) : Prop where
 c124:zB E (E.fn 124) zMr=true
 c122:zB E (E.fn 122) zNw=true
 c130:zB E (E.fn 130) zMk=true
 c125:zB E (E.fn 125) zLM=true
 c126:zB E (E.fn 126) zNf=true
 c131:zB E (E.fn 131) zNm=true
 c128:zB E (E.fn 128) zMb=true
 c127:zB E (E.fn 127) zMj=true
 c132:zB E (E.fn 132) zMi=true
 c139:zB E (E.fn 139) zLN=true
 c138:zB E (E.fn 138) zMY=true
 c140:zB E (E.fn 140) zNj=true
 c129:zB E (E.fn 129) zMh=true
 c141:zB E (E.fn 141) zMz=true
 c143:zB E (E.fn 143) zMx=true
 c142:zB E (E.fn 142) zNu=true
 c144:zB E (E.fn 144) zMO=true
 c135:zB E (E.fn 135) zLR=true
 c136:zB E (E.fn 136) zMC=true
 c123:zB E (E.fn 123) zHg=true
 c146:zB E (E.fn 146) zHE=true
 c147:zB E (E.fn 147) zHl=true
 c158:zB E (E.fn 158) zNv=true
 c155:zB E (E.fn 155) zMS=true
 c157:zB E (E.fn 157) zMG=true
 c159:zB E (E.fn 159) zMB=true
 c161:zB E (E.fn 161) zMV=true
 c160:zB E (E.fn 160) zHA=true
 c162:zB E (E.fn 162) zHF=true
 c163:zB E (E.fn 163) zHG=true
 c156:zB E (E.fn 156) zMA=true
 c172:zB E (E.fn 172) zNi=true
 c174:zB E (E.fn 174) zNn=true
 c173:zB E (E.fn 173) zLX=true
 c177:zB E (E.fn 177) zMZ=true
 e122:enters E.P (E.fn 122)=true
 e125:enters E.P (E.fn 125)=true
 e131:enters E.P (E.fn 131)=true
 e132:enters E.P (E.fn 132)=true
 e140:enters E.P (E.fn 140)=true
 e141:enters E.P (E.fn 141)=true
 e143:enters E.P (E.fn 143)=true
 e155:enters E.P (E.fn 155)=true
 e172:enters E.P (E.fn 172)=true
 e173:enters E.P (E.fn 173)=true
end Go.SL
/- The codes of further functions. -/
namespace Go.SL
open Go
structure xH (E : Env) : Prop where
 c183:zB E (E.fn 183) zMc=true
 c189:zB E (E.fn 189) zLS=true
 c184:zB E (E.fn 184) zMR=true
 c185:zB E (E.fn 185) zMU=true
 c191:zB E (E.fn 191) zMP=true
 c195:zB E (E.fn 195) zMn=true
 c186:zB E (E.fn 186) zMu=true
 c197:zB E (E.fn 197) zMm=true
 c187:zB E (E.fn 187) zMe=true
 c190:zB E (E.fn 190) zMt=true
 c192:zB E (E.fn 192) zMs=true
 c193:zB E (E.fn 193) zML=true
 c194:zB E (E.fn 194) zMM=true
 c201:zB E (E.fn 201) zNq=true
 c202:zB E (E.fn 202) zNr=true
 c203:zB E (E.fn 203) zLU=true
 c204:zB E (E.fn 204) zMX=true
 c205:zB E (E.fn 205) zNa=true
 c208:zB E (E.fn 208) zMa=true
 c209:zB E (E.fn 209) zNe=true
 c210:zB E (E.fn 210) zMo=true
 c211:zB E (E.fn 211) zNb=true
 c212:zB E (E.fn 212) zMW=true
 c213:zB E (E.fn 213) zMv=true
 c214:zB E (E.fn 214) zNh=true
 c198:zB E (E.fn 198) zNc=true
 c199:zB E (E.fn 199) zLO=true
 c196:zB E (E.fn 196) zMw=true
 c215:zB E (E.fn 215) zMK=true
 c216:zB E (E.fn 216) zMg=true
 c217:zB E (E.fn 217) zMH=true
 c206:zB E (E.fn 206) zNo=true
 c218:zB E (E.fn 218) zNd=true
 c200:zB E (E.fn 200) zMD=true
 c219:zB E (E.fn 219) zLV=true
 c220:zB E (E.fn 220) zNg=true
 c221:zB E (E.fn 221) zNs=true
 c222:zB E (E.fn 222) zMd=true
 c223:zB E (E.fn 223) zMT=true
 c207:zB E (E.fn 207) zMq=true
 c224:zB E (E.fn 224) zMF=true
end Go.SL
/- The codes of further functions. -/
namespace Go.SL
open Go
structure yJF (E : Env) : Prop where
 c225:zB E (E.fn 225) zMy=true
end Go.SL
/- Small rules that several texts use. -/
namespace Go.SL
open Go
variable {E:Env} {H:Hp}
section
variable {fr:Fr} {Q:X→Fr→Hp→Prop} {k:List Item} {d:Option Nat} {r:List zA} {live:List Nat}
theorem qP {op : qX} (hop : ∀ x, op ≠ .sim x) (hop' : ∀ f a, op ≠ .callp f a) (h : xQ E op d fr H (fun fr' H' => zT E (.ops r live :: k) fr' H' Q)) : zT E (.ops (⟨d, op, none⟩ :: r) live :: k) fr H Q := by
 simp only [zT,kE,wJ,vG,yM]
 cases op<;>first | exact absurd rfl (hop _) | exact absurd rfl (hop' _ _) | exact⟨trivial,fun _=>(by simpa only [zT] using h),fun h=>by cases h⟩
end
theorem zJV (i:Decidable False) : @decide False i=false:=by cases i<;>first | rfl | (rename_i h; exact h.elim)
theorem zKp (i:Decidable True) : @decide True i=true:=by cases i<;>first | rfl | (rename_i h; exact(h trivial).elim)
theorem w01:IntKind.i64.wrap (0 + 1)=1:=by decide
theorem pL.one {H:Hp} {v:Value} {ps:List xO} (h:pL H v ps):yW v=true:=by obtain⟨z,h,_⟩:=h; exact zG.one h
theorem zG.lit {H : Hp} {b n cap sz c : Nat} {vs : List Value} {wr : Bool} {row : Nat → List Value} (hb : H b = some (.row vs c wr)) (h : ∀ i, i < n → i * sz + sz ≤ vs.length ∧ (vs.drop (i * sz)).take sz = row i) :
  zG H sz (.slice (some ⟨b,0,none⟩) n cap) n row :=
 ⟨_,_,rfl,(fun h=>by cases h),fun _=>⟨b,0,vs,c,wr,rfl,hb,fun i hi=>by rw [Nat.zero_add]; exact h i hi⟩⟩
theorem pL.nil0 {H:Hp}:pL H (.slice none 0 0) []:=⟨fun _=>undef,zG.nil,fun i hi=>by simp at hi⟩
theorem xV.sl {v:Value} {hs:List uP} (h:xV H v hs):∃ a c,v = .slice a hs.length c:=by obtain⟨a,c,h,_⟩:=h; exact⟨a,c,h⟩
theorem zG.sl {sz n:Nat} {v:Value} {row:Nat→List Value} (h:zG H sz v n row):∃ a c,v = .slice a n c:=by obtain⟨a,c,h,_⟩:=h; exact⟨a,c,h⟩
end Go.SL

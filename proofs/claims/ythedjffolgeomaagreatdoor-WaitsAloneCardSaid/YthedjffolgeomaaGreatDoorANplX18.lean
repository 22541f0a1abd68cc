/- Rows of their own that grow; the reference's signatures, aliases. -/
import Derived.Test.YthedjffolgeomaaGreatDoorANplX7
namespace Go.SL
open Go
variable {E:Env} {H:Hp}
def xX (H : Hp) (sz : Nat) (v : Value) (n : Nat) (row : Nat → List Value) : Option Nat → Prop
 | none=>v = .slice none 0 0∧n=0
 | some b=>∃ cap,v = .slice (some ⟨b,0,none⟩) n cap∧H b=some (.row (flat n row) (cap * sz) true)
theorem xX.at {sz : Nat} {v : Value} {n : Nat} {row : Nat → List Value} {ob : Option Nat} (h : xX H sz v n row ob) (hl : ∀ i, i < n → (row i).length = sz) : zG H sz v n row := by
 cases ob with
 | none=>obtain⟨rfl,rfl⟩:=h; exact zG.nil
 | some b=>obtain⟨cap,rfl,hb⟩:=h; exact zG.ofRow hl hb
theorem xX.sl {sz : Nat} {v : Value} {n : Nat} {row : Nat → List Value} {ob : Option Nat} (h : xX H sz v n row ob) : ∃ a c, v = .slice a n c := by
 cases ob with
 | none=>obtain⟨rfl,rfl⟩:=h; exact⟨_,_,rfl⟩
 | some b=>obtain⟨cap,rfl,hb⟩:=h; exact⟨_,_,rfl⟩
theorem xX.keep {H' : Hp} {sz : Nat} {v : Value} {n : Nat} {row : Nat → List Value} {ob : Option Nat} (h : xX H sz v n row ob) (hk : ∀ b, ob = some b → H' b = H b) : xX H' sz v n row ob := by
 cases ob with
 | none=>exact h
 | some b=>obtain⟨cap,rfl,hb⟩:=h; exact⟨cap,rfl,(hk b rfl).trans hb⟩
theorem xX.some_at {sz : Nat} {v : Value} {n : Nat} {row : Nat → List Value} {b : Nat} (h : xX H sz v n row (some b)) : H b ≠ none := by
 obtain⟨cap,rfl,hb⟩:=h; rw [hb]; simp
theorem xX.put {sz : Nat} {v : Value} {n : Nat} {row : Nat → List Value} {ob : Option Nat} {c : Nat} {o : xI} (h : xX H sz v n row ob) (hc : H c = none) : xX (H.put c o) sz v n row ob :=
 h.keep fun b hb => by
  subst hb
  rw [Hp.put_ne]
  rintro rfl; exact h.some_at hc
theorem xX.mono {H' : Hp} {sz : Nat} {v : Value} {n : Nat} {row : Nat → List Value} {ob : Option Nat} (h : xX H sz v n row ob) (hl : H.le H') : xX H' sz v n row ob := by
 cases ob with
 | none=>exact h
 | some b=>obtain⟨cap,rfl,hb⟩:=h; exact⟨cap,rfl,hl _ _ hb⟩
theorem xX.row_congr {sz : Nat} {v : Value} {n : Nat} {row row' : Nat → List Value} {ob : Option Nat} (h : xX H sz v n row ob) (he : ∀ i, i < n → row i = row' i) : xX H sz v n row' ob := by
 cases ob with
 | none=>exact h
 | some b=>obtain⟨cap,rfl,hb⟩:=h; exact⟨cap,rfl,by rw [← xW he]; exact hb⟩
section
variable {fr:Fr} {Q:X→Fr→Hp→Prop} {k:List Item} {d:Option Nat} {r:List zA} {live:List Nat}
theorem zAu {sz bytes n c : Nat} {zero cells : List Value} {s x : Arg} {v : Value} {row row' : Nat → List Value} {ob : Option Nat} {bs : Nat} {wr : Bool} (h1 : vok fr s) (h2 : vok fr x) (hs : vo E fr s = v) (hx : vo E fr x = .slice (some ⟨bs, 0, none⟩) 1 1)
  (hb:H bs=some (.row cells c wr)) (hc:cells.length=sz) (hc1:cells.all yV=true) (hB:xX H sz v n row ob) (hl:∀ i,i < n→(row i).length=sz) (hr:∀ i,i < n→row' i=row i) (hrn:row' n=cells)
  (hn1:(n + 1) * bytes≤140737488355328) (hn2:n + 1≤4611686018427387904)
  (h:∀ v' H' b',xX H' sz v' (n + 1) row' (some b')→(∀ c o,H c=some o→some c≠ob→H' c=some o)→(H b'=none∨some b'=ob)→zS E (.ops r live :: k) (setD fr d ⟨true,.val v'⟩) H' Q) :
  zS E (.ops (⟨d,.app sz bytes zero s x,none⟩ :: r) live :: k) fr H Q:=by
 have e1:pG H sz (vo E fr x):=by rw [hx]; exact .inr ⟨rfl,by rw [hb]; show 0 + 1 * sz≤_; omega⟩
 have e2 : zN H sz (vo E fr x) = cells := by
  rw [hx]
  simp only [zN,hb,List.drop_zero,Nat.one_mul]
  exact List.take_of_length_le (by omega)
 have e3:zV (vo E fr x)=1:=by rw [hx]; rfl
 have e4:(zN H sz (vo E fr x)).all yV=true:=by rw [e2]; exact hc1
 have hfp:flat (n + 1) row'=flat n row ++ cells:=by rw [vT,hrn,xW hr]
 cases ob with
 | none =>
  obtain⟨rfl,rfl⟩:=hB
  refine zDy h1 h2 e1 e4 hs (by rw [e3]; omega) (by rw [e3]; omega) (fun h0=>by rw [e3] at h0; cases h0) fun _ b cap hbn=>?_
  rw [e2,e3]
  refine h _ _ b ⟨cap,rfl,?_⟩ (fun c o hc _=>zJ hbn _ _ _ hc) (.inl hbn)
  rw [Hp.put_same,hfp]; rfl
 | some b0 =>
  obtain⟨cap,rfl,hH⟩:=hB
  have hfl:=xS hl
  refine zAl h1 h2 e1 e4 hs (by rw [e3]; exact hn1) (by rw [e3]; exact hn2) hH hfl rfl fun b cap' hbn=>?_
  rw [e2,e3]
  refine h _ _ b ⟨cap',rfl,?_⟩ (fun c o hc hne=>?_) ?_
  ·rw [Hp.put_same,hfp]
  ·have hcb:c≠b0:=by rintro rfl; exact hne rfl
   refine zJ hbn _ _ _ ?_
   rw [Hp.del_ne _ hcb]; exact hc
  ·by_cases e:b=b0
   ·exact .inr (by rw [e])
   ·rw [Hp.del_ne _ e] at hbn; exact .inl hbn
end
def gD (gs:List kI) (k:Nat):kI:=gs.getD k default
def zDm (apex : Bs) (gs : List kI) (k : Nat) : Bool :=
 !((gD gs k).zone == apex) || decide ((gD gs k).key < 1) || decide ((gD gs k).key > 1000000) || decide ((gD gs k).alg < 1) || decide ((gD gs k).alg > 3) || (gD gs k).from_ != (gD gs 0).from_ || (gD gs k).till != (gD gs 0).till || (!(k == 0) && decide ((gD gs k).key≤(gD gs (k - 1)).key))
def zDv (g:kI):Bool:=decide (g.from_ < 0) || decide (g.from_ > g.till) || decide (g.till > 20000000)
def zIE (apex:Bs) (gs:List kI) (k:Nat):Bool:=!(zDm apex gs k || zDv (gD gs k))
def zFT (gs:List kI) (apex:Bs):Bool:=decide (gs.length≤6) && zP (zIE apex gs) gs.length
set_option maxRecDepth 4000 in
set_option maxHeartbeats 4000000 in
theorem yYv (h4 : xH E) (apex : Bs) {v : Value} {gs : List kI} (hg : xL H v gs) :
  yB E 212 [v,S apex] H (.bool (zFT gs apex)):=by
 obtain⟨a,cap,rfl,hsp,hr⟩:=hg
 refine Fn.of_vks h4.c212 (by simp [zLE]) ?_
 simp only [zLE,yDE,yAC,yDM,zUF,zTC,zVj,zTM,zWD,yDD,zRn,yEt,zPd]
 obtain⟨q0,hq0⟩:∃ y,y=zFT gs apex:=⟨_,rfl⟩
 rw [← hq0]
 unfold zFT at hq0
 by_cases h6:gs.length≤6
 ·have e1:decide ((gs.length:Int) > 6)=false:=by rw [decide_eq_false_iff_not]; omega
  have e1':decide (gs.length≤6)=true:=by rw [decide_eq_true_eq]; exact h6
  rw [e1',Bool.true_and] at hq0
  simp only [e1,go_sem,Nat.reduceEqDiff,Nat.reduceBEq,reduceCtorEq,zC]
  refine zT gs.length 0 (fun k=>[(0,⟨true,.val (.slice a gs.length cap)⟩),(1,⟨true,.val (S apex)⟩),(5,⟨true,.val (.int .i64 k)⟩)]) (fun k=>zP (zIE apex gs) k=true) (Nat.zero_le _) rfl rfl ?_
  intro k hk hP
  by_cases hlt:k < gs.length
  ·have hdl:decide ((k:Int) < (gs.length:Int))=true:=by simpa using hlt
   obtain⟨b,o,vs,c,wr,rfl,hb,hi⟩:=hr (by omega)
   have hi1:=(hi k hlt).1
   have hi2:=(hi k hlt).2
   have z1:=(hi 0 (by omega)).1
   have z2:=(hi 0 (by omega)).2
   have z3:=zK z2 (j:=3) (by omega)
   have z4:=zK z2 (j:=4) (by omega)
   obtain⟨g,hgk⟩:∃ y,y=gD gs k:=⟨_,rfl⟩
   obtain⟨g0,hg0⟩:∃ y,y=gD gs 0:=⟨_,rfl⟩
   have hg':gs.getD k default=g:=hgk.symm
   have hg0':gs.getD 0 default=g0:=hg0.symm
   have hat:zIE apex gs k = !(zDm apex gs k || zDv g):=by rw [hgk]; rfl
   have hb1:zDm apex gs k=(!(g.zone == apex) || decide (g.key < 1) || decide (g.key > 1000000) || decide (g.alg < 1) || decide (g.alg > 3) || g.from_ != g0.from_ || g.till != g0.till || (!(k == 0) && decide (g.key≤(gD gs (k - 1)).key))):=by rw [hgk,hg0]; rfl
   simp only [zAf,hg',hg0',List.getD_cons_zero,List.getD_cons_succ,Nat.zero_mul,Nat.add_zero] at hi2 z3 z4
   have hAT:∀ c:Bool,zDm apex gs k=c→c=true→q0=false:=fun c h1 h2=>by rw [hq0]; exact zY hlt (by rw [hat,h1,h2]; rfl)
   have hA2:zDv g=true→q0=false:=fun h2=>by rw [hq0]; exact zY hlt (by rw [hat,h2,Bool.or_true]; rfl)
   have hA3:∀ c:Bool,zDm apex gs k=c→c=false→zDv g=false→zP (zIE apex gs) (k + 1)=true:=fun c h1 h2 h3=>yJ hP (by rw [hat,h1,h2,h3]; rfl)
   unfold zDv at hA2 hA3
   by_cases hk0:k=0
   ·have e0:decide ((k:Int) > 0)=false:=by rw [decide_eq_false_iff_not]; omega
    have e0':(k == 0)=true:=by simpa using hk0
    rw [e0',Bool.not_true,Bool.false_and,Bool.or_false] at hb1
    simp only [hdl,hb,hi2,z3,z4,e0,↓yA,go_sem,Nat.reduceLeDiff,Nat.reduceEqDiff,Nat.reduceBEq,Nat.reduceAdd,reduceCtorEq,Int.reduceToNat,Int.reduceLE,zC]
    refine⟨⟨by omega,by omega⟩,by omega,fun h=>⟨h,by omega⟩,fun h=>⟨h,by omega⟩,fun h=>⟨h,h⟩,fun h=>⟨h,by omega⟩,fun h=>⟨h,by omega⟩,fun h=>⟨h,h⟩,fun h=>(hAT _ hb1 h).symm,fun h=>⟨fun h=>⟨h,h⟩,fun h2=>(hA2 h2).symm,fun h2=>⟨hlt,zR (by omega),hA3 _ hb1 h h2⟩⟩⟩
   ·have e0:decide ((k:Int) > 0)=true:=by rw [decide_eq_true_eq]; omega
    have e0':(k == 0)=false:=by simpa using hk0
    have e1:IntKind.i64.wrap ((k:Int) - 1)=((k - 1:Nat):Int):=by rw [yZ]<;>omega
    have j1:=(hi (k - 1) (by omega)).1
    have j2:=zK (hi (k - 1) (by omega)).2 (j:=1) (by omega)
    obtain⟨p,hp⟩:∃ y,y=gD gs (k - 1):=⟨_,rfl⟩
    have hp':gs.getD (k - 1) default=p:=hp.symm
    rw [e0',Bool.not_false,Bool.true_and,← hp] at hb1
    simp only [zAf,hp',List.getD_cons_zero,List.getD_cons_succ] at j2
    simp only [hdl,hb,hi2,z3,z4,j2,e0,e1,toNat_ofNat',go_sem,Nat.reduceLeDiff,Nat.reduceEqDiff,Nat.reduceBEq,Nat.reduceAdd,reduceCtorEq,Int.reduceToNat,Int.reduceLE,zC]
    refine⟨⟨by omega,by omega⟩,by omega,fun h=>⟨h,by omega⟩,fun h=>⟨h,by omega⟩,fun h=>⟨h,h⟩,fun h=>⟨h,by omega⟩,fun h=>⟨h,by omega⟩,fun h=>⟨h,h⟩,fun h=>⟨h,h,by omega,by omega⟩,fun h=>⟨h,by omega⟩,fun h=>⟨h,h⟩,fun h=>⟨h,h⟩,fun h=>(hAT _ hb1 h).symm,fun h=>⟨fun h=>⟨h,h⟩,fun h2=>(hA2 h2).symm,fun h2=>⟨hlt,zR (by omega),hA3 _ hb1 h h2⟩⟩⟩
  ·have hdl:decide ((k:Int) < (gs.length:Int))=false:=by simpa using hlt
   have:k=gs.length:=by omega
   subst this
   rw [hP] at hq0
   simp only [hdl,hq0,go_sem,Nat.reduceEqDiff,Nat.reduceBEq,Nat.reduceAdd,reduceCtorEq,zC]
 ·have e1:decide ((gs.length:Int) > 6)=true:=by rw [decide_eq_true_eq]; omega
  have e1':decide (gs.length≤6)=false:=by rw [decide_eq_false_iff_not]; exact h6
  rw [e1',Bool.false_and] at hq0
  simp only [e1,hq0,go_sem,Nat.reduceEqDiff,Nat.reduceBEq,reduceCtorEq,zC]
end Go.SL

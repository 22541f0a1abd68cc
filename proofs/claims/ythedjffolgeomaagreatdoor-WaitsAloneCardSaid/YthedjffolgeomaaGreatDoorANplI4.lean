/- Regions that draw their order: the steps, and all orders. -/
import Derived.Test.YthedjffolgeomaaGreatDoorANplI1
namespace Go.SL
open Go
section
variable {E:Env} {n:Nat} {ops:Array Oper} {m:List Nat} {all:List yU} {K:Fr→Hp→Prop} {L:Array Bool} {p D rest:List yU} {fr frC:Fr} {H:Hp}
theorem zCK : ∀ {rest p : List yU}, zAO E n ops m all p rest = true → ∀ z ∈ rest, (∀ y ∈ p, y.i ≠ z.i ∧ ∀ d, z.o.dst = some d → y.o.dst ≠ some d) ∧
  (∃ o,ops[z.i]? = some o∧∀ j∈pO o,j < z.i∧∃ q,(q∈p∨q∈rest)∧q.i=j)∧(∀ y∈p,(y.o.isSim=true)∨(m.getD z.i 0).testBit y.i=true)
 | [],_,_,_,hz=>absurd hz List.not_mem_nil
 | x :: r, p, h, z, hz => by
  simp only [zAO,Bool.and_eq_true] at h
  obtain⟨o,h1,h2,h3,h4,h5,h6⟩:=zAB h.1
  rcases List.mem_cons.1 hz with rfl | hz
  ·refine⟨h5,⟨o,h1,fun j hj=>⟨(h3 j hj).1,(h3 j hj).2.imp fun q hq=>⟨.inl hq.1,hq.2⟩⟩⟩,fun y hy=>?_⟩
   rcases h6 y hy with h | h | h
   ·exact .inl h.1
   ·exact .inr h
   ·exact .inl h.1
  ·obtain⟨k1,⟨o',k2,k3⟩,k4⟩:=zCK h.2 z hz
   refine⟨fun y hy=>k1 y (List.mem_cons_of_mem _ hy),⟨o',k2,fun j hj=>⟨(k3 j hj).1,?_⟩⟩,fun y hy=>k4 y (List.mem_cons_of_mem _ hy)⟩
   obtain⟨q,hq,e⟩:=(k3 j hj).2
   refine⟨q,?_,e⟩
   rcases hq with hq | hq
   ·rcases List.mem_cons.1 hq with rfl | hq
    ·exact .inr (List.mem_cons_self ..)
    ·exact .inl hq
   ·exact .inr (List.mem_cons_of_mem _ hq)
theorem zBV : ∀ {rest p : List yU}, zAO E n ops m all p rest = true → ∀ i, i < m.length → ∃ y, (y ∈ p ∨ y ∈ rest) ∧ y.i = i
 | [], p, h, i, hi => by
  simp only [zAO] at h
  obtain⟨y,hy,e⟩:=List.any_eq_true.1 (List.all_eq_true.1 h i (List.mem_range.2 hi))
  exact⟨y,.inl hy,by simpa using e⟩
 | x :: r, p, h, i, hi => by
  simp only [zAO,Bool.and_eq_true] at h
  obtain⟨y,hy,e⟩:=zBV h.2 i hi
  refine⟨y,?_,e⟩
  rcases hy with hy | hy
  ·rcases List.mem_cons.1 hy with rfl | hy
   ·exact .inr (List.mem_cons_self ..)
   ·exact .inl hy
  ·exact .inr (List.mem_cons_of_mem _ hy)
theorem zGk {x : yU} (h : zAO E n ops m all p (x :: rest) = true) : ∀ z ∈ rest, z.i ≠ x.i ∧ ∀ d, z.o.dst = some d → x.o.dst ≠ some d := by
 intro z hz
 simp only [zAO,Bool.and_eq_true] at h
 have:=(zCK h.2 z hz).1 x (List.mem_cons_self ..)
 exact⟨Ne.symm this.1,this.2⟩
theorem zAk.cg {fr fr' : Fr} {x : zA} (hag : ∀ a ∈ x.sl, vR fr fr' a) (hd : ∀ d, x.dst = some d → fr.get d = fr'.get d) (h : zAk E fr' H x) : zAk E fr H x := by
 obtain⟨g1,g2⟩:=zFs hag
 have ha:=zHo hag
 unfold zAk at *
 cases e:x.op with
 | sim y =>
  rw [e] at h ha
  simp only at h ⊢
  obtain⟨s1,s2⟩:=zQX (E:=E) (H:=H) (x:=y) ha
  rw [g1,g2,s1,s2]
  refine⟨h.1,h.2.1,?_⟩
  have h:=h.2.2
  cases ed:x.dst with
  | none=>trivial
  | some d=>rw [ed] at h; simp only at h ⊢; rw [hd d ed]; exact h
 | _=>rw [e] at h; exact h
theorem zKO {ls : List Nat} : ∀ {p : List yU}, pX E fr H ls p → ∀ y ∈ p, ls.contains y.i = true → zAk E fr H y.o
 | [],_,_,hy,_=>absurd hy List.not_mem_nil
 | x :: p, h, y, hy, hl => by
  rcases List.mem_cons.1 hy with rfl | hy
  ·have:=h.1; rw [if_pos hl] at this; exact this
  ·exact zKO h.2 y hy hl
theorem DI.stepD (h : DI E n ops m all K L p D rest fr frC H) {x : yU} (hx : x ∈ D) (hl : ∀ o, ops[x.i]? = some o → ∀ j ∈ pO o, L.getD j false = true) :
  vI E x.o fr H fun fr' H'=>DI E n ops m all K (L.setIfInBounds x.i true) p (D.filter (fun y=>y.i != x.i)) rest fr' frC H':=by
 obtain⟨o,ho,hc,hz,hr⟩:=h.past.op x (h.dp x hx)
 have hag:=h.ag hr (hl o ho)
 have hst:=h.stab x hx
 have hi:x.i < L.size:=by rw [h.lsz]; exact(Array.getElem?_eq_some_iff.1 ho).1
 obtain⟨g1,g2⟩:=zFs hag
 have ha:=zHo hag
 have hds : ∀ s, s ∈ wV (D.filter (fun y => y.i != x.i)) ↔ s ∈ wV D ∧ x.o.dst ≠ some s := by
  intro s
  rw [kJ,kJ]
  constructor
  ·rintro⟨y,hy,hd⟩
   obtain⟨hy,hne⟩:=List.mem_filter.1 hy
   refine⟨⟨y,hy,hd⟩,fun he=>?_⟩
   have:=h.past.dinj y (h.dp y hy) x (h.dp x hx) s hd he
   subst this
   simp at hne
  ·rintro⟨⟨y,hy,hd⟩,hne⟩
   refine⟨y,List.mem_filter.2 ⟨hy,?_⟩,hd⟩
   simp only [bne_iff_ne,ne_eq]
   intro e
   have:=h.past.inj y (h.dp y hy) x (h.dp x hx) e
   subst this
   exact hne hd
 unfold zAk at hst
 unfold vI
 cases e:x.o.op with
 | sim y =>
  rw [e] at hst ha
  simp only at hst ⊢
  obtain⟨s1,s2⟩:=zQX (E:=E) (H:=H) (x:=y) ha
  rw [g1,g2,s1,s2]
  refine⟨hst.1,hst.2.1,?_⟩
  have hrel : (SL.setD fr x.o.dst ⟨yY frC x.o.guard, xN E frC H y⟩).nodup ∧ jE (SL.setD fr x.o.dst ⟨yY frC x.o.guard, xN E frC H y⟩) ∧
    ∀ s,(SL.setD fr x.o.dst ⟨yY frC x.o.guard,xN E frC H y⟩).get s=if s∈wV (D.filter (fun y=>y.i != x.i)) then none else frC.get s:=by
   have hst:=hst.2.2
   cases ed:x.o.dst with
   | none =>
    refine⟨h.nd,h.cf,fun s=>?_⟩
    have:(s∈wV (D.filter (fun y=>y.i != x.i)))↔s∈wV D:=by rw [hds,ed]; simp
    simp only [SL.setD,this]
    exact h.rel s
   | some d =>
    rw [ed] at hst
    simp only at hst
    have hfd:fr.get d=none:=by rw [h.rel d,if_pos (kJ.2 ⟨x,hx,ed⟩)]
    refine⟨Fr.nodup_set h.nd _ _,zDb h.nd h.cf hfd ?_,fun s=>?_⟩
    ·intro t o' he
     simp only at he
     rw [← s1] at he
     obtain⟨a',u,hu⟩:=zUv he
     exact h.cf.lp hu
    ·simp only [SL.setD]
     rw [zBc h.nd h.cf hfd]
     by_cases es:s=d
     ·subst es
      rw [if_pos rfl,if_neg (by rw [hds,ed]; simp),hst]
     ·rw [if_neg es,h.rel s]
      have:(s∈wV (D.filter (fun y=>y.i != x.i)))↔s∈wV D:=by rw [hds,ed]; simp [Ne.symm es]
      simp only [this]
  refine⟨h.past,h.chk,h.sub,fun y hy=>h.dp y (List.mem_filter.1 hy).1,?_,?_,?_,?_,yNm h.cl hi ho (hl o ho),hrel.1,h.ndC,hrel.2.1,h.cfC,hrel.2.2,h.fresh,fun y hy=>h.stab y (List.mem_filter.1 hy).1,h.ev⟩
  ·intro y hy hn
   rw [qV hi]
   split
   ·rfl
   ·rename_i hne
    exact h.lst y hy fun hyD=>hn (List.mem_filter.2 ⟨hyD,by simpa using hne⟩)
  ·intro y hy
   obtain⟨hy,hne⟩:=List.mem_filter.1 hy
   rw [qV hi,if_neg (by simpa using hne)]
   exact h.unl y hy
  ·intro y hy
   rw [qV hi]
   rw [if_neg (fun e=>((zCK h.chk y hy).1 x (h.dp x hx)).1 e.symm)]
   exact h.unr y hy
  ·simp [h.lsz]
 | _=>rw [e] at hst; exact hst.elim
theorem DI.absorb {x : yU} (h : DI E n ops m all K L p D (x :: rest) fr frC H) (hs : x.o.isSim = true) : ∃ frC', DI E n ops m all K L (x :: p) (x :: D) rest fr frC' H := by
 have hchk:=h.chk
 simp only [zAO,Bool.and_eq_true] at hchk
 obtain⟨o,h1,h2,h3,h4,h5,h6⟩:=zAB hchk.1
 have hxa:x∈all:=h.sub x (List.mem_cons_self ..)
 unfold zA.isSim at hs
 split at hs
 ·rename_i y e
  have ev:=h.ev
  simp only [evd,vI,e] at ev
  obtain⟨hg,hcond,_,hev⟩:=ev
  refine⟨SL.setD frC x.o.dst ⟨yY frC x.o.guard,xN E frC H y⟩,?_⟩
  have hget : ∀ s, (SL.setD frC x.o.dst ⟨yY frC x.o.guard, xN E frC H y⟩).get s = if x.o.dst = some s then some ⟨yY frC x.o.guard, xN E frC H y⟩ else frC.get s := by
   intro s
   cases ed:x.o.dst with
   | none=>simp [SL.setD]
   | some d =>
    simp only [SL.setD]
    rw [zBc h.ndC h.cfC (h.fresh x (List.mem_cons_self ..) d ed)]
    by_cases es:s=d
    ·subst es; simp
    ·rw [if_neg es,if_neg (by intro hh; cases hh; exact es rfl)]
  have hagN : ∀ z : yU, (∀ s, Arg.t s ∈ z.o.sl → x.o.dst ≠ some s) → ∀ a ∈ z.o.sl, vR (SL.setD frC x.o.dst ⟨yY frC x.o.guard, xN E frC H y⟩) frC a := by
   intro z hz a ha
   cases a with
   | t s =>
    have e1:=hget s
    rw [if_neg (hz s ha)] at e1
    refine⟨e1,fun c t o' hlp=>?_⟩
    rw [e1] at hlp
    obtain⟨c',vs,ht⟩:=h.cfC s c t o' hlp
    rw [hget t,if_neg]
    intro hd
    rw [h.fresh x (List.mem_cons_self ..) t hd] at ht; cases ht
   | c=>trivial
   | g=>trivial
   | f=>trivial
  have hnr : ∀ z ∈ x :: p, ∀ s, Arg.t s ∈ z.o.sl → x.o.dst ≠ some s := by
   intro z hz s hs hd
   rcases List.mem_cons.1 hz with rfl | hz
   ·obtain⟨q,hq,hqi⟩:=(h3 _ (h4 s hs z hxa hd)).2
    exact(h5 q hq).1 hqi
   ·obtain⟨o',_,_,k3,k4⟩:=h.past.op z hz
    obtain⟨q,hq,hqi⟩:=(k3 _ (k4 s hs x hxa hd)).2
    exact(h5 q hq).1 hqi
  refine⟨h.past.cons hchk.1 hxa,hchk.2,fun z hz=>h.sub z (List.mem_cons_of_mem _ hz),?_,?_,?_,fun z hz=>h.unr z (List.mem_cons_of_mem _ hz),h.lsz,h.cl,h.nd,?_,h.cf,?_,?_,?_,?_,hev⟩
  ·intro z hz
   rcases List.mem_cons.1 hz with rfl | hz
   ·exact List.mem_cons_self ..
   ·exact List.mem_cons_of_mem _ (h.dp z hz)
  ·intro z hz hn
   rcases List.mem_cons.1 hz with rfl | hz
   ·exact absurd (List.mem_cons_self ..) hn
   ·exact h.lst z hz fun hd=>hn (List.mem_cons_of_mem _ hd)
  ·intro z hz
   rcases List.mem_cons.1 hz with rfl | hz
   ·exact h.unr z (List.mem_cons_self ..)
   ·exact h.unl z hz
  ·cases ed:x.o.dst with
   | none=>exact h.ndC
   | some d=>exact Fr.nodup_set h.ndC _ _
  ·cases ed:x.o.dst with
   | none=>exact h.cfC
   | some d =>
    refine zDb h.ndC h.cfC (h.fresh x (List.mem_cons_self ..) d ed) ?_
    intro t o' he
    simp only at he
    obtain⟨a',u,hu⟩:=zUv he
    exact h.cfC.lp hu
  ·intro s
   rw [hget s]
   by_cases hd:x.o.dst=some s
   ·rw [if_pos (kJ.2 ⟨x,List.mem_cons_self ..,hd⟩),h.rel s,h.fresh x (List.mem_cons_self ..) s hd]
    simp
   ·rw [if_neg hd,h.rel s]
    have : s ∈ wV (x :: D) ↔ s ∈ wV D := by
     rw [kJ,kJ]
     constructor
     ·rintro⟨z,hz,hzd⟩
      rcases List.mem_cons.1 hz with rfl | hz
      ·exact absurd hzd hd
      ·exact⟨z,hz,hzd⟩
     ·rintro⟨z,hz,hzd⟩; exact⟨z,List.mem_cons_of_mem _ hz,hzd⟩
    simp only [this]
  ·intro z hz d hd
   rw [hget d,if_neg ((zGk h.chk z hz).2 d hd)]
   exact h.fresh z (List.mem_cons_of_mem _ hz) d hd
  ·intro z hz
   rcases List.mem_cons.1 hz with rfl | hz
   ·have hag:=hagN z (hnr z (List.mem_cons_self ..))
    obtain⟨g1,g2⟩:=zFs hag
    have ha:=zHo hag
    rw [e] at ha
    obtain⟨s1,s2⟩:=zQX (E:=E) (H:=H) (x:=y) ha
    unfold zAk
    simp only [e]
    rw [g1,g2,s1,s2]
    refine⟨hg,hcond,?_⟩
    cases ed:z.o.dst with
    | none=>trivial
    | some d =>
     simp only
     have:=hget d
     rw [ed,if_pos rfl] at this
     exact this
   ·refine zAk.cg (hagN z (hnr z (List.mem_cons_of_mem _ (h.dp z hz)))) (fun d hd=>?_) (h.stab z hz)
    rw [hget d,if_neg]
    intro hx'
    exact(h5 z (h.dp z hz)).2 d hx' hd
 ·cases hs
structure FP (D rest : List yU) (fr frC : Fr) : Prop where
 nd:fr.nodup
 ndC:frC.nodup
 cf:jE fr
 cfC:jE frC
 rel:∀ s,fr.get s=if s∈wV D then none else frC.get s
 fresh:∀ x∈rest,∀ d,x.o.dst=some d→frC.get d=none
theorem FP.setD {x : yU} (h : FP D (x :: rest) fr frC) (hD : ∀ d, x.o.dst = some d → d ∉ wV D) (hr : ∀ z ∈ rest, ∀ d, z.o.dst = some d → x.o.dst ≠ some d) {c : Bool} {v : Value} :
  FP D rest (SL.setD fr x.o.dst ⟨c,.val v⟩) (SL.setD frC x.o.dst ⟨c,.val v⟩):=by
 cases ed:x.o.dst with
 | none=>exact⟨h.nd,h.ndC,h.cf,h.cfC,h.rel,fun z hz=>h.fresh z (List.mem_cons_of_mem _ hz)⟩
 | some d =>
  have hfC:frC.get d=none:=h.fresh x (List.mem_cons_self ..) d ed
  have hf:fr.get d=none:=by rw [h.rel d,hfC]; simp
  refine⟨Fr.nodup_set h.nd _ _,Fr.nodup_set h.ndC _ _,zDb h.nd h.cf hf (fun t o e=>by cases e),zDb h.ndC h.cfC hfC (fun t o e=>by cases e),fun s=>?_,fun z hz d' hd'=>?_⟩
  ·simp only [SL.setD]
   rw [zBc h.nd h.cf hf,zBc h.ndC h.cfC hfC]
   by_cases es:s=d
   ·subst es; simp [hD s ed]
   ·rw [if_neg es,if_neg es]; exact h.rel s
  ·simp only [SL.setD]
   rw [zBc h.ndC h.cfC hfC,if_neg]
   ·exact h.fresh z (List.mem_cons_of_mem _ hz) d' hd'
   ·rintro rfl; exact hr z hz _ hd' ed
theorem FP.upb (h : FP D rest fr frC) {s : Nat} {c : Bool} {vs : List Value} (us : List Value) (h1 : fr.get s = some ⟨c, .box vs⟩) (h2 : frC.get s = some ⟨c, .box vs⟩) :
  FP D rest (fr.upb s us) (frC.upb s us):=by
 refine⟨nodup_upb h.nd _ _,nodup_upb h.ndC _ _,zIJ h.cf _ _ h1,zIJ h.cfC _ _ h2,fun t=>?_,fun x hx d hd=>?_⟩
 ·rw [get_upb,get_upb,h1,h2]
  by_cases e:t=s
  ·subst e
   have:=h.rel t
   rw [h1,h2] at this
   by_cases e':t∈wV D
   ·rw [if_pos e'] at this; cases this
   ·simp [e']
  ·rw [if_neg e,if_neg e]; exact h.rel t
 ·rw [get_upb]
  have:=h.fresh x hx d hd
  rw [if_neg]
  ·exact this
  ·rintro rfl; rw [h2] at this; cases this
theorem DI.stepB {x : yU} (hm : ∀ i j, (m.getD i 0).testBit j = true → Pre ops i j) (h : DI E n ops m all K L p D (x :: rest) fr frC H) (hs : x.o.isSim = false)
  (hl:∀ o,ops[x.i]? = some o→∀ j∈pO o,L.getD j false=true) :
  vI E x.o fr H fun fr' H'=>∃ frC',DI E n ops m all K (L.setIfInBounds x.i true) (x :: p) D rest fr' frC' H':=by
 have hchk:=h.chk
 simp only [zAO,Bool.and_eq_true] at hchk
 obtain⟨o,h1,h2,h3,h4,h5,h6⟩:=zAB hchk.1
 have hxa:x∈all:=h.sub x (List.mem_cons_self ..)
 have hi:x.i < L.size:=by rw [h.lsz]; exact(Array.getElem?_eq_some_iff.1 h1).1
 have hag:=h.ag h4 (hl o h1)
 obtain⟨g1,g2⟩:=zFs hag
 have ha:=zHo hag
 have hfp:FP D (x :: rest) fr frC:=⟨h.nd,h.ndC,h.cf,h.cfC,h.rel,h.fresh⟩
 have hD : ∀ d, x.o.dst = some d → d ∉ wV D := by
  intro d hd hm
  obtain⟨y,hy,hyd⟩:=kJ.1 hm
  exact(h5 y (h.dp y hy)).2 d hd hyd
 have hr:∀ z∈rest,∀ d,z.o.dst=some d→x.o.dst≠some d:=fun z hz=>(zGk h.chk z hz).2
 have next : ∀ {fr' frC' H'}, FP D rest fr' frC' → pX E frC' H' x.ls p → evd E (x :: p) rest frC' H' K → DI E n ops m all K (L.setIfInBounds x.i true) (x :: p) D rest fr' frC' H' := by
  intro fr' frC' H' hf hst hev
  refine⟨h.past.cons hchk.1 hxa,hchk.2,fun z hz=>h.sub z (List.mem_cons_of_mem _ hz),fun z hz=>List.mem_cons_of_mem _ (h.dp z hz),?_,?_,?_,by simp [h.lsz],yNm h.cl hi h1 (hl o h1),hf.nd,hf.ndC,hf.cf,hf.cfC,hf.rel,hf.fresh,?_,hev⟩
  ·intro z hz hn
   rw [qV hi]
   rcases List.mem_cons.1 hz with rfl | hz
   ·simp
   ·split
    ·rfl
    ·exact h.lst z hz hn
  ·intro z hz
   rw [qV hi,if_neg (h5 z (h.dp z hz)).1]
   exact h.unl z hz
  ·intro z hz
   rw [qV hi,if_neg (zGk h.chk z hz).1]
   exact h.unr z (List.mem_cons_of_mem _ hz)
  ·intro z hz
   rcases h6 z (h.dp z hz) with hh | hh | hh
   ·rw [hs] at hh; cases hh.2
   ·have:=hm _ _ hh _ h.cl hl
    rw [h.unl z hz] at this; cases this
   ·exact zKO hst z (h.dp z hz) hh.2
 have ev:=h.ev
 simp only [evd] at ev
 unfold vI at ev ⊢
 rw [g1,g2]
 refine⟨ev.1,?_⟩
 have ev:=ev.2
 have hbig : ∀ {op : pB}, (∀ a ∈ op.args, vR fr frC a) → xU E op x.o.dst frC H (fun fr' H' => pX E fr' H' x.ls p ∧ evd E (x :: p) rest fr' H' K) →
   xU E op x.o.dst fr H (fun fr' H'=>∃ frC',DI E n ops m all K (L.setIfInBounds x.i true) (x :: p) D rest fr' frC' H'):=by
  intro op ha hb
  refine yVr ha ?_ ?_ hb
  ·intro v H' hk
   exact⟨_,next (hfp.setD hD hr) hk.1 hk.2⟩
  ·intro s vs us H' e1 e2 hk
   exact⟨_,next ((hfp.upb us e1 e2).setD hD hr) hk.1 hk.2⟩
 unfold zA.isSim at hs
 cases e:x.o.op with
 | sim y=>rw [e] at hs; cases hs
 | callp f args =>
  rw [e] at ev ha
  simp only at ev ⊢
  obtain⟨v,hv,hk⟩:=ev
  have ha':∀ a∈args,vR fr frC a:=ha
  rw [zDN ha',zGn (E:=E) ha']
  exact⟨v,hv,_,next (hfp.setD hD hr) hk.1 hk.2⟩
 | _ =>
  rw [e] at ev ha
  simp only at ev ⊢
  exact⟨fun hg=>hbig ha (ev.1 hg),fun hg=>⟨_,next (hfp.setD hD hr) (ev.2 hg).1 (ev.2 hg).2⟩⟩
theorem DI.upto {x : yU} (hm : ∀ i j, (m.getD i 0).testBit j = true → Pre ops i j) (hl : ∀ o, ops[x.i]? = some o → ∀ j ∈ pO o, L.getD j false = true) : ∀ {rest p D : List yU} {frC : Fr}, DI E n ops m all K L p D rest fr frC H → x ∈ rest →
  ∃ p' D' rest' frC',DI E n ops m all K L p' D' (x :: rest') fr frC' H∧D'.length + rest'.length + 1≤D.length + rest.length
 | [],_,_,_,_,hx=>absurd hx List.not_mem_nil
 | z :: r, p, D, frC, h, hx => by
  by_cases e:x=z
  ·subst e; exact⟨p,D,r,frC,h,by simp; omega⟩
  ·have hx':x∈r:=(List.mem_cons.1 hx).resolve_left e
   have hs : z.o.isSim = true := by
    have hchk:=h.chk
    simp only [zAO,Bool.and_eq_true] at hchk
    rcases(zCK hchk.2 x hx').2.2 z (List.mem_cons_self ..) with hh | hh
    ·exact hh
    ·have:=hm _ _ hh _ h.cl hl
     rw [h.unr z (List.mem_cons_self ..)] at this; cases this
   obtain⟨frC',h'⟩:=h.absorb hs
   obtain⟨p',D',rest',frC'',h'',hle⟩:=DI.upto hm hl h' hx'
   refine⟨p',D',rest',frC'',h'',?_⟩
   simp only [List.length_cons] at hle ⊢
   omega
theorem DI.some_ready (h : DI E n ops m all K L p D rest fr frC H) : ∀ (k : Nat) (x : yU), x.i = k → (x ∈ p ∨ x ∈ rest) → L.getD x.i false = false → Region.ready .any ops L ≠ [] := by
 intro k
 induction k using Nat.strongRecOn with
 | ind k ih =>
  intro x hk hx hu
  have hop : ∃ o, ops[x.i]? = some o ∧ ∀ j ∈ pO o, j < x.i ∧ ∃ q, (q ∈ p ∨ q ∈ rest) ∧ q.i = j := by
   rcases hx with hx | hx
   ·obtain⟨o,k1,_,k3,_⟩:=h.past.op x hx
    exact⟨o,k1,fun j hj=>⟨(k3 j hj).1,(k3 j hj).2.imp fun q hq=>⟨.inl hq.1,hq.2⟩⟩⟩
   ·exact(zCK h.chk x hx).2.1
  obtain⟨o,ho,hj⟩:=hop
  by_cases hall:∀ j∈pO o,L.getD j false=true
  ·intro hnil
   have hlt:x.i < ops.size:=(Array.getElem?_eq_some_iff.1 ho).1
   have : x.i ∈ Region.ready .any ops L := by
    simp only [Region.ready,List.mem_filter,List.mem_range,Bool.and_eq_true,Bool.not_eq_true']
    refine⟨hlt,?_,?_⟩
    ·have hlt':x.i < L.size:=by rw [h.lsz]; exact hlt
     simp only [Array.getD,hlt',dif_pos] at hu ⊢
     exact hu
    ·simp only [ho,Option.map_some,Option.getD_some,Array.all_eq_true_iff_forall_mem,Bool.or_eq_true,Bool.not_eq_true']
     intro e he
     by_cases hb:Region.binds .any e=true
     ·exact .inr (hall e.on (List.mem_map.2 ⟨e,List.mem_filter.2 ⟨by simpa using he,hb⟩,rfl⟩))
     ·exact .inl (by simpa using hb)
   rw [hnil] at this; cases this
  ·have ⟨j, hjm, hjn⟩ : ∃ j, j ∈ pO o ∧ ¬ L.getD j false = true := by
    apply Classical.byContradiction
    intro hn
    exact hall fun j hj=>Classical.byContradiction fun hc=>hn ⟨j,hj,hc⟩
   obtain⟨hlt,q,hq,hqi⟩:=hj j hjm
   exact ih j (by omega) q hqi hq (by rw [hqi]; simpa using hjn)
theorem DI.done (h : DI E n ops m all K L p D rest fr frC H) (hr : Region.ready .any ops L = []) : D = [] ∧ rest = [] := by
 constructor
 ·cases hD:D with
  | nil=>rfl
  | cons x r =>
   have hx:x∈D:=by rw [hD]; exact List.mem_cons_self ..
   exact absurd hr (h.some_ready _ x rfl (.inl (h.dp x hx)) (h.unl x hx))
 ·cases hD:rest with
  | nil=>rfl
  | cons x r =>
   have hx:x∈rest:=by rw [hD]; exact List.mem_cons_self ..
   exact absurd hr (h.some_ready _ x rfl (.inr hx) (h.unr x hx))
variable {w0:World} {H0:Hp} {ro:Option Nat} {Q:Exit→Act→World→Prop}
theorem DI.sound (hlen : m.length = ops.size) (hm : ∀ i j, (m.getD i 0).testBit j = true → Pre ops i j) (hK : ∀ a w fr H, Rel n w0 H0 fr H a w → K fr H → Q .normal a w) (hKc : ∀ fr fr' H, (∀ s, fr.get s = fr'.get s) → K fr' H → K fr H) :
  ∀ (fuel : Nat) {L : Array Bool} {p D rest : List yU} {fr frC : Fr} {H : Hp} {a : Act} {w : World}, DI E n ops m all K L p D rest fr frC H → Rel n w0 H0 fr H a w → D.length + rest.length ≤ fuel →
   wpAnyIn (FW ro) 0 E.P .any ops Q fuel L a w:=by
 have fin : ∀ {L : Array Bool} {p D rest : List yU} {fr frC : Fr} {H : Hp} {a : Act} {w : World}, DI E n ops m all K L p D rest fr frC H → Rel n w0 H0 fr H a w → D = [] → rest = [] → Q .normal a w := by
  intro L p D rest fr frC H a w h hr hD hR
  subst hD; subst hR
  exact hK a w fr H hr (hKc _ _ _ (fun s=>by rw [h.rel s]; simp [wV]) h.ev)
 intro fuel
 induction fuel with
 | zero =>
  intro L p D rest fr frC H a w h hr hle
  have hD:D = []:=List.length_eq_zero_iff.1 (by omega)
  have hR:rest = []:=List.length_eq_zero_iff.1 (by omega)
  refine⟨?_,fin h hr hD hR⟩
  cases hrd:Region.ready .any ops L with
  | nil=>rfl
  | cons i r =>
   obtain⟨h1,h2,_⟩:=zAH (ops:=ops) (L:=L) (i:=i) (by rw [hrd]; exact List.mem_cons_self ..)
   obtain⟨y,hy,e⟩:=zBV h.chk i (by omega)
   subst hD; subst hR
   rcases hy with hy | hy
   ·have:=h.lst y hy (by simp)
    rw [e] at this
    have hlt':i < L.size:=by rw [h.lsz]; exact h1
    simp only [Array.getD,hlt',dif_pos] at this h2
    rw [this] at h2; cases h2
   ·cases hy
 | succ fuel ih =>
  intro L p D rest fr frC H a w h hr hle
  refine⟨fun hnil=>?_,fun i hi=>?_⟩
  ·obtain⟨hD,hR⟩:=h.done hnil
   exact fin h hr hD hR
  ·obtain⟨h1,h2,h3⟩:=zAH hi
   obtain⟨y,hy,rfl⟩:=zBV h.chk i (by omega)
   have hlt':y.i < L.size:=by rw [h.lsz]; exact h1
   have hu : L.getD y.i false = false := by
    simp only [Array.getD,hlt',dif_pos] at h2 ⊢
    exact h2
   have fromD : ∀ {p D rest : List yU} {frC : Fr}, DI E n ops m all K L p D rest fr frC H → y ∈ D → D.length + rest.length ≤ fuel + 1 →
     wpOpIn (FW ro) 0 E.P ops Q y.i (wpAnyIn (FW ro) 0 E.P .any ops Q fuel (L.setIfInBounds y.i true)) a w:=by
    intro p D rest frC h hy hle
    obtain⟨o,ho,hc,_,_⟩:=h.past.op y (h.dp y hy)
    refine wpOpIn_mono ?_ (zAn hr ho hc (h.stepD hy h3))
    rintro a' w' ⟨fr',H',hrel',hk'⟩
    refine ih hk' hrel' ?_
    have:(D.filter (fun z=>z.i != y.i)).length < D.length:=List.length_filter_lt_length_iff_exists.2 ⟨y,hy,by simp⟩
    omega
   rcases hy with hy | hy
   ·have hyD : y ∈ D := Classical.byContradiction fun hn => by
     have:=h.lst y hy hn
     rw [hu] at this; cases this
    exact fromD h hyD hle
   ·obtain⟨p',D',rest',frC',h',hle'⟩:=h.upto hm h3 hy
    cases hs:y.o.isSim with
    | true =>
     obtain⟨frC'',h''⟩:=h'.absorb hs
     exact fromD h'' (List.mem_cons_self ..) (by simp only [List.length_cons]; omega)
    | false =>
     have hchk:=h'.chk
     simp only [zAO,Bool.and_eq_true] at hchk
     obtain⟨o,k1,k2,_⟩:=zAB hchk.1
     refine wpOpIn_mono ?_ (zAn hr k1 k2 (h'.stepB hm hs h3))
     rintro a' w' ⟨fr',H',hrel',frC'',hk'⟩
     exact ih hk' hrel' (by omega)
theorem Rel.cg {a : Act} {w : World} (h : Rel n w0 H0 fr H a w) {fr' : Fr} (hn : fr'.nodup) (he : ∀ s, fr'.get s = fr.get s) : Rel n w0 H0 fr' H a w := by
 obtain⟨β,h⟩:=h
 exact⟨β,hn,h.nt,fun s sv hs=>h.slots s sv (by rw [← he]; exact hs),fun s sv hs=>h.skip s sv (by rw [← he]; exact hs),h.sat,h.own,h.priv,h.inj,h.os,h.tape,h.output,h.size,h.same,h.mnd,h.marks,h.shape⟩
theorem DI.soundL {last : zA} {o : Oper} {K0 : Fr → Hp → Prop} (hlen : m.length + 1 = ops.size) (hm : ∀ i j, (m.getD i 0).testBit j = true → Pre ops i j) (hall : ∀ x ∈ all, x.i < m.length)
  (hlast:∀ j,j < m.length→Pre ops m.length j) (ho:ops[m.length]? = some o) (haft:∀ j∈pO o,j < m.length) (hc:zDW E n ops o last=true)
  (hK0:∀ fr H a w,Rel n w0 H0 fr H a w→K fr H→∃ fr',Rel n w0 H0 fr' H a w∧vI E last fr' H K0) (hK:∀ a w fr H,Rel n w0 H0 fr H a w→K0 fr H→Q .normal a w) :
  ∀ (fuel : Nat) {L : Array Bool} {p D rest : List yU} {fr frC : Fr} {H : Hp} {a : Act} {w : World}, DI E n ops m all K L p D rest fr frC H → L.getD m.length false = false → Rel n w0 H0 fr H a w → D.length + rest.length + 1 ≤ fuel →
   wpAnyIn (FW ro) 0 E.P .any ops Q fuel L a w:=by
 intro fuel
 induction fuel with
 | zero=>intro L p D rest fr frC H a w h hL hr hle; omega
 | succ fuel ih =>
  intro L p D rest fr frC H a w h hL hr hle
  have hLs:m.length < L.size:=by rw [h.lsz]; omega
  refine⟨fun hnil=>?_,fun i hi=>?_⟩
  ·exfalso
   obtain⟨hD,hR⟩:=h.done hnil
   subst hD; subst hR
   have hdone : ∀ j, j < m.length → L.getD j false = true := by
    intro j hj
    obtain⟨y,hy,e⟩:=zBV h.chk j hj
    rcases hy with hy | hy
    ·rw [← e]; exact h.lst y hy (by simp)
    ·cases hy
   have : m.length ∈ Region.ready .any ops L := by
    simp only [Region.ready,List.mem_filter,List.mem_range,Bool.and_eq_true,Bool.not_eq_true']
    refine⟨by omega,?_,?_⟩
    ·simp only [Array.getD,hLs,dif_pos] at hL ⊢
     exact hL
    ·simp only [ho,Option.map_some,Option.getD_some,Array.all_eq_true_iff_forall_mem,Bool.or_eq_true,Bool.not_eq_true']
     intro e he
     by_cases hb:Region.binds .any e=true
     ·exact .inr (hdone e.on (haft e.on (List.mem_map.2 ⟨e,List.mem_filter.2 ⟨by simpa using he,hb⟩,rfl⟩)))
     ·exact .inl (by simpa using hb)
   rw [hnil] at this; cases this
  ·obtain⟨h1,h2,h3⟩:=zAH hi
   by_cases hil:i < m.length
   ·obtain⟨y,hy,rfl⟩:=zBV h.chk i hil
    have hlt':y.i < L.size:=by rw [h.lsz]; exact h1
    have hL' : (L.setIfInBounds y.i true).getD m.length false = false := by
     rw [qV hlt',if_neg (by omega)]; exact hL
    have hu : L.getD y.i false = false := by
     simp only [Array.getD,hlt',dif_pos] at h2 ⊢
     exact h2
    have fromD : ∀ {p D rest : List yU} {frC : Fr}, DI E n ops m all K L p D rest fr frC H → y ∈ D → D.length + rest.length + 1 ≤ fuel + 1 →
      wpOpIn (FW ro) 0 E.P ops Q y.i (wpAnyIn (FW ro) 0 E.P .any ops Q fuel (L.setIfInBounds y.i true)) a w:=by
     intro p D rest frC h hy hle
     obtain⟨o,ho,hc,_,_⟩:=h.past.op y (h.dp y hy)
     refine wpOpIn_mono ?_ (zAn hr ho hc (h.stepD hy h3))
     rintro a' w' ⟨fr',H',hrel',hk'⟩
     refine ih hk' hL' hrel' ?_
     have:(D.filter (fun z=>z.i != y.i)).length < D.length:=List.length_filter_lt_length_iff_exists.2 ⟨y,hy,by simp⟩
     omega
    rcases hy with hy | hy
    ·have hyD : y ∈ D := Classical.byContradiction fun hn => by
      have:=h.lst y hy hn
      rw [hu] at this; cases this
     exact fromD h hyD hle
    ·obtain⟨p',D',rest',frC',h',hle'⟩:=h.upto hm h3 hy
     cases hs:y.o.isSim with
     | true =>
      obtain⟨frC'',h''⟩:=h'.absorb hs
      exact fromD h'' (List.mem_cons_self ..) (by simp only [List.length_cons]; omega)
     | false =>
      have hchk:=h'.chk
      simp only [zAO,Bool.and_eq_true] at hchk
      obtain⟨o,k1,k2,_⟩:=zAB hchk.1
      refine wpOpIn_mono ?_ (zAn hr k1 k2 (h'.stepB hm hs h3))
      rintro a' w' ⟨fr',H',hrel',frC'',hk'⟩
      exact ih hk' hL' hrel' (by omega)
   ·have ei:i=m.length:=by omega
    subst ei
    have hdone:∀ j,j < m.length→L.getD j false=true:=fun j hj=>hlast j hj _ h.cl h3
    have hD : D = [] := by
     cases hD:D with
     | nil=>rfl
     | cons x r =>
      have hx:x∈D:=by rw [hD]; exact List.mem_cons_self ..
      have:=hdone x.i (hall x (h.past.sub x (h.dp x hx)))
      rw [h.unl x hx] at this; cases this
    have hR : rest = [] := by
     cases hR:rest with
     | nil=>rfl
     | cons x r =>
      have hx:x∈rest:=by rw [hR]; exact List.mem_cons_self ..
      have:=hdone x.i (hall x (h.sub x hx))
      rw [h.unr x hx] at this; cases this
    subst hD; subst hR
    have hrC:Rel n w0 H0 frC H a w:=Rel.cg hr h.ndC (fun s=>by rw [h.rel s]; simp [wV])
    obtain⟨fr',hr',hev⟩:=hK0 _ _ _ _ hrC h.ev
    refine wpOpIn_mono ?_ (zAn hr' ho hc hev)
    rintro a' w' ⟨fr'',H',hrel',hk'⟩
    refine wpAnyIn_done ?_ (hK _ _ _ _ hrel' hk') _
    cases hrd:Region.ready .any ops (L.setIfInBounds m.length true) with
    | nil=>rfl
    | cons j r =>
     obtain⟨k1,k2,_⟩:=zAH (ops:=ops) (L:=L.setIfInBounds m.length true) (i:=j) (by rw [hrd]; exact List.mem_cons_self ..)
     have hlt:j < (L.setIfInBounds m.length true).size:=by simp [h.lsz]; exact k1
     have : (L.setIfInBounds m.length true).getD j false = true := by
      rw [qV hLs]
      split
      ·rfl
      ·exact hdone j (by omega)
     simp only [Array.getD,hlt,dif_pos] at this k2
     rw [this] at k2; cases k2
def zFW (E : Env) (n : Nat) (ops : Array Oper) (l : List yU) : Bool :=
 (E.P.follows .mixedOrders || !Region.departs ops) && l.length == ops.size && zAO E n ops (jI ops.toList []) l [] l
theorem zSA {l : List yU} {id : Nat} {a : Act} {w : World} (hc : zFW E n ops l = true) (hK : ∀ a w fr H, Rel n w0 H0 fr H a w → K fr H → Q .normal a w) (hKc : ∀ fr fr' H, (∀ s, fr.get s = fr'.get s) → K fr' H → K fr H)
  (hr:Rel n w0 H0 fr H a w) (h:evd E [] l (fr.start (wV l)) H K):(Code.region id ops true).wpIn (FW ro) 0 E.P Q a w:=by
 simp only [zFW,Bool.and_eq_true,beq_iff_eq] at hc
 obtain⟨⟨hc1,hc2⟩,hc3⟩:=hc
 have hm:∀ i j,((jI ops.toList []).getD i 0).testBit j=true→Pre ops i j:=zEy ops.toList [] rfl (fun i j hb=>by simp at hb)
 obtain⟨β,hrb⟩:=hr
 refine wpIn_region_draw fun t=>?_
 have hsch:Region.schedule (E.P.follows .mixedOrders) ops t=Region.linearise .any ops t:=by simp only [Region.schedule,hc1,if_true]
 rw [hsch]
 have hn := Fr.nodup_filter (fun e => !((wV l).contains e.1) && (match e.2.p with
  | .lp t _ => !((wV l).contains t) && (match fr.get t with
   | some ⟨_,.box _⟩=>true
   | _=>false)
  | _=>true)) hrb.nodup
 have hrep : ∀ i, (Array.replicate ops.size false).getD i false = false := by
  intro i
  by_cases e:i < ops.size<;>simp [Array.getD,e]
 have hdi : DI E n ops (jI ops.toList []) l K (Array.replicate ops.size false) [] [] l (fr.start (wV l)) (fr.start (wV l)) H := by
  refine⟨⟨?_,?_,?_,?_⟩,hc3,fun x hx=>hx,?_,?_,?_,?_,by simp,?_,hn,hn,zBB hrb.nodup _,zBB hrb.nodup _,?_,?_,?_,h⟩
  ·intro x hx; cases hx
  ·intro x hx; cases hx
  ·intro x hx; cases hx
  ·intro x hx; cases hx
  ·intro x hx; cases hx
  ·intro x hx; cases hx
  ·intro x hx; cases hx
  ·intro x hx; exact hrep _
  ·intro i o ho hL
   have hL:(Array.replicate ops.size false).getD i false=true:=hL
   rw [hrep] at hL; cases hL
  ·intro s; simp [wV]
  ·intro x hx d hd; exact zHN hrb.nodup (kJ.2 ⟨x,hx,hd⟩)
  ·intro x hx; cases hx
 exact wpAnyIn_sound ops.size t _ a _ (hdi.sound (by rw [zDO]; simp) hm hK hKc ops.size ⟨β,(hrb.drawn _).filter _⟩ (by simp [hc2]))
def zEb (E : Env) (n : Nat) (ops : Array Oper) (l : List yU) (last : zA) : Bool :=
 let m:=jI ops.toList []
 (E.P.follows .mixedOrders || !Region.departs ops) && (l.length + 1 == ops.size) && l.all (fun x => decide (x.i < l.length)) && (List.range l.length).all (fun j => (m.getD l.length 0).testBit j) &&
  (match ops[l.length]? with
   | some o=>(pO o).all (fun j=>decide (j < l.length)) && zDW E n ops o last
   | none=>false) && zAO E n ops (m.take l.length) l [] l
theorem zNJ {l : List yU} {last : zA} {id : Nat} {K0 : Fr → Hp → Prop} {a : Act} {w : World} (hc : zEb E n ops l last = true)
  (hK0:∀ fr H a w,Rel n w0 H0 fr H a w→K fr H→∃ fr',Rel n w0 H0 fr' H a w∧vI E last fr' H K0) (hK:∀ a w fr H,Rel n w0 H0 fr H a w→K0 fr H→Q .normal a w)
  (hr:Rel n w0 H0 fr H a w) (h:evd E [] l (fr.start (wV l)) H K):(Code.region id ops true).wpIn (FW ro) 0 E.P Q a w:=by
 simp only [zEb,Bool.and_eq_true,beq_iff_eq] at hc
 obtain⟨⟨⟨⟨⟨hc1,hc2⟩,hc4⟩,hc5⟩,hc6⟩,hc3⟩:=hc
 have hm0:∀ i j,((jI ops.toList []).getD i 0).testBit j=true→Pre ops i j:=zEy ops.toList [] rfl (fun i j hb=>by simp at hb)
 have hlm : ((jI ops.toList []).take l.length).length = l.length := by
  rw [List.length_take,zDO]; simp; omega
 have hm : ∀ i j, (((jI ops.toList []).take l.length).getD i 0).testBit j = true → Pre ops i j := by
  intro i j hb
  refine hm0 i j ?_
  rw [List.getD_eq_getElem?_getD,List.getElem?_take] at hb
  split at hb
  ·rw [List.getD_eq_getElem?_getD]; exact hb
  ·simp at hb
 have hlast : ∀ j, j < ((jI ops.toList []).take l.length).length → Pre ops ((jI ops.toList []).take l.length).length j := by
  rw [hlm]
  intro j hj
  exact hm0 _ _ (List.all_eq_true.1 hc5 j (List.mem_range.2 hj))
 have hlo : ∃ o, ops[l.length]? = some o ∧ (∀ j ∈ pO o, j < l.length) ∧ zDW E n ops o last = true := by
  split at hc6
  ·rename_i o ho
   simp only [Bool.and_eq_true] at hc6
   exact⟨o,ho,fun j hj=>by simpa using List.all_eq_true.1 hc6.1 j hj,hc6.2⟩
  ·cases hc6
 obtain⟨o,ho,haft,hck⟩:=hlo
 obtain⟨β,hrb⟩:=hr
 refine wpIn_region_draw fun t=>?_
 have hsch:Region.schedule (E.P.follows .mixedOrders) ops t=Region.linearise .any ops t:=by simp only [Region.schedule,hc1,if_true]
 rw [hsch]
 have hn := Fr.nodup_filter (fun e => !((wV l).contains e.1) && (match e.2.p with
  | .lp t _ => !((wV l).contains t) && (match fr.get t with
   | some ⟨_,.box _⟩=>true
   | _=>false)
  | _=>true)) hrb.nodup
 have hrep : ∀ i, (Array.replicate ops.size false).getD i false = false := by
  intro i
  by_cases e:i < ops.size<;>simp [Array.getD,e]
 have hdi : DI E n ops ((jI ops.toList []).take l.length) l K (Array.replicate ops.size false) [] [] l (fr.start (wV l)) (fr.start (wV l)) H := by
  refine⟨⟨?_,?_,?_,?_⟩,hc3,fun x hx=>hx,?_,?_,?_,?_,by simp,?_,hn,hn,zBB hrb.nodup _,zBB hrb.nodup _,?_,?_,?_,h⟩
  ·intro x hx; cases hx
  ·intro x hx; cases hx
  ·intro x hx; cases hx
  ·intro x hx; cases hx
  ·intro x hx; cases hx
  ·intro x hx; cases hx
  ·intro x hx; cases hx
  ·intro x hx; exact hrep _
  ·intro i o ho hL
   have hL:(Array.replicate ops.size false).getD i false=true:=hL
   rw [hrep] at hL; cases hL
  ·intro s; simp [wV]
  ·intro x hx d hd; exact zHN hrb.nodup (kJ.2 ⟨x,hx,hd⟩)
  ·intro x hx; cases hx
 exact wpAnyIn_sound ops.size t _ a _ (hdi.soundL (by rw [hlm]; exact hc2) hm (fun x hx=>by rw [hlm]; simpa using List.all_eq_true.1 hc4 x hx) hlast (by rw [hlm]; exact ho) (by rw [hlm]; exact haft) hck hK0 hK ops.size (hrep _) ⟨β,(hrb.drawn _).filter _⟩ (by simp; omega))
end
end Go.SL

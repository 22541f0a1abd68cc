/- The abstract state of a walk: what is known of blocks, of a frame's slots, of private boxes; contracts over it. -/
import Derived.OrdersIn
import Derived.RangeFuncKeeps
import Derived.WalkKit
namespace Go.SL
open Go
inductive xI where
 | row (vs:List Value) (cap:Nat) (wr:Bool)
 | obj (o:Obj)
def xI.ok (h : Option Obj) : xI → Prop
 | .row vs cap wr=>∃ c T fz,h=some (.cells c T fz)∧c.size=cap∧vs <+: c.toList∧(wr=true→∀ i,i < cap→¬ (fz.1≤i∧i < fz.2))
 | .obj o=>h=some o
theorem xI.ok_some {h : Option Obj} {o : xI} (k : o.ok h) : h ≠ none := by
 cases o with
 | row=>obtain⟨c,T,fz,rfl,_⟩:=k; simp
 | obj=>simp only [xI.ok] at k; subst k; simp
abbrev Hp:=Nat→Option xI
def Hp.put (H:Hp) (b:Nat) (o:xI):Hp:=fun c=>if c=b then some o else H c
def Hp.del (H:Hp) (b:Nat):Hp:=fun c=>if c=b then none else H c
theorem Hp.put_same (H:Hp) (b:Nat) (o:xI):H.put b o b=some o:=by simp [Hp.put]
theorem Hp.put_ne (H:Hp) {b c:Nat} (o:xI) (h:c≠b):H.put b o c=H c:=by simp [Hp.put,h]
theorem Hp.del_same (H:Hp) (b:Nat):H.del b b=none:=by simp [Hp.del]
theorem Hp.del_ne (H:Hp) {b c:Nat} (h:c≠b):H.del b c=H c:=by simp [Hp.del,h]
def Sat (heap:Array Obj) (H:Hp):Prop:=∀ b o,H b=some o→o.ok (heap[b]?)
def Hp.le (H H':Hp):Prop:=∀ b o,H b=some o→H' b=some o
theorem Hp.le.refl (H:Hp):H.le H:=fun _ _ h=>h
theorem Hp.le.trans {A B C:Hp} (h:A.le B) (k:B.le C):A.le C:=fun b o x=>k b o (h b o x)
theorem Hp.le.put {H : Hp} {b : Nat} {o : xI} (h : H b = none) : H.le (H.put b o) := fun c p hc => by
 rw [Hp.put_ne]
 ·exact hc
 ·rintro rfl; rw [h] at hc; cases hc
theorem Sat.le {heap:Array Obj} {H H':Hp} (h:Sat heap H') (k:H.le H'):Sat heap H:=fun b o hb=>h b o (k b o hb)
theorem Sat.lt {heap : Array Obj} {H : Hp} (h : Sat heap H) {b : Nat} {o : xI} (k : H b = some o) : b < heap.size := by
 have:=xI.ok_some (h b o k)
 exact Classical.byContradiction fun hn=>this (Array.getElem?_eq_none (Nat.le_of_not_lt hn))
def shp : Option Obj → Option (TypeId × (Nat × Nat) × Nat)
 | some (.cells c T fz)=>some (T,fz,c.size)
 | _=>none
def zAT : Option xI → Prop
 | some (.obj (.cells _ _ _))=>True
 | _=>False
theorem zAT.le {H H' : Hp} (h : H.le H') {b : Nat} (ht : zAT (H b)) : zAT (H' b) := by
 cases hb:H b with
 | none=>rw [hb] at ht; exact ht.elim
 | some o=>rw [h b o hb]; rw [hb] at ht; exact ht
theorem zAT.del {H : Hp} {b c : Nat} (ht : zAT ((H.del c) b)) : zAT (H b) := by
 by_cases e:b=c
 ·subst e; rw [Hp.del_same] at ht; exact ht.elim
 ·rw [Hp.del_ne _ e] at ht; exact ht
def Shp (H:Hp) (w w':World) (H':Hp):Prop:=∀ b,b < w.heap.size→¬ zAT (H b)→shp (w'.heap[b]?)=shp (w.heap[b]?)∧¬ zAT (H' b)
structure Kept (H : Hp) (w w' : World) (H' : Hp) : Prop where
 os:w'.os=w.os
 tape:w'.tape=w.tape
 output:w'.output=w.output
 size:w.heap.size≤w'.heap.size
 same:∀ b,b < w.heap.size→H b=none→w'.heap[b]? = w.heap[b]?
 fresh:∀ b o,H' b=some o→H b≠none∨w.heap.size≤b
 shape:Shp H w w' H'
def Fn (P : Program) (f : FuncId) (args : List Value) (H : Hp) (Q : Value → Hp → Prop) : Prop :=
 ∀ w,Sat w.heap H→Calls P f args.toArray w fun e w'=>∃ v H',e = .returned v∧Sat w'.heap H'∧Kept H w w' H'∧Q v H'
theorem Fn.mono {P : Program} {f : FuncId} {args : List Value} {H : Hp} {Q Q' : Value → Hp → Prop} (h : Fn P f args H Q) (k : ∀ v H', Q v H' → Q' v H') : Fn P f args H Q' :=
 fun w hw=>(h w hw).mono fun _ _ ⟨v,H',he,hs,hk,hq⟩=>⟨v,H',he,hs,hk,k v H' hq⟩
inductive PV where
 | val (v:Value)
 | box (vs:List Value)
 | lp (s off:Nat)
structure SV where
 c:Bool
 p:PV
abbrev Fr:=List (Nat × SV)
def Fr.get : Fr → Nat → Option SV
 | [],_=>none
 | (k,v) :: r,s=>if k=s then some v else Fr.get r s
def PV.isLp (s : Nat) : PV → Bool
 | .lp t _=>t == s
 | _=>false
def Fr.set (fr:Fr) (s:Nat) (v:SV):Fr:=(s,v) :: fr.filter (fun e=>!(e.1 == s) && !(e.2.p.isLp s))
def Fr.keep (fr : Fr) : List Nat → Fr
 | []=>[]
 | s :: l => match fr.get s with
  | some v=>(s,v) :: Fr.keep fr l
  | none=>Fr.keep fr l
theorem Fr.get_set_same (fr:Fr) (s:Nat) (v:SV):(fr.set s v).get s=some v:=by simp [Fr.set,Fr.get]
theorem Fr.mem_of_get {fr : Fr} {s : Nat} {v : SV} (h : fr.get s = some v) : (s, v) ∈ fr := by
 induction fr with
 | nil=>cases h
 | cons e r ih =>
  obtain⟨k,u⟩:=e
  simp only [Fr.get] at h
  split at h
  ·rename_i hk; subst hk; cases h; exact List.mem_cons_self ..
  ·exact List.mem_cons_of_mem _ (ih h)
def Fr.nodup : Fr → Prop
 | []=>True
 | (k,_) :: r=>(∀ e∈r,e.1≠k)∧Fr.nodup r
theorem Fr.nodup_filter {fr : Fr} (q : Nat × SV → Bool) (h : fr.nodup) : Fr.nodup (fr.filter q) := by
 induction fr with
 | nil=>exact h
 | cons e r ih =>
  obtain⟨k,u⟩:=e
  rw [List.filter_cons]
  split
  ·exact⟨fun e he=>h.1 e (List.mem_filter.1 he).1,ih h.2⟩
  ·exact ih h.2
theorem Fr.nodup_set {fr : Fr} (h : fr.nodup) (s : Nat) (v : SV) : (fr.set s v).nodup := by
 refine⟨fun e he=>?_,Fr.nodup_filter _ h⟩
 have:=(List.mem_filter.1 he).2
 simp at this
 exact this.1
theorem Fr.get_of_mem {fr : Fr} (hn : fr.nodup) {s : Nat} {v : SV} (h : (s, v) ∈ fr) : fr.get s = some v := by
 induction fr with
 | nil=>cases h
 | cons e r ih =>
  obtain⟨k,u⟩:=e
  rcases List.mem_cons.1 h with h | h
  ·cases h; simp [Fr.get]
  ·have:s≠k:=hn.1 _ h
   simp only [Fr.get]
   rw [if_neg (Ne.symm this)]
   exact ih hn.2 h
theorem Fr.get_filter {fr : Fr} (hn : fr.nodup) {q : Nat × SV → Bool} {s : Nat} {v : SV} (h : Fr.get (fr.filter q) s = some v) : fr.get s = some v ∧ q (s, v) = true := by
 have:=List.mem_filter.1 (Fr.mem_of_get h)
 exact⟨Fr.get_of_mem hn this.1,this.2⟩
theorem Fr.get_set_ne {fr : Fr} (hn : fr.nodup) {s t : Nat} {v u : SV} (hne : t ≠ s) (h : (fr.set s v).get t = some u) : fr.get t = some u ∧ u.p.isLp s = false := by
 simp only [Fr.set,Fr.get,Ne.symm hne,if_false] at h
 have:=Fr.get_filter hn h
 simp at this
 exact⟨this.1,this.2.2⟩
def zBK (β : Nat → Option Nat) (tmps : Array Value) (heap : Array Obj) (s : Nat) : PV → Prop
 | .val v=>tmps[s]? = some v
 | .box vs=>∃ b T,β s=some b∧tmps[s]? = some (.pointer (some ⟨b,0,none⟩))∧heap[b]? = some (.cells vs.toArray T (0,0))
 | .lp t off=>∃ b,β t=some b∧tmps[s]? = some (.pointer (some ⟨b,off,none⟩))
structure yT (n : Nat) (w0 : World) (H0 : Hp) (fr : Fr) (H : Hp) (a : Act) (w : World) (β : Nat → Option Nat) : Prop where
 nodup:fr.nodup
 nt:a.tmps.size=n
 slots:∀ s sv,fr.get s=some sv→sv.c=true→zBK β a.tmps w.heap s sv.p
 skip:∀ s sv,fr.get s=some sv→sv.c=false→a.tmps[s]? = some undef
 sat:Sat w.heap H
 own:∀ b o,H b=some o→H0 b≠none∨w0.heap.size≤b
 priv:∀ s b,β s=some b→H b=none∧w0.heap.size≤b∧b < w.heap.size
 inj:∀ s s' b,β s=some b→β s'=some b→s=s'
 os:w.os=w0.os
 tape:w.tape=w0.tape
 output:w.output=w0.output
 size:w0.heap.size≤w.heap.size
 same:∀ b,b < w0.heap.size→H0 b=none→w.heap[b]? = w0.heap[b]?
 mnd:a.defers.Pairwise (fun x y=>x.target≠y.target)
 marks:∀ d∈a.defers,∃ D,d.target = .collected D∧w.heap[D]? = some (.deferred (some []))∧H D=none∧(∀ s,β s≠some D)∧w0.heap.size≤D
 shape:Shp H0 w0 w H
def Rel (n:Nat) (w0:World) (H0:Hp) (fr:Fr) (H:Hp) (a:Act) (w:World):Prop:=∃ β,yT n w0 H0 fr H a w β
theorem yT.drawn {n : Nat} {w0 : World} {H0 : Hp} {fr : Fr} {H : Hp} {a : Act} {w : World} {β : Nat → Option Nat} (h : yT n w0 H0 fr H a w β) (k : Nat) :
  yT n w0 H0 fr H a { w with drawn:=k } β :=
 ⟨h.nodup,h.nt,h.slots,h.skip,h.sat,h.own,h.priv,h.inj,h.os,h.tape,h.output,h.size,h.same,h.mnd,h.marks,h.shape⟩
theorem yT.filter {n : Nat} {w0 : World} {H0 : Hp} {fr : Fr} {H : Hp} {a : Act} {w : World} {β : Nat → Option Nat} (h : yT n w0 H0 fr H a w β) (q : Nat × SV → Bool) :
  yT n w0 H0 (fr.filter q) H a w β :=
 ⟨Fr.nodup_filter q h.nodup,h.nt,fun s sv hs=>h.slots s sv (Fr.get_filter h.nodup hs).1,fun s sv hs=>h.skip s sv (Fr.get_filter h.nodup hs).1,h.sat,h.own,h.priv,h.inj,h.os,h.tape,h.output,h.size,h.same,h.mnd,h.marks,h.shape⟩
def pQ : List Nat → Bool
 | []=>true
 | x :: l=>!(l.contains x) && pQ l
theorem Fr.mem_keep {fr : Fr} {l : List Nat} {e : Nat × SV} (h : e ∈ fr.keep l) : e.1 ∈ l ∧ fr.get e.1 = some e.2 := by
 induction l with
 | nil=>cases h
 | cons s l ih =>
  simp only [Fr.keep] at h
  split at h
  ·rename_i v hv
   rcases List.mem_cons.1 h with rfl | h
   ·exact⟨List.mem_cons_self ..,hv⟩
   ·exact⟨List.mem_cons_of_mem _ (ih h).1,(ih h).2⟩
  ·exact⟨List.mem_cons_of_mem _ (ih h).1,(ih h).2⟩
theorem Fr.nodup_keep (fr : Fr) {l : List Nat} (h : pQ l = true) : (fr.keep l).nodup := by
 induction l with
 | nil=>trivial
 | cons s l ih =>
  simp only [pQ,Bool.and_eq_true,Bool.not_eq_true',List.contains_eq_mem,decide_eq_false_iff_not] at h
  simp only [Fr.keep]
  split
  ·exact⟨fun e he heq=>h.1 (heq ▸ (Fr.mem_keep he).1),ih h.2⟩
  ·exact ih h.2
theorem yT.keep {n : Nat} {w0 : World} {H0 : Hp} {fr : Fr} {H : Hp} {a : Act} {w : World} {β : Nat → Option Nat} (h : yT n w0 H0 fr H a w β) {l : List Nat} (hl : pQ l = true) :
  yT n w0 H0 (fr.keep l) H a w β :=
 ⟨Fr.nodup_keep fr hl,h.nt,fun s sv hs=>h.slots s sv (Fr.mem_keep (Fr.mem_of_get hs)).2,fun s sv hs=>h.skip s sv (Fr.mem_keep (Fr.mem_of_get hs)).2,h.sat,h.own,h.priv,h.inj,h.os,h.tape,h.output,h.size,h.same,h.mnd,h.marks,h.shape⟩
theorem zBK.put {β : Nat → Option Nat} {tmps : Array Value} {heap : Array Obj} {s t : Nat} {v : Value} {p : PV} (hne : t ≠ s) (h : zBK β tmps heap t p) :
  zBK β (tmps.setIfInBounds s v) heap t p:=by
 have e:(tmps.setIfInBounds s v)[t]? = tmps[t]?:=Array.getElem?_setIfInBounds_ne (Ne.symm hne)
 cases p<;>simpa [zBK,e] using h
theorem yT.setp {n : Nat} {w0 : World} {H0 : Hp} {fr : Fr} {H : Hp} {a : Act} {w : World} {β : Nat → Option Nat} (h : yT n w0 H0 fr H a w β) {d : Nat} (hd : d < n) (v : Value) (c : Bool) (p : PV)
  (hp:c=true→zBK β (a.tmps.setIfInBounds d v) w.heap d p) (hv:c=false→v=undef):yT n w0 H0 (fr.set d ⟨c,p⟩) H (a.put (some d) v) w β where
 nodup:=Fr.nodup_set h.nodup _ _
 nt:=by simp [Act.put,h.nt]
 slots := fun s sv hs hc => by
  by_cases e:s=d
  ·subst e; rw [Fr.get_set_same] at hs; cases hs; exact hp hc
  ·exact zBK.put e (h.slots s sv (Fr.get_set_ne h.nodup e hs).1 hc)
 skip := fun s sv hs hc => by
  by_cases e:s=d
  ·subst e; rw [Fr.get_set_same] at hs; cases hs
   simp only at hc
   subst hc
   simp [Act.put,h.nt,hd,hv rfl]
  ·have:=h.skip s sv (Fr.get_set_ne h.nodup e hs).1 hc
   simpa [Act.put,Array.getElem?_setIfInBounds_ne (Ne.symm e)] using this
 sat:=h.sat
 own:=h.own
 priv:=h.priv
 inj:=h.inj
 os:=h.os
 tape:=h.tape
 output:=h.output
 size:=h.size
 same:=h.same
 shape:=h.shape
 mnd:=h.mnd
 marks:=h.marks
theorem yT.setv {n : Nat} {w0 : World} {H0 : Hp} {fr : Fr} {H : Hp} {a : Act} {w : World} {β : Nat → Option Nat} (h : yT n w0 H0 fr H a w β) {d : Nat} (hd : d < n) (v : Value) :
  yT n w0 H0 (fr.set d ⟨true,.val v⟩) H (a.put (some d) v) w β :=
 h.setp hd v true _ (fun _=>by simp [zBK,h.nt,hd]) (fun e=>by cases e)
theorem yT.skipped {n : Nat} {w0 : World} {H0 : Hp} {fr : Fr} {H : Hp} {a : Act} {w : World} {β : Nat → Option Nat} (h : yT n w0 H0 fr H a w β) {d : Nat} (hd : d < n) (p : PV) :
  yT n w0 H0 (fr.set d ⟨false,p⟩) H (a.put (some d) undef) w β :=
 h.setp hd undef false p (fun e=>by cases e) (fun _=>rfl)
theorem yT.move {n : Nat} {w0 : World} {H0 : Hp} {fr : Fr} {H H' : Hp} {a : Act} {w w' : World} {β : Nat → Option Nat} (h : yT n w0 H0 fr H a w β) (hs : Sat w'.heap H') (hk : Kept H w w' H') :
  yT n w0 H0 fr H' a w' β where
 nodup:=h.nodup
 nt:=h.nt
 slots := fun s sv hg hc => by
  have:=h.slots s sv hg hc
  cases hp:sv.p with
  | val v=>rw [hp] at this; exact this
  | lp t o=>rw [hp] at this; exact this
  | box vs =>
   rw [hp] at this
   obtain⟨b,T,hb,ht,hh⟩:=this
   have hpr:=h.priv _ _ hb
   exact⟨b,T,hb,ht,(hk.same b hpr.2.2 hpr.1).trans hh⟩
 skip:=h.skip
 sat:=hs
 own := fun b o ho => by
  rcases hk.fresh b o ho with hb | hb
  ·cases hH:H b with
   | none=>exact absurd hH hb
   | some o'=>exact h.own b o' hH
  ·exact .inr (Nat.le_trans h.size hb)
 priv := fun s b hb => by
  have hpr:=h.priv s b hb
  refine⟨?_,hpr.2.1,Nat.lt_of_lt_of_le hpr.2.2 hk.size⟩
  cases hH:H' b with
  | none=>rfl
  | some o => rcases hk.fresh b o hH with hb | hb
              ·exact absurd hpr.1 hb
              ·omega
 inj:=h.inj
 os:=hk.os.trans h.os
 tape:=hk.tape.trans h.tape
 output:=hk.output.trans h.output
 size:=Nat.le_trans h.size hk.size
 same := fun b hb h0 => by
  have hlt:b < w.heap.size:=Nat.lt_of_lt_of_le hb h.size
  refine(hk.same b hlt ?_).trans (h.same b hb h0)
  cases hH:H b with
  | none=>rfl
  | some o => rcases h.own b o hH with hb' | hb'
              ·exact absurd h0 hb'
              ·omega
 shape := fun b hb ht => by
  have h1:=h.shape b hb ht
  have h2:=hk.shape b (Nat.lt_of_lt_of_le hb h.size) h1.2
  exact⟨h2.1.trans h1.1,h2.2⟩
 mnd:=h.mnd
 marks := fun d hd => by
  obtain⟨D,ht,hh,hn,hβ,hs⟩:=h.marks d hd
  have hlt : D < w.heap.size := Classical.byContradiction fun hn => by
   rw [Array.getElem?_eq_none (Nat.le_of_not_lt hn)] at hh; cases hh
  refine⟨D,ht,(hk.same D hlt hn).trans hh,?_,hβ,hs⟩
  cases hH:H' D with
  | none=>rfl
  | some o => rcases hk.fresh D o hH with hb | hb
              ·exact absurd hn hb
              ·omega
theorem yT.box {n : Nat} {w0 : World} {H0 : Hp} {fr : Fr} {H : Hp} {a : Act} {w : World} {β : Nat → Option Nat} (h : yT n w0 H0 fr H a w β) {d : Nat} (hd : d < n) (c : Array Value) (T : TypeId) :
  yT n w0 H0 (fr.set d ⟨true,.box c.toList⟩) H (a.put (some d) (.pointer (some ⟨w.heap.size,0,none⟩))) { w with heap:=w.heap.push (.cells c T) } (fun s=>if s=d then some w.heap.size else β s) where
 nodup:=Fr.nodup_set h.nodup _ _
 nt:=by simp [Act.put,h.nt]
 slots := fun s sv hs hc => by
  by_cases e:s=d
  ·subst e
   rw [Fr.get_set_same] at hs
   cases hs
   exact⟨w.heap.size,T,by simp,by simp [Act.put,h.nt,hd],by simp⟩
  ·obtain⟨hg,hl⟩:=Fr.get_set_ne h.nodup e hs
   have:=zBK.put (v:=.pointer (some ⟨w.heap.size,0,none⟩)) e (h.slots s sv hg hc)
   cases hp:sv.p with
   | val v=>rw [hp] at this; exact this
   | lp t o =>
    rw [hp] at this hl
    obtain⟨b,hb,ht⟩:=this
    have hne:t≠d:=by simpa [PV.isLp] using hl
    exact⟨b,by simp [hne,hb],ht⟩
   | box vs =>
    rw [hp] at this
    obtain⟨b,T',hb,ht,hh⟩:=this
    have hpr:=h.priv _ _ hb
    refine⟨b,T',by simp [e,hb],ht,?_⟩
    show(w.heap.push _)[b]? = _
    rw [Array.getElem?_push,if_neg (by omega)]
    exact hh
 skip := fun s sv hs hc => by
  by_cases e:s=d
  ·subst e; rw [Fr.get_set_same] at hs; cases hs; cases hc
  ·have:=h.skip s sv (Fr.get_set_ne h.nodup e hs).1 hc
   simpa [Act.put,Array.getElem?_setIfInBounds_ne (Ne.symm e)] using this
 sat := fun b o hb => by
  have hlt:=h.sat.lt hb
  show xI.ok ((w.heap.push _)[b]?) o
  rw [Array.getElem?_push,if_neg (by omega)]
  exact h.sat b o hb
 own:=h.own
 priv := fun s b hb => by
  by_cases e:s=d
  ·simp only [e,if_true] at hb
   cases hb
   refine⟨?_,h.size,by simp⟩
   cases hH:H w.heap.size with
   | none=>rfl
   | some o=>exact absurd (h.sat.lt hH) (Nat.lt_irrefl _)
  ·simp only [e,if_false] at hb
   have hpr:=h.priv s b hb
   exact⟨hpr.1,hpr.2.1,by simp; omega⟩
 inj := fun s s' b hb hb' => by
  by_cases e:s=d<;>by_cases e':s'=d
  ·rw [e,e']
  ·simp only [e,if_true] at hb; simp only [e',if_false] at hb'
   cases hb
   have:=(h.priv _ _ hb').2.2; omega
  ·simp only [e,if_false] at hb; simp only [e',if_true] at hb'
   cases hb'
   have:=(h.priv _ _ hb).2.2; omega
  ·simp only [e,if_false] at hb; simp only [e',if_false] at hb'
   exact h.inj _ _ _ hb hb'
 os:=h.os
 tape:=h.tape
 output:=h.output
 size:=by simp; have:=h.size; omega
 same := fun b hb h0 => by
  have:=h.size
  show(w.heap.push _)[b]? = _
  rw [Array.getElem?_push,if_neg (by omega)]
  exact h.same b hb h0
 shape := fun b hb ht => by
  have:=h.size
  refine⟨?_,(h.shape b hb ht).2⟩
  show shp ((w.heap.push _)[b]?)=_
  rw [Array.getElem?_push,if_neg (by omega)]
  exact(h.shape b hb ht).1
 mnd:=h.mnd
 marks := fun d' hd' => by
  obtain⟨D,ht,hh,hn,hβ,hs⟩:=h.marks d' hd'
  have hlt : D < w.heap.size := Classical.byContradiction fun hn => by
   rw [Array.getElem?_eq_none (Nat.le_of_not_lt hn)] at hh; cases hh
  refine⟨D,ht,?_,hn,fun s hs'=>?_,hs⟩
  ·show(w.heap.push _)[D]? = _
   rw [Array.getElem?_push,if_neg (by omega)]
   exact hh
  ·by_cases e:s=d
   ·simp only [e,if_true] at hs'; cases hs'; omega
   ·simp only [e,if_false] at hs'; exact hβ s hs'
end Go.SL
/- Simple operations: their values in the abstract state, what they ask, and that the model's operations give them. -/
namespace Go.SL
open Go
structure Env where
 P:Program
 fn:Nat→FuncId
 gl:Nat→Nat
inductive Arg where
 | t (s:Nat)
 | c (v:Value)
 | g (k:Nat)
 | f (k:Nat)
inductive Kd where
 | b
 | i
 | s
 deriving DecidableEq
inductive jS where
 | mov (x:Arg)
 | pick (c a b:Arg)
 | ld (n:Option Nat) (x:Arg)
 | fld (off:Nat) (x:Arg)
 | idx (size:Nat) (x i:Arg)
 | idxa (size len:Nat) (x i:Arg)
 | len (str:Bool) (x:Arg)
 | bin (op:BinOp) (x y:Arg)
 | eqb (neg:Bool) (x y:Arg)
 | eqs (neg:Bool) (ks:List Kd) (x y:Arg)
 | eqn (neg:Bool) (x y:Arg)
 | not (x:Arg)
 | neg (x:Arg)
 | ext (i:Nat) (x:Arg)
 | bld (zero:List Value) (parts:List (Nat × Nat × Arg))
 | idxs (x i:Arg)
 | cvi (k:IntKind) (x:Arg)
 | cvs (x:Arg)
 | slc (size:Nat) (x:Arg) (lo hi mx:Option Arg)
 | slcs (x:Arg) (lo hi:Option Arg)
 | box (x:Arg)
 | new (zero:List Value)
 | mkf (f:Nat) (first cap:List Arg)
 | nilc (x:Arg)
 | mm (isMax:Bool) (x y:Arg)
 | fldv (off:Nat) (n:Option Nat) (x:Arg)
 | nop
section
variable (E:Env) (fr:Fr) (H:Hp)
def vo : Arg → Value
 | .t s => match fr.get s with
  | some ⟨_,.val v⟩=>v
  | _=>undef
 | .c v=>v
 | .g k=>.pointer (some ⟨E.gl k,0,none⟩)
 | .f k=>.func (.func (E.fn k)) #[] #[]
def vok : Arg → Prop
 | .t s => match fr.get s with
  | some ⟨c,.val _⟩=>c=true
  | _=>False
 | _=>True
def pvo : Arg → PV
 | .t s => match fr.get s with
  | some ⟨_,.box _⟩=>.lp s 0
  | some ⟨_,p⟩=>p
  | none=>.val undef
 | x=>.val (vo E fr x)
def pok : Arg → Prop
 | .t s => match fr.get s with
  | some ⟨c,_⟩=>c=true
  | none=>False
 | _=>True
def vZ : PV → Option (List Value)
 | .lp s _ => match fr.get s with
  | some ⟨_,.box vs⟩=>some vs
  | _=>none
 | .val (.pointer (some a)) => match H a.block with
  | some (.row vs _ _)=>some vs
  | _=>none
 | _=>none
def zFa : PV → Nat
 | .lp _ o=>o
 | .val (.pointer (some a))=>a.off
 | _=>0
def pP : PV → Prop
 | .lp s _ => match fr.get s with
  | some ⟨c,.box _⟩=>c=true
  | _=>False
 | .val (.pointer (some a))=>a.spot=none∧(∃ vs cap wr,H a.block=some (.row vs cap wr))
 | _=>False
def zBa (n : Option Nat) (vs : List Value) (o : Nat) : Value :=
 match n with
 | none=>vs.getD o undef
 | some m=>.agg ((vs.drop o).take m).toArray
def zHY : Option Nat → Nat
 | none=>1
 | some m=>m
end
def zIF : PV → Prop
 | .lp _ _=>True
 | .val (.pointer (some a))=>a.spot=none
 | _=>False
def zDo (off : Nat) : PV → PV
 | .lp s o=>.lp s (o + off)
 | .val (.pointer (some a))=>.val (.pointer (some ⟨a.block,a.off + off,none⟩))
 | _=>.val undef
def strOf : Value → List UInt8
 | .string s=>s.data.toList
 | _=>[]
def intOf : Value → Int
 | .int _ n=>n
 | _=>0
def zC (op : BinOp) : Value → Value → Option Value
 | .int k a, .int k' b =>
  match op with
  | .shl=>if b < 0 then none else some (.int k (k.wrap (a * 2 ^ (min b.toNat k.bits))))
  | .shr=>if b < 0 then none else some (.int k (a.fdiv (2 ^ (min b.toNat k.bits))))
  | _ => if k = k' then
   match op with
   | .add=>some (.int k (k.wrap (a + b)))
   | .sub=>some (.int k (k.wrap (a - b)))
   | .mul=>some (.int k (k.wrap (a * b)))
   | .quo=>if b=0 then none else some (.int k (k.wrap (a.tdiv b)))
   | .rem=>if b=0 then none else some (.int k (a.tmod b))
   | .and=>some (.int k (k.wrap (BitVec.ofInt k.bits a &&& BitVec.ofInt k.bits b).toNat))
   | .or=>some (.int k (k.wrap (BitVec.ofInt k.bits a ||| BitVec.ofInt k.bits b).toNat))
   | .xor=>some (.int k (k.wrap (BitVec.ofInt k.bits a ^^^ BitVec.ofInt k.bits b).toNat))
   | .andNot=>some (.int k (k.wrap (BitVec.ofInt k.bits a &&& ~~~(BitVec.ofInt k.bits b)).toNat))
   | .eql=>some (.bool (a == b))
   | .neq=>some (.bool (a != b))
   | .lss=>some (.bool (a < b))
   | .leq=>some (.bool (a≤b))
   | .gtr=>some (.bool (a > b))
   | .geq=>some (.bool (a≥b))
   | _=>none
   else none
 | .string a, .string b =>
  match op with
  | .add=>if a.size + b.size≤9223372036854775807 then some (.string (a ++ b)) else none
  | .eql=>some (.bool (a.data.toList == b.data.toList))
  | .neq=>some (.bool (!(a.data.toList == b.data.toList)))
  | .lss=>some (.bool (Op.bytesLess a.data.toList b.data.toList))
  | .leq=>some (.bool (Op.bytesLess a.data.toList b.data.toList || a.data.toList == b.data.toList))
  | .gtr=>some (.bool (!(Op.bytesLess a.data.toList b.data.toList || a.data.toList == b.data.toList)))
  | .geq=>some (.bool (!(Op.bytesLess a.data.toList b.data.toList)))
  | _=>none
 | _,_=>none
def pA : Kd → Value → Value → Option Bool
 | .b,.bool a,.bool b=>some (a == b)
 | .i,.int k a,.int k' b=>if k=k' then some (a == b) else none
 | .s,.string a,.string b=>some (a.data.toList == b.data.toList)
 | _,_,_=>none
def allEq : List Kd → List Value → List Value → Option Bool
 | [],[],[]=>some true
 | k :: ks, x :: xs, y :: ys => match pA k x y, allEq ks xs ys with
  | some a,some b=>some (a && b)
  | _,_=>none
 | _,_,_=>none
def zBG (ks : List Kd) : Value → Value → Option Bool
 | .agg xs,.agg ys=>allEq ks xs.toList ys.toList
 | _,_=>none
def uX (ag : Bool) (ks : List Kd) (x y : Value) : Option Bool :=
 if ag then zBG ks x y else match ks with
  | [k]=>pA k x y
  | _=>none
def uH (ag : Bool) (ks : List Kd) (k : Value) : List MapEntry → Nat → Option (Option (Nat × Value))
 | [],_=>some none
 | e :: es, i => match uX ag ks k e.key with
  | some true=>some (some (i,e.val))
  | some false=>uH ag ks k es (i + 1)
  | none=>none
def zBb (ag : Bool) (ks : List Kd) (k : Value) : Prop :=
 if ag then (match k with | .agg cs=>cs.toList.length=ks.length | _=>False) else True
def zIH : Value → Value → Option Bool
 | .slice a _ _,.slice none 0 0=>some a.isNone
 | _,_=>none
def xC (cells:List Value) (off:Nat) (new:List Value):List Value:=cells.take off ++ new ++ cells.drop (off + new.length)
section
variable (E:Env) (fr:Fr) (H:Hp)
def qH : List Value → List (Nat × Nat × Arg) → List Value
 | cells,[]=>cells
 | cells,(off,_,x) :: r=>qH (xC cells off (vo E fr x).cells.toList) r
def zAL : Nat → List (Nat × Nat × Arg) → Prop
 | _,[]=>True
 | n,(off,size,x) :: r=>vok fr x∧(vo E fr x).cells.toList.length=size∧off + size≤n∧zAL n r
def kA : List Arg → Prop
 | []=>True
 | x :: r=>vok fr x∧kA r
def kP (d : Nat) : Option Arg → Nat
 | none=>d
 | some x=>(intOf (vo E fr x)).toNat
def zCi (y : Nat) : Option Arg → Prop
 | none=>True
 | some x=>vok fr x∧(match vo E fr x with | .int _ i=>0≤i∧i≤y | _=>False)
def xN : jS → PV
 | .mov x=>pvo E fr x
 | .pick c a b => match vo E fr c with
  | .bool q => match vo E fr a, vo E fr b with
   | .bool x,.bool y=>.val (.bool (bif q then x else y))
   | x,y=>.val (bif q then x else y)
  | _=>.val undef
 | .ld n x => match vZ fr H (pvo E fr x) with
  | some vs=>.val (zBa n vs (zFa (pvo E fr x)))
  | none=>.val undef
 | .fld off x=>zDo off (pvo E fr x)
 | .idx size x i => match vo E fr x, vo E fr i with
  | .slice (some a) _ _,.int _ i=>.val (.pointer (some ⟨a.block,a.off + i.toNat * size,none⟩))
  | _,_=>.val undef
 | .idxa size _ x i=>zDo ((intOf (vo E fr i)).toNat * size) (pvo E fr x)
 | .len _ x => match vo E fr x with
  | .string s=>.val (.int .i64 s.size)
  | .slice _ n _=>.val (.int .i64 n)
  | _=>.val undef
 | .bin op x y=>.val ((zC op (vo E fr x) (vo E fr y)).getD undef)
 | .eqb neg x y => match vo E fr x, vo E fr y with
  | .bool a,.bool b=>.val (.bool ((a == b) ^^ neg))
  | _,_=>.val undef
 | .eqs neg ks x y=>.val (.bool (((zBG ks (vo E fr x) (vo E fr y)).getD false) ^^ neg))
 | .eqn neg x y=>.val (.bool (((zIH (vo E fr x) (vo E fr y)).getD false) ^^ neg))
 | .not x => match vo E fr x with
  | .bool b=>.val (.bool !b)
  | _=>.val undef
 | .neg x => match vo E fr x with
  | .int k n=>.val (.int k (k.wrap (0 - n)))
  | _=>.val undef
 | .ext i x => match vo E fr x with
  | .tuple vs=>.val (vs.toList.getD i undef)
  | _=>.val undef
 | .bld zero parts=>.val (.agg (qH E fr zero parts).toArray)
 | .idxs x i=>.val (.int .u8 ((strOf (vo E fr x)).getD (intOf (vo E fr i)).toNat 0).toNat)
 | .cvi k x => match vo E fr x with
  | .int _ n=>.val (.int k (k.wrap n))
  | _=>.val undef
 | .cvs x=>.val (vo E fr x)
 | .slc size x lo hi mx => match vo E fr x with
  | .slice a len cap =>
   let m:=kP E fr cap mx
   let h:=kP E fr len hi
   let l:=kP E fr 0 lo
   .val (.slice (if m=l then a else a.map (fun a=>⟨a.block,a.off + l * size,none⟩)) (h - l) (m - l))
  | _=>.val undef
 | .slcs x lo hi => match vo E fr x with
  | .string s=>.val (.string (s.extract (kP E fr 0 lo) (kP E fr s.size hi)))
  | _=>.val undef
 | .box x=>.box (vo E fr x).cells.toList
 | .new zero=>.box zero
 | .mkf f first cap=>.val (.func (.func (E.fn f)) (first.map (vo E fr)).toArray (cap.map (vo E fr)).toArray)
 | .nilc x=>pvo E fr x
 | .mm isMax x y => match vo E fr x, vo E fr y with
  | .int k a,.int _ b=>.val (.int k (if isMax then max a b else min a b))
  | _,_=>.val undef
 | .fldv off n x => match vo E fr x with
  | .agg cs=>.val (zBa n cs.toList off)
  | _=>.val undef
 | .nop=>.val undef
def zBg : jS → Prop
 | .mov x=>pok fr x
 | .pick c a b => vok fr c ∧ (match vo E fr c with
  | .bool q=>(q=true→vok fr a)∧(q=false→vok fr b)
  | _=>False)
 | .ld n x => pok fr x ∧ pP fr H (pvo E fr x) ∧ (match vZ fr H (pvo E fr x) with
  | some vs=>zFa (pvo E fr x) + zHY n≤vs.length
  | none=>False)
 | .fld _ x=>pok fr x∧zIF (pvo E fr x)
 | .idx _ x i => vok fr x ∧ vok fr i ∧ (match vo E fr x, vo E fr i with
  | .slice (some a) len _,.int _ i=>a.spot=none∧0≤i∧i < len
  | _,_=>False)
 | .idxa _ len x i => pok fr x ∧ vok fr i ∧ zIF (pvo E fr x) ∧ (match vo E fr i with
  | .int _ i=>0≤i∧i < len
  | _=>False)
 | .len st x => vok fr x ∧ (match vo E fr x with
  | .string _=>st=true
  | .slice _ _ _=>st=false
  | _=>False)
 | .bin op x y=>vok fr x∧vok fr y∧(zC op (vo E fr x) (vo E fr y)).isSome=true
 | .eqb _ x y => vok fr x ∧ vok fr y ∧ (match vo E fr x, vo E fr y with
  | .bool _,.bool _=>True
  | _,_=>False)
 | .eqs _ ks x y=>vok fr x∧vok fr y∧(zBG ks (vo E fr x) (vo E fr y)).isSome=true
 | .eqn _ x y=>vok fr x∧vok fr y∧(zIH (vo E fr x) (vo E fr y)).isSome=true
 | .not x => vok fr x ∧ (match vo E fr x with
  | .bool _=>True
  | _=>False)
 | .neg x => vok fr x ∧ (match vo E fr x with
  | .int _ _=>True
  | _=>False)
 | .ext i x => vok fr x ∧ (match vo E fr x with
  | .tuple vs=>i < vs.toList.length
  | _=>False)
 | .bld zero parts=>zAL E fr zero.length parts
 | .idxs x i => vok fr x ∧ vok fr i ∧ (match vo E fr x, vo E fr i with
  | .string s,.int _ i=>0≤i∧i < s.size
  | _,_=>False)
 | .cvi _ x => vok fr x ∧ (match vo E fr x with
  | .int _ _=>True
  | _=>False)
 | .cvs x => vok fr x ∧ (match vo E fr x with
  | .string _=>True
  | _=>False)
 | .slc _ x lo hi mx => vok fr x ∧ (match vo E fr x with
  | .slice a len cap=>(∀ b,a=some b→b.spot=none)∧zCi E fr cap mx∧zCi E fr (kP E fr cap mx) hi∧zCi E fr (kP E fr len hi) lo
  | _=>False)
 | .slcs x lo hi => vok fr x ∧ (match vo E fr x with
  | .string s=>zCi E fr s.size hi∧zCi E fr (kP E fr s.size hi) lo
  | _=>False)
 | .box x=>vok fr x
 | .new _=>True
 | .mkf _ first cap=>kA fr first∧kA fr cap
 | .nilc x => pok fr x ∧ (match pvo E fr x with
  | .lp _ _=>True
  | .val (.pointer (some _))=>True
  | .val (.func (.func _) _ _)=>True
  | _=>False)
 | .mm _ x y => vok fr x ∧ vok fr y ∧ (match vo E fr x, vo E fr y with
  | .int k _,.int k' _=>k=k'
  | _,_=>False)
 | .fldv off n x => vok fr x ∧ (match vo E fr x with
  | .agg cs=>off + zHY n≤cs.toList.length
  | _=>False)
 | .nop=>True
end
end Go.SL
/- The model's operations give what the simple operations say. -/
namespace Go.SL
open Go
def zQD : Value → Value → Bool
 | .bool a,.bool b=>a == b
 | .int k a,.int l b=>k == l && a == b
 | .string a,.string b=>a.data.toList == b.data.toList
 | .pointer none,.pointer none=>true
 | .slice none a b,.slice none c d=>a == c && b == d
 | .map none,.map none=>true
 | .nilFunc,.nilFunc=>true
 | .nilIface,.nilIface=>true
 | _,_=>false
theorem zKx {a b : Value} (h : zQD a b = true) : a = b := by
 unfold zQD at h
 split at h
 all_goals first
  | (simp at h; done)
  | (simp at h; simp [h]; done)
  | (rename_i x y; obtain⟨⟨x⟩⟩:=x; obtain⟨⟨y⟩⟩:=y; simp at h; simp [h]; done)
  | rfl
def zDf : List Value → List Value → Bool
 | [],[]=>true
 | a :: x,b :: y=>zQD a b && zDf x y
 | _,_=>false
theorem zCg : ∀ {a b : List Value}, zDf a b = true → a = b
 | [],[],_=>rfl
 | a :: x, b :: y, h => by
  simp only [zDf,Bool.and_eq_true] at h
  rw [zKx h.1,zCg h.2]
 | [],_ :: _,h=>by simp [zDf] at h
 | _ :: _,[],h=>by simp [zDf] at h
def zQ (E : Env) : Operand → Arg → Bool
 | .tmp t,.t s=>t == s
 | .const v,.c u=>zQD v u
 | .global k,.g j=>k == E.gl j
 | .func k,.f j=>k == E.fn j
 | _,_=>false
def wF (β : Nat → Option Nat) : PV → Value → Prop
 | .val v,u=>u=v
 | .lp s o,u=>∃ b,β s=some b∧u = .pointer (some ⟨b,o,none⟩)
 | .box _,_=>False
section
variable {E:Env} {n:Nat} {w0:World} {H0:Hp} {fr:Fr} {H:Hp} {a:Act} {w:World} {β:Nat→Option Nat}
theorem zW (h : yT n w0 H0 fr H a w β) {X : Operand} {x : Arg} (hc : zQ E X x = true) (hk : vok fr x) : a.eval X = vo E fr x := by
 cases x with
 | t s =>
  cases X<;>simp [zQ] at hc
  subst hc
  simp only [vok] at hk
  split at hk
  ·rename_i c v he
   have:=h.slots _ _ he hk
   simp only [zBK] at this
   simp [Act.eval,vo,he,this]
  ·exact hk.elim
 | c v=>cases X<;>simp [zQ] at hc; rw [zKx hc]; rfl
 | g k=>cases X<;>simp [zQ] at hc; subst hc; rfl
 | f k=>cases X<;>simp [zQ] at hc; subst hc; rfl
theorem zAo (h : yT n w0 H0 fr H a w β) {X : Operand} {x : Arg} (hc : zQ E X x = true) (hk : pok fr x) : wF β (pvo E fr x) (a.eval X) := by
 cases x with
 | t s =>
  cases X<;>simp [zQ] at hc
  subst hc
  simp only [pok] at hk
  split at hk
  ·rename_i c p he
   have:=h.slots _ _ he hk
   simp only [pvo,he]
   cases p with
   | val v=>simp only [zBK] at this; simp [wF,Act.eval,this]
   | box vs=>obtain⟨b,T,hb,ht,_⟩:=this; exact⟨b,hb,by simp [Act.eval,ht]⟩
   | lp t o=>obtain⟨b,hb,ht⟩:=this; exact⟨b,hb,by simp [Act.eval,ht]⟩
  ·exact hk.elim
 | c v=>exact zW h hc trivial
 | g v=>exact zW h hc trivial
 | f v=>exact zW h hc trivial
theorem zHE (h : yT n w0 H0 fr H a w β) {p : PV} {u : Value} {vs : List Value} (hu : wF β p u) (hr : pP fr H p) (hc : vZ fr H p = some vs) :
  ∃ b c T fz,u = .pointer (some ⟨b,zFa p,none⟩)∧w.heap[b]? = some (.cells c T fz)∧vs <+: c.toList:=by
 cases p with
 | box=>exact hr.elim
 | lp s o =>
  obtain⟨b,hb,rfl⟩:=hu
  simp only [pP] at hr
  split at hr
  ·rename_i c vs' he
   obtain⟨b',T,hb',_,hcell⟩:=h.slots _ _ he hr
   simp only [vZ,he] at hc
   cases hc
   rw [hb] at hb'; cases hb'
   exact⟨b,_,T,_,rfl,hcell,by simp⟩
  ·exact hr.elim
 | val v =>
  simp only [wF] at hu
  subst hu
  unfold pP at hr
  split at hr
  ·rename_i heq; cases heq
  ·rename_i ad heq
   cases heq
   obtain⟨hs,vs',cap,wr,hH⟩:=hr
   simp only [vZ,hH] at hc
   cases hc
   obtain⟨c,T,fz,hh,_,hp,_⟩:=h.sat _ _ hH
   refine⟨ad.block,c,T,fz,?_,hh,hp⟩
   obtain⟨b,o,s⟩:=ad
   simp at hs
   subst hs
   rfl
  ·exact hr.elim
theorem yCg {b : Nat} {c : Array Value} {T : TypeId} {fz : Nat × Nat} {vs : List Value} (hh : w.heap[b]? = some (.cells c T fz)) (hp : vs <+: c.toList) {i : Nat} (hi : i < vs.length) :
  w.cell? ⟨b,i,none⟩=some (vs.getD i undef):=by
 obtain⟨r,hr⟩:=hp
 have hlt : i < c.size := by
  have:=congrArg List.length hr
  simp at this; omega
 have : c[i]? = vs[i]? := by
  rw [← Array.getElem?_toList,← hr,List.getElem?_append_left hi]
 simp only [World.cell?,hh,this,Option.isSome_none,Bool.false_eq_true,if_false,List.getD,List.getElem?_eq_getElem hi,Option.getD_some]
theorem zBh (b o k : Nat) : (Addr.add ⟨b, o, none⟩ k) = ⟨b, o + k, none⟩ := by
 unfold Addr.add; split
 ·rename_i h; subst h; rfl
 ·rfl
theorem run_loadCellsFrom {b : Nat} {c : Array Value} {T : TypeId} {fz : Nat × Nat} {vs : List Value} (hh : w.heap[b]? = some (.cells c T fz)) (hp : vs <+: c.toList) (o : Nat) :
  ∀ (m i : Nat) (acc : Array Value), o + i + m ≤ vs.length →
   (loadCellsFrom ⟨b,o,none⟩ i m acc).run E.P w = .ok (acc ++ ((vs.drop (o + i)).take m).toArray) w
 | 0,i,acc,_=>by simp [loadCellsFrom,pure]
 | m + 1, i, acc, hl => by
  have hi:o + i < vs.length:=by omega
  have hc:=yCg hh hp hi
  simp only [loadCellsFrom,zBh]
  rw [Sem.run_bind]
  simp only [load,Sem.run,hc,Result.andThen]
  rw [run_loadCellsFrom hh hp o m (i + 1) _ (by omega)]
  congr 1
  rw [List.drop_eq_getElem_cons hi,List.take_succ_cons,← Nat.add_assoc]
  have:vs.getD (o + i) undef=vs[o + i]:=by simp [List.getD,hi]
  rw [this]
  apply Array.toList_inj.1
  simp
end
end Go.SL

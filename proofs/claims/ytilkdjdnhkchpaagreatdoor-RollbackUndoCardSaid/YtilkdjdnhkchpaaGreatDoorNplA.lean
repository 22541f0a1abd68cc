/- The abstract state of a walk: what is known of blocks, of a frame's slots, of private boxes; contracts over it. -/
import Derived.OrdersIn
import Derived.RangeFuncKeeps
import Derived.WalkKit
import Derived.Laws.StructEq
import Derived.Laws.Cover3
namespace Go.SL
open Go

/-- What is known of one block: the first cells of a row (with its number of cells, and whether it may be written), or the whole object. -/
inductive AObj where
  | row (vs : List Value) (cap : Nat) (wr : Bool)
  | obj (o : Obj)

def AObj.ok (h : Option Obj) : AObj → Prop
  | .row vs cap wr => ∃ c T fz, h = some (.cells c T fz) ∧ c.size = cap ∧ vs <+: c.toList ∧ (wr = true → ∀ i, i < cap → ¬ (fz.1 ≤ i ∧ i < fz.2))
  | .obj o => h = some o

theorem AObj.ok_some {h : Option Obj} {o : AObj} (k : o.ok h) : h ≠ none := by
  cases o with
  | row => obtain ⟨c, T, fz, rfl, _⟩ := k; simp
  | obj => simp only [AObj.ok] at k; subst k; simp

abbrev Hp := Nat → Option AObj
def Hp.put (H : Hp) (b : Nat) (o : AObj) : Hp := fun c => if c = b then some o else H c
def Hp.del (H : Hp) (b : Nat) : Hp := fun c => if c = b then none else H c
theorem Hp.put_same (H : Hp) (b : Nat) (o : AObj) : H.put b o b = some o := by simp [Hp.put]
theorem Hp.put_ne (H : Hp) {b c : Nat} (o : AObj) (h : c ≠ b) : H.put b o c = H c := by simp [Hp.put, h]
theorem Hp.del_same (H : Hp) (b : Nat) : H.del b b = none := by simp [Hp.del]
theorem Hp.del_ne (H : Hp) {b c : Nat} (h : c ≠ b) : H.del b c = H c := by simp [Hp.del, h]

def Sat (heap : Array Obj) (H : Hp) : Prop := ∀ b o, H b = some o → o.ok (heap[b]?)
def Hp.le (H H' : Hp) : Prop := ∀ b o, H b = some o → H' b = some o
theorem Hp.le.refl (H : Hp) : H.le H := fun _ _ h => h
theorem Hp.le.trans {A B C : Hp} (h : A.le B) (k : B.le C) : A.le C := fun b o x => k b o (h b o x)
theorem Hp.le.put {H : Hp} {b : Nat} {o : AObj} (h : H b = none) : H.le (H.put b o) := fun c p hc => by
  rw [Hp.put_ne]
  · exact hc
  · rintro rfl; rw [h] at hc; cases hc
theorem Sat.le {heap : Array Obj} {H H' : Hp} (h : Sat heap H') (k : H.le H') : Sat heap H := fun b o hb => h b o (k b o hb)
theorem Sat.lt {heap : Array Obj} {H : Hp} (h : Sat heap H) {b : Nat} {o : AObj} (k : H b = some o) : b < heap.size := by
  have := AObj.ok_some (h b o k)
  exact Classical.byContradiction fun hn => this (Array.getElem?_eq_none (Nat.le_of_not_lt hn))

/-- of a row: its type, its frozen part, its size -/
def shp : Option Obj → Option (TypeId × (Nat × Nat) × Nat)
  | some (.cells c T fz) => some (T, fz, c.size)
  | _ => none
def Shp (w w' : World) : Prop := ∀ b, b < w.heap.size → shp (w'.heap[b]?) = shp (w.heap[b]?)

structure Kept (H : Hp) (w w' : World) (H' : Hp) : Prop where
  os : w'.os = w.os
  tape : w'.tape = w.tape
  output : w'.output = w.output
  size : w.heap.size ≤ w'.heap.size
  same : ∀ b, b < w.heap.size → H b = none → w'.heap[b]? = w.heap[b]?
  fresh : ∀ b o, H' b = some o → H b ≠ none ∨ w.heap.size ≤ b
  shape : Shp w w'

/-- THE CONTRACT: from every world in which H holds the call returns, and leaves what is not in H alone. -/
def Fn (P : Program) (f : FuncId) (args : List Value) (H : Hp) (Q : Value → Hp → Prop) : Prop :=
  ∀ w, Sat w.heap H → Calls P f args.toArray w fun e w' => ∃ v H', e = .returned v ∧ Sat w'.heap H' ∧ Kept H w w' H' ∧ Q v H'

theorem Fn.mono {P : Program} {f : FuncId} {args : List Value} {H : Hp} {Q Q' : Value → Hp → Prop} (h : Fn P f args H Q) (k : ∀ v H', Q v H' → Q' v H') : Fn P f args H Q' :=
  fun w hw => (h w hw).mono fun _ _ ⟨v, H', he, hs, hk, hq⟩ => ⟨v, H', he, hs, hk, k v H' hq⟩

/-- What a slot holds: a value; a pointer to a private row; a pointer into the private row of another slot. -/
inductive PV where
  | val (v : Value)
  | box (vs : List Value)
  | lp (s off : Nat)
/-- if c, the slot holds p -/
structure SV where
  c : Bool
  p : PV
abbrev Fr := List (Nat × SV)
def Fr.get : Fr → Nat → Option SV
  | [], _ => none
  | (k, v) :: r, s => if k = s then some v else Fr.get r s
def PV.isLp (s : Nat) : PV → Bool
  | .lp t _ => t == s
  | _ => false
def Fr.set (fr : Fr) (s : Nat) (v : SV) : Fr := (s, v) :: fr.filter (fun e => !(e.1 == s) && !(e.2.p.isLp s))
/-- the slots of a list, in its order -/
def Fr.keep (fr : Fr) : List Nat → Fr
  | [] => []
  | s :: l => match fr.get s with
    | some v => (s, v) :: Fr.keep fr l
    | none => Fr.keep fr l

theorem Fr.get_set_same (fr : Fr) (s : Nat) (v : SV) : (fr.set s v).get s = some v := by simp [Fr.set, Fr.get]
theorem Fr.mem_of_get {fr : Fr} {s : Nat} {v : SV} (h : fr.get s = some v) : (s, v) ∈ fr := by
  induction fr with
  | nil => cases h
  | cons e r ih =>
    obtain ⟨k, u⟩ := e
    simp only [Fr.get] at h
    split at h
    · rename_i hk; subst hk; cases h; exact List.mem_cons_self ..
    · exact List.mem_cons_of_mem _ (ih h)

/-- Every slot stands once. -/
def Fr.nodup : Fr → Prop
  | [] => True
  | (k, _) :: r => (∀ e ∈ r, e.1 ≠ k) ∧ Fr.nodup r
theorem Fr.nodup_filter {fr : Fr} (q : Nat × SV → Bool) (h : fr.nodup) : Fr.nodup (fr.filter q) := by
  induction fr with
  | nil => exact h
  | cons e r ih =>
    obtain ⟨k, u⟩ := e
    rw [List.filter_cons]
    split
    · exact ⟨fun e he => h.1 e (List.mem_filter.1 he).1, ih h.2⟩
    · exact ih h.2
theorem Fr.nodup_set {fr : Fr} (h : fr.nodup) (s : Nat) (v : SV) : (fr.set s v).nodup := by
  refine ⟨fun e he => ?_, Fr.nodup_filter _ h⟩
  have := (List.mem_filter.1 he).2
  simp at this
  exact this.1
theorem Fr.get_of_mem {fr : Fr} (hn : fr.nodup) {s : Nat} {v : SV} (h : (s, v) ∈ fr) : fr.get s = some v := by
  induction fr with
  | nil => cases h
  | cons e r ih =>
    obtain ⟨k, u⟩ := e
    rcases List.mem_cons.1 h with h | h
    · cases h; simp [Fr.get]
    · have : s ≠ k := hn.1 _ h
      simp only [Fr.get]
      rw [if_neg (Ne.symm this)]
      exact ih hn.2 h
theorem Fr.get_filter {fr : Fr} (hn : fr.nodup) {q : Nat × SV → Bool} {s : Nat} {v : SV} (h : Fr.get (fr.filter q) s = some v) : fr.get s = some v ∧ q (s, v) = true := by
  have := List.mem_filter.1 (Fr.mem_of_get h)
  exact ⟨Fr.get_of_mem hn this.1, this.2⟩
theorem Fr.get_set_ne {fr : Fr} (hn : fr.nodup) {s t : Nat} {v u : SV} (hne : t ≠ s) (h : (fr.set s v).get t = some u) : fr.get t = some u ∧ u.p.isLp s = false := by
  simp only [Fr.set, Fr.get, Ne.symm hne, if_false] at h
  have := Fr.get_filter hn h
  simp at this
  exact ⟨this.1, this.2.2⟩

def PVok (β : Nat → Option Nat) (tmps : Array Value) (heap : Array Obj) (s : Nat) : PV → Prop
  | .val v => tmps[s]? = some v
  | .box vs => ∃ b T, β s = some b ∧ tmps[s]? = some (.pointer (some ⟨b, 0, none⟩)) ∧ heap[b]? = some (.cells vs.toArray T (0, 0))
  | .lp t off => ∃ b, β t = some b ∧ tmps[s]? = some (.pointer (some ⟨b, off, none⟩))

structure RelB (n : Nat) (w0 : World) (H0 : Hp) (fr : Fr) (H : Hp) (a : Act) (w : World) (β : Nat → Option Nat) : Prop where
  nodup : fr.nodup
  nt : a.tmps.size = n
  slots : ∀ s sv, fr.get s = some sv → sv.c = true → PVok β a.tmps w.heap s sv.p
  skip : ∀ s sv, fr.get s = some sv → sv.c = false → a.tmps[s]? = some undef
  sat : Sat w.heap H
  own : ∀ b o, H b = some o → H0 b ≠ none ∨ w0.heap.size ≤ b
  priv : ∀ s b, β s = some b → H b = none ∧ w0.heap.size ≤ b ∧ b < w.heap.size
  inj : ∀ s s' b, β s = some b → β s' = some b → s = s'
  os : w.os = w0.os
  tape : w.tape = w0.tape
  output : w.output = w0.output
  size : w0.heap.size ≤ w.heap.size
  same : ∀ b, b < w0.heap.size → H0 b = none → w.heap[b]? = w0.heap[b]?
  mnd : a.defers.Pairwise (fun x y => x.target ≠ y.target)
  marks : ∀ d ∈ a.defers, ∃ D, d.target = .collected D ∧ w.heap[D]? = some (.deferred (some [])) ∧ H D = none ∧ (∀ s, β s ≠ some D) ∧ w0.heap.size ≤ D
  shape : Shp w0 w

def Rel (n : Nat) (w0 : World) (H0 : Hp) (fr : Fr) (H : Hp) (a : Act) (w : World) : Prop := ∃ β, RelB n w0 H0 fr H a w β

/-- A world that differs in the count of draws alone. -/
theorem RelB.drawn {n : Nat} {w0 : World} {H0 : Hp} {fr : Fr} {H : Hp} {a : Act} {w : World} {β : Nat → Option Nat} (h : RelB n w0 H0 fr H a w β) (k : Nat) :
    RelB n w0 H0 fr H a { w with drawn := k } β :=
  ⟨h.nodup, h.nt, h.slots, h.skip, h.sat, h.own, h.priv, h.inj, h.os, h.tape, h.output, h.size, h.same, h.mnd, h.marks, h.shape⟩

/-- Fewer slots are known. -/
theorem RelB.filter {n : Nat} {w0 : World} {H0 : Hp} {fr : Fr} {H : Hp} {a : Act} {w : World} {β : Nat → Option Nat} (h : RelB n w0 H0 fr H a w β) (q : Nat × SV → Bool) :
    RelB n w0 H0 (fr.filter q) H a w β :=
  ⟨Fr.nodup_filter q h.nodup, h.nt, fun s sv hs => h.slots s sv (Fr.get_filter h.nodup hs).1, fun s sv hs => h.skip s sv (Fr.get_filter h.nodup hs).1, h.sat, h.own, h.priv, h.inj, h.os, h.tape, h.output, h.size, h.same, h.mnd, h.marks, h.shape⟩

def nodupB : List Nat → Bool
  | [] => true
  | x :: l => !(l.contains x) && nodupB l
theorem Fr.mem_keep {fr : Fr} {l : List Nat} {e : Nat × SV} (h : e ∈ fr.keep l) : e.1 ∈ l ∧ fr.get e.1 = some e.2 := by
  induction l with
  | nil => cases h
  | cons s l ih =>
    simp only [Fr.keep] at h
    split at h
    · rename_i v hv
      rcases List.mem_cons.1 h with rfl | h
      · exact ⟨List.mem_cons_self .., hv⟩
      · exact ⟨List.mem_cons_of_mem _ (ih h).1, (ih h).2⟩
    · exact ⟨List.mem_cons_of_mem _ (ih h).1, (ih h).2⟩
theorem Fr.nodup_keep (fr : Fr) {l : List Nat} (h : nodupB l = true) : (fr.keep l).nodup := by
  induction l with
  | nil => trivial
  | cons s l ih =>
    simp only [nodupB, Bool.and_eq_true, Bool.not_eq_true', List.contains_eq_mem, decide_eq_false_iff_not] at h
    simp only [Fr.keep]
    split
    · exact ⟨fun e he heq => h.1 (heq ▸ (Fr.mem_keep he).1), ih h.2⟩
    · exact ih h.2
theorem RelB.keep {n : Nat} {w0 : World} {H0 : Hp} {fr : Fr} {H : Hp} {a : Act} {w : World} {β : Nat → Option Nat} (h : RelB n w0 H0 fr H a w β) {l : List Nat} (hl : nodupB l = true) :
    RelB n w0 H0 (fr.keep l) H a w β :=
  ⟨Fr.nodup_keep fr hl, h.nt, fun s sv hs => h.slots s sv (Fr.mem_keep (Fr.mem_of_get hs)).2, fun s sv hs => h.skip s sv (Fr.mem_keep (Fr.mem_of_get hs)).2, h.sat, h.own, h.priv, h.inj, h.os, h.tape, h.output, h.size, h.same, h.mnd, h.marks, h.shape⟩

theorem PVok.put {β : Nat → Option Nat} {tmps : Array Value} {heap : Array Obj} {s t : Nat} {v : Value} {p : PV} (hne : t ≠ s) (h : PVok β tmps heap t p) :
    PVok β (tmps.setIfInBounds s v) heap t p := by
  have e : (tmps.setIfInBounds s v)[t]? = tmps[t]? := Array.getElem?_setIfInBounds_ne (Ne.symm hne)
  cases p <;> simpa [PVok, e] using h

/-- A slot takes a value (or a pointer into a private row). The world is as it was. -/
theorem RelB.setp {n : Nat} {w0 : World} {H0 : Hp} {fr : Fr} {H : Hp} {a : Act} {w : World} {β : Nat → Option Nat} (h : RelB n w0 H0 fr H a w β) {d : Nat} (hd : d < n) (v : Value) (c : Bool) (p : PV)
    (hp : c = true → PVok β (a.tmps.setIfInBounds d v) w.heap d p) (hv : c = false → v = undef) : RelB n w0 H0 (fr.set d ⟨c, p⟩) H (a.put (some d) v) w β where
  nodup := Fr.nodup_set h.nodup _ _
  nt := by simp [Act.put, h.nt]
  slots := fun s sv hs hc => by
    by_cases e : s = d
    · subst e; rw [Fr.get_set_same] at hs; cases hs; exact hp hc
    · exact PVok.put e (h.slots s sv (Fr.get_set_ne h.nodup e hs).1 hc)
  skip := fun s sv hs hc => by
    by_cases e : s = d
    · subst e; rw [Fr.get_set_same] at hs; cases hs
      simp only at hc
      subst hc
      simp [Act.put, h.nt, hd, hv rfl]
    · have := h.skip s sv (Fr.get_set_ne h.nodup e hs).1 hc
      simpa [Act.put, Array.getElem?_setIfInBounds_ne (Ne.symm e)] using this
  sat := h.sat
  own := h.own
  priv := h.priv
  inj := h.inj
  os := h.os
  tape := h.tape
  output := h.output
  size := h.size
  same := h.same
  shape := h.shape
  mnd := h.mnd
  marks := h.marks

theorem RelB.setv {n : Nat} {w0 : World} {H0 : Hp} {fr : Fr} {H : Hp} {a : Act} {w : World} {β : Nat → Option Nat} (h : RelB n w0 H0 fr H a w β) {d : Nat} (hd : d < n) (v : Value) :
    RelB n w0 H0 (fr.set d ⟨true, .val v⟩) H (a.put (some d) v) w β :=
  h.setp hd v true _ (fun _ => by simp [PVok, h.nt, hd]) (fun e => by cases e)
theorem RelB.skipped {n : Nat} {w0 : World} {H0 : Hp} {fr : Fr} {H : Hp} {a : Act} {w : World} {β : Nat → Option Nat} (h : RelB n w0 H0 fr H a w β) {d : Nat} (hd : d < n) (p : PV) :
    RelB n w0 H0 (fr.set d ⟨false, p⟩) H (a.put (some d) undef) w β :=
  h.setp hd undef false p (fun e => by cases e) (fun _ => rfl)

/-- The heap moves on: what the frame leans on lies as it lay. -/
theorem RelB.move {n : Nat} {w0 : World} {H0 : Hp} {fr : Fr} {H H' : Hp} {a : Act} {w w' : World} {β : Nat → Option Nat} (h : RelB n w0 H0 fr H a w β) (hs : Sat w'.heap H') (hk : Kept H w w' H') :
    RelB n w0 H0 fr H' a w' β where
  nodup := h.nodup
  nt := h.nt
  slots := fun s sv hg hc => by
    have := h.slots s sv hg hc
    cases hp : sv.p with
    | val v => rw [hp] at this; exact this
    | lp t o => rw [hp] at this; exact this
    | box vs =>
      rw [hp] at this
      obtain ⟨b, T, hb, ht, hh⟩ := this
      have hpr := h.priv _ _ hb
      exact ⟨b, T, hb, ht, (hk.same b hpr.2.2 hpr.1).trans hh⟩
  skip := h.skip
  sat := hs
  own := fun b o ho => by
    rcases hk.fresh b o ho with hb | hb
    · cases hH : H b with
      | none => exact absurd hH hb
      | some o' => exact h.own b o' hH
    · exact .inr (Nat.le_trans h.size hb)
  priv := fun s b hb => by
    have hpr := h.priv s b hb
    refine ⟨?_, hpr.2.1, Nat.lt_of_lt_of_le hpr.2.2 hk.size⟩
    cases hH : H' b with
    | none => rfl
    | some o => rcases hk.fresh b o hH with hb | hb
                · exact absurd hpr.1 hb
                · omega
  inj := h.inj
  os := hk.os.trans h.os
  tape := hk.tape.trans h.tape
  output := hk.output.trans h.output
  size := Nat.le_trans h.size hk.size
  same := fun b hb h0 => by
    have hlt : b < w.heap.size := Nat.lt_of_lt_of_le hb h.size
    refine (hk.same b hlt ?_).trans (h.same b hb h0)
    cases hH : H b with
    | none => rfl
    | some o => rcases h.own b o hH with hb' | hb'
                · exact absurd h0 hb'
                · omega
  shape := fun b hb => (hk.shape b (Nat.lt_of_lt_of_le hb h.size)).trans (h.shape b hb)
  mnd := h.mnd
  marks := fun d hd => by
    obtain ⟨D, ht, hh, hn, hβ, hs⟩ := h.marks d hd
    have hlt : D < w.heap.size := Classical.byContradiction fun hn => by
      rw [Array.getElem?_eq_none (Nat.le_of_not_lt hn)] at hh; cases hh
    refine ⟨D, ht, (hk.same D hlt hn).trans hh, ?_, hβ, hs⟩
    cases hH : H' D with
    | none => rfl
    | some o => rcases hk.fresh D o hH with hb | hb
                · exact absurd hn hb
                · omega

/-- A private row is laid, and a slot points to it. -/
theorem RelB.box {n : Nat} {w0 : World} {H0 : Hp} {fr : Fr} {H : Hp} {a : Act} {w : World} {β : Nat → Option Nat} (h : RelB n w0 H0 fr H a w β) {d : Nat} (hd : d < n) (c : Array Value) (T : TypeId) :
    RelB n w0 H0 (fr.set d ⟨true, .box c.toList⟩) H (a.put (some d) (.pointer (some ⟨w.heap.size, 0, none⟩))) { w with heap := w.heap.push (.cells c T) } (fun s => if s = d then some w.heap.size else β s) where
  nodup := Fr.nodup_set h.nodup _ _
  nt := by simp [Act.put, h.nt]
  slots := fun s sv hs hc => by
    by_cases e : s = d
    · subst e
      rw [Fr.get_set_same] at hs
      cases hs
      exact ⟨w.heap.size, T, by simp, by simp [Act.put, h.nt, hd], by simp⟩
    · obtain ⟨hg, hl⟩ := Fr.get_set_ne h.nodup e hs
      have := PVok.put (v := .pointer (some ⟨w.heap.size, 0, none⟩)) e (h.slots s sv hg hc)
      cases hp : sv.p with
      | val v => rw [hp] at this; exact this
      | lp t o =>
        rw [hp] at this hl
        obtain ⟨b, hb, ht⟩ := this
        have hne : t ≠ d := by simpa [PV.isLp] using hl
        exact ⟨b, by simp [hne, hb], ht⟩
      | box vs =>
        rw [hp] at this
        obtain ⟨b, T', hb, ht, hh⟩ := this
        have hpr := h.priv _ _ hb
        refine ⟨b, T', by simp [e, hb], ht, ?_⟩
        show (w.heap.push _)[b]? = _
        rw [Array.getElem?_push, if_neg (by omega)]
        exact hh
  skip := fun s sv hs hc => by
    by_cases e : s = d
    · subst e; rw [Fr.get_set_same] at hs; cases hs; cases hc
    · have := h.skip s sv (Fr.get_set_ne h.nodup e hs).1 hc
      simpa [Act.put, Array.getElem?_setIfInBounds_ne (Ne.symm e)] using this
  sat := fun b o hb => by
    have hlt := h.sat.lt hb
    show AObj.ok ((w.heap.push _)[b]?) o
    rw [Array.getElem?_push, if_neg (by omega)]
    exact h.sat b o hb
  own := h.own
  priv := fun s b hb => by
    by_cases e : s = d
    · simp only [e, if_true] at hb
      cases hb
      refine ⟨?_, h.size, by simp⟩
      cases hH : H w.heap.size with
      | none => rfl
      | some o => exact absurd (h.sat.lt hH) (Nat.lt_irrefl _)
    · simp only [e, if_false] at hb
      have hpr := h.priv s b hb
      exact ⟨hpr.1, hpr.2.1, by simp; omega⟩
  inj := fun s s' b hb hb' => by
    by_cases e : s = d <;> by_cases e' : s' = d
    · rw [e, e']
    · simp only [e, if_true] at hb; simp only [e', if_false] at hb'
      cases hb
      have := (h.priv _ _ hb').2.2; omega
    · simp only [e, if_false] at hb; simp only [e', if_true] at hb'
      cases hb'
      have := (h.priv _ _ hb).2.2; omega
    · simp only [e, if_false] at hb; simp only [e', if_false] at hb'
      exact h.inj _ _ _ hb hb'
  os := h.os
  tape := h.tape
  output := h.output
  size := by simp; have := h.size; omega
  same := fun b hb h0 => by
    have := h.size
    show (w.heap.push _)[b]? = _
    rw [Array.getElem?_push, if_neg (by omega)]
    exact h.same b hb h0
  shape := fun b hb => by
    have := h.size
    show shp ((w.heap.push _)[b]?) = _
    rw [Array.getElem?_push, if_neg (by omega)]
    exact h.shape b hb
  mnd := h.mnd
  marks := fun d' hd' => by
    obtain ⟨D, ht, hh, hn, hβ, hs⟩ := h.marks d' hd'
    have hlt : D < w.heap.size := Classical.byContradiction fun hn => by
      rw [Array.getElem?_eq_none (Nat.le_of_not_lt hn)] at hh; cases hh
    refine ⟨D, ht, ?_, hn, fun s hs' => ?_, hs⟩
    · show (w.heap.push _)[D]? = _
      rw [Array.getElem?_push, if_neg (by omega)]
      exact hh
    · by_cases e : s = d
      · simp only [e, if_true] at hs'; cases hs'; omega
      · simp only [e, if_false] at hs'; exact hβ s hs'

end Go.SL

/- Simple operations: their values in the abstract state, what they ask, and that the model's operations give them. -/
namespace Go.SL
open Go

structure Env where
  P : Program
  fn : Nat → FuncId
  gl : Nat → Nat

inductive Arg where
  | t (s : Nat)
  | c (v : Value)
  | g (k : Nat)
  | f (k : Nat)

/-- kinds of scalars -/
inductive Kd where
  | b
  | i
  | s
  deriving DecidableEq

inductive AOp where
  | mov (x : Arg)
  | pick (c a b : Arg)
  | ld (n : Option Nat) (x : Arg)
  | fld (off : Nat) (x : Arg)
  | idx (size : Nat) (x i : Arg)
  | idxa (size len : Nat) (x i : Arg)
  | len (str : Bool) (x : Arg)
  | bin (op : BinOp) (x y : Arg)
  | eqb (neg : Bool) (x y : Arg)
  | eqs (neg : Bool) (ks : List Kd) (x y : Arg)
  | eqn (neg : Bool) (x y : Arg)
  | not (x : Arg)
  | neg (x : Arg)
  | ext (i : Nat) (x : Arg)
  | bld (zero : List Value) (parts : List (Nat × Nat × Arg))
  | idxs (x i : Arg)
  | cvi (k : IntKind) (x : Arg)
  | cvs (x : Arg)
  | slc (size : Nat) (x : Arg) (lo hi mx : Option Arg)
  | slcs (x : Arg) (lo hi : Option Arg)
  | box (x : Arg)
  | new (zero : List Value)
  | mkf (f : Nat) (first cap : List Arg)
  | nilc (x : Arg)
  | mm (isMax : Bool) (x y : Arg)
  | fldv (off : Nat) (n : Option Nat) (x : Arg)
  | nop

section
variable (E : Env) (fr : Fr) (H : Hp)

/-- the value of an operand (undef where it is none) -/
def vo : Arg → Value
  | .t s => match fr.get s with
    | some ⟨_, .val v⟩ => v
    | _ => undef
  | .c v => v
  | .g k => .pointer (some ⟨E.gl k, 0, none⟩)
  | .f k => .func (.func (E.fn k)) #[] #[]
/-- the operand is a value, and is there -/
def vok : Arg → Prop
  | .t s => match fr.get s with
    | some ⟨c, .val _⟩ => c = true
    | _ => False
  | _ => True
/-- an operand that may be an address of a private row -/
def pvo : Arg → PV
  | .t s => match fr.get s with
    | some ⟨_, .box _⟩ => .lp s 0
    | some ⟨_, p⟩ => p
    | none => .val undef
  | x => .val (vo E fr x)
def pok : Arg → Prop
  | .t s => match fr.get s with
    | some ⟨c, _⟩ => c = true
    | none => False
  | _ => True

/-- the cells that a pointer leads to -/
def cellsOfPV : PV → Option (List Value)
  | .lp s _ => match fr.get s with
    | some ⟨_, .box vs⟩ => some vs
    | _ => none
  | .val (.pointer (some a)) => match H a.block with
    | some (.row vs _ _) => some vs
    | _ => none
  | _ => none
def offOfPV : PV → Nat
  | .lp _ o => o
  | .val (.pointer (some a)) => a.off
  | _ => 0
/-- the row behind it is there (a private one: surely) -/
def rowThere : PV → Prop
  | .lp s _ => match fr.get s with
    | some ⟨c, .box _⟩ => c = true
    | _ => False
  | .val (.pointer (some a)) => a.spot = none ∧ (∃ vs cap wr, H a.block = some (.row vs cap wr))
  | _ => False
def part1 (n : Option Nat) (vs : List Value) (o : Nat) : Value :=
  match n with
  | none => vs.getD o undef
  | some m => .agg ((vs.drop o).take m).toArray
def szOf : Option Nat → Nat
  | none => 1
  | some m => m
end

def ptrOk : PV → Prop
  | .lp _ _ => True
  | .val (.pointer (some a)) => a.spot = none
  | _ => False

def shiftPV (off : Nat) : PV → PV
  | .lp s o => .lp s (o + off)
  | .val (.pointer (some a)) => .val (.pointer (some ⟨a.block, a.off + off, none⟩))
  | _ => .val undef

def strOf : Value → List UInt8
  | .string s => s.data.toList
  | _ => []
def intOf : Value → Int
  | .int _ n => n
  | _ => 0

/-- two-place operators on integers, strings, bools; equality with nil -/
def binO (op : BinOp) : Value → Value → Option Value
  | .int k a, .int k' b =>
    match op with
    | .shl => if b < 0 then none else some (.int k (k.wrap (a * 2 ^ (min b.toNat k.bits))))
    | .shr => if b < 0 then none else some (.int k (a.fdiv (2 ^ (min b.toNat k.bits))))
    | _ => if k = k' then
      match op with
      | .add => some (.int k (k.wrap (a + b)))
      | .sub => some (.int k (k.wrap (a - b)))
      | .mul => some (.int k (k.wrap (a * b)))
      | .quo => if b = 0 then none else some (.int k (k.wrap (a.tdiv b)))
      | .rem => if b = 0 then none else some (.int k (a.tmod b))
      | .and => some (.int k (k.wrap (BitVec.ofInt k.bits a &&& BitVec.ofInt k.bits b).toNat))
      | .or => some (.int k (k.wrap (BitVec.ofInt k.bits a ||| BitVec.ofInt k.bits b).toNat))
      | .xor => some (.int k (k.wrap (BitVec.ofInt k.bits a ^^^ BitVec.ofInt k.bits b).toNat))
      | .andNot => some (.int k (k.wrap (BitVec.ofInt k.bits a &&& ~~~(BitVec.ofInt k.bits b)).toNat))
      | .eql => some (.bool (a == b))
      | .neq => some (.bool (a != b))
      | .lss => some (.bool (a < b))
      | .leq => some (.bool (a ≤ b))
      | .gtr => some (.bool (a > b))
      | .geq => some (.bool (a ≥ b))
      | _ => none
      else none
  | .string a, .string b =>
    match op with
    | .add => if a.size + b.size ≤ 9223372036854775807 then some (.string (a ++ b)) else none
    | .eql => some (.bool (a.data.toList == b.data.toList))
    | .neq => some (.bool (!(a.data.toList == b.data.toList)))
    | .lss => some (.bool (Op.bytesLess a.data.toList b.data.toList))
    | .leq => some (.bool (Op.bytesLess a.data.toList b.data.toList || a.data.toList == b.data.toList))
    | .gtr => some (.bool (!(Op.bytesLess a.data.toList b.data.toList || a.data.toList == b.data.toList)))
    | .geq => some (.bool (!(Op.bytesLess a.data.toList b.data.toList)))
    | _ => none
  | _, _ => none

/-- == on structs of scalars -/
def scalEq : Kd → Value → Value → Option Bool
  | .b, .bool a, .bool b => some (a == b)
  | .i, .int k a, .int k' b => if k = k' then some (a == b) else none
  | .s, .string a, .string b => some (a.data.toList == b.data.toList)
  | _, _, _ => none
def allEq : List Kd → List Value → List Value → Option Bool
  | [], [], [] => some true
  | k :: ks, x :: xs, y :: ys => match scalEq k x y, allEq ks xs ys with
    | some a, some b => some (a && b)
    | _, _ => none
  | _, _, _ => none
def aggEq (ks : List Kd) : Value → Value → Option Bool
  | .agg xs, .agg ys => allEq ks xs.toList ys.toList
  | _, _ => none
/-- keys: a scalar, or a struct of scalars -/
def keyEq (ag : Bool) (ks : List Kd) (x y : Value) : Option Bool :=
  if ag then aggEq ks x y else match ks with
    | [k] => scalEq k x y
    | _ => none
/-- the place and the value of a key -/
def mfind (ag : Bool) (ks : List Kd) (k : Value) : List MapEntry → Nat → Option (Option (Nat × Value))
  | [], _ => some none
  | e :: es, i => match keyEq ag ks k e.key with
    | some true => some (some (i, e.val))
    | some false => mfind ag ks k es (i + 1)
    | none => none
/-- the shape of a key -/
def keyIs (ag : Bool) (ks : List Kd) (k : Value) : Prop :=
  if ag then (match k with | .agg cs => cs.toList.length = ks.length | _ => False) else True
/-- a slice against nil -/
def nilEq : Value → Value → Option Bool
  | .slice a _ _, .slice none 0 0 => some a.isNone
  | _, _ => none

def splice (cells : List Value) (off : Nat) (new : List Value) : List Value := cells.take off ++ new ++ cells.drop (off + new.length)

section
variable (E : Env) (fr : Fr) (H : Hp)

def fillT : List Value → List (Nat × Nat × Arg) → List Value
  | cells, [] => cells
  | cells, (off, _, x) :: r => fillT (splice cells off (vo E fr x).cells.toList) r
def fillC : Nat → List (Nat × Nat × Arg) → Prop
  | _, [] => True
  | n, (off, size, x) :: r => vok fr x ∧ (vo E fr x).cells.toList.length = size ∧ off + size ≤ n ∧ fillC n r
def allok : List Arg → Prop
  | [] => True
  | x :: r => vok fr x ∧ allok r

/-- bounds of a slice expression -/
def bnd (d : Nat) : Option Arg → Nat
  | none => d
  | some x => (intOf (vo E fr x)).toNat
def bndC (y : Nat) : Option Arg → Prop
  | none => True
  | some x => vok fr x ∧ (match vo E fr x with | .int _ i => 0 ≤ i ∧ i ≤ y | _ => False)

def simT : AOp → PV
  | .mov x => pvo E fr x
  | .pick c a b => match vo E fr c with
    | .bool q => match vo E fr a, vo E fr b with
      | .bool x, .bool y => .val (.bool (bif q then x else y))
      | x, y => .val (bif q then x else y)
    | _ => .val undef
  | .ld n x => match cellsOfPV fr H (pvo E fr x) with
    | some vs => .val (part1 n vs (offOfPV (pvo E fr x)))
    | none => .val undef
  | .fld off x => shiftPV off (pvo E fr x)
  | .idx size x i => match vo E fr x, vo E fr i with
    | .slice (some a) _ _, .int _ i => .val (.pointer (some ⟨a.block, a.off + i.toNat * size, none⟩))
    | _, _ => .val undef
  | .idxa size _ x i => shiftPV ((intOf (vo E fr i)).toNat * size) (pvo E fr x)
  | .len _ x => match vo E fr x with
    | .string s => .val (.int .i64 s.size)
    | .slice _ n _ => .val (.int .i64 n)
    | _ => .val undef
  | .bin op x y => .val ((binO op (vo E fr x) (vo E fr y)).getD undef)
  | .eqb neg x y => match vo E fr x, vo E fr y with
    | .bool a, .bool b => .val (.bool ((a == b) ^^ neg))
    | _, _ => .val undef
  | .eqs neg ks x y => .val (.bool (((aggEq ks (vo E fr x) (vo E fr y)).getD false) ^^ neg))
  | .eqn neg x y => .val (.bool (((nilEq (vo E fr x) (vo E fr y)).getD false) ^^ neg))
  | .not x => match vo E fr x with
    | .bool b => .val (.bool !b)
    | _ => .val undef
  | .neg x => match vo E fr x with
    | .int k n => .val (.int k (k.wrap (0 - n)))
    | _ => .val undef
  | .ext i x => match vo E fr x with
    | .tuple vs => .val (vs.toList.getD i undef)
    | _ => .val undef
  | .bld zero parts => .val (.agg (fillT E fr zero parts).toArray)
  | .idxs x i => .val (.int .u8 ((strOf (vo E fr x)).getD (intOf (vo E fr i)).toNat 0).toNat)
  | .cvi k x => match vo E fr x with
    | .int _ n => .val (.int k (k.wrap n))
    | _ => .val undef
  | .cvs x => .val (vo E fr x)
  | .slc size x lo hi mx => match vo E fr x with
    | .slice a len cap =>
      let m := bnd E fr cap mx
      let h := bnd E fr len hi
      let l := bnd E fr 0 lo
      .val (.slice (if m = l then a else a.map (fun a => ⟨a.block, a.off + l * size, none⟩)) (h - l) (m - l))
    | _ => .val undef
  | .slcs x lo hi => match vo E fr x with
    | .string s => .val (.string (s.extract (bnd E fr 0 lo) (bnd E fr s.size hi)))
    | _ => .val undef
  | .box x => .box (vo E fr x).cells.toList
  | .new zero => .box zero
  | .mkf f first cap => .val (.func (.func (E.fn f)) (first.map (vo E fr)).toArray (cap.map (vo E fr)).toArray)
  | .nilc x => pvo E fr x
  | .mm isMax x y => match vo E fr x, vo E fr y with
    | .int k a, .int _ b => .val (.int k (if isMax then max a b else min a b))
    | _, _ => .val undef
  | .fldv off n x => match vo E fr x with
    | .agg cs => .val (part1 n cs.toList off)
    | _ => .val undef
  | .nop => .val undef

def simC : AOp → Prop
  | .mov x => pok fr x
  | .pick c a b => vok fr c ∧ (match vo E fr c with
    | .bool q => (q = true → vok fr a) ∧ (q = false → vok fr b)
    | _ => False)
  | .ld n x => pok fr x ∧ rowThere fr H (pvo E fr x) ∧ (match cellsOfPV fr H (pvo E fr x) with
    | some vs => offOfPV (pvo E fr x) + szOf n ≤ vs.length
    | none => False)
  | .fld _ x => pok fr x ∧ ptrOk (pvo E fr x)
  | .idx _ x i => vok fr x ∧ vok fr i ∧ (match vo E fr x, vo E fr i with
    | .slice (some a) len _, .int _ i => a.spot = none ∧ 0 ≤ i ∧ i < len
    | _, _ => False)
  | .idxa _ len x i => pok fr x ∧ vok fr i ∧ ptrOk (pvo E fr x) ∧ (match vo E fr i with
    | .int _ i => 0 ≤ i ∧ i < len
    | _ => False)
  | .len st x => vok fr x ∧ (match vo E fr x with
    | .string _ => st = true
    | .slice _ _ _ => st = false
    | _ => False)
  | .bin op x y => vok fr x ∧ vok fr y ∧ (binO op (vo E fr x) (vo E fr y)).isSome = true
  | .eqb _ x y => vok fr x ∧ vok fr y ∧ (match vo E fr x, vo E fr y with
    | .bool _, .bool _ => True
    | _, _ => False)
  | .eqs _ ks x y => vok fr x ∧ vok fr y ∧ (aggEq ks (vo E fr x) (vo E fr y)).isSome = true
  | .eqn _ x y => vok fr x ∧ vok fr y ∧ (nilEq (vo E fr x) (vo E fr y)).isSome = true
  | .not x => vok fr x ∧ (match vo E fr x with
    | .bool _ => True
    | _ => False)
  | .neg x => vok fr x ∧ (match vo E fr x with
    | .int _ _ => True
    | _ => False)
  | .ext i x => vok fr x ∧ (match vo E fr x with
    | .tuple vs => i < vs.toList.length
    | _ => False)
  | .bld zero parts => fillC E fr zero.length parts
  | .idxs x i => vok fr x ∧ vok fr i ∧ (match vo E fr x, vo E fr i with
    | .string s, .int _ i => 0 ≤ i ∧ i < s.size
    | _, _ => False)
  | .cvi _ x => vok fr x ∧ (match vo E fr x with
    | .int _ _ => True
    | _ => False)
  | .cvs x => vok fr x ∧ (match vo E fr x with
    | .string _ => True
    | _ => False)
  | .slc _ x lo hi mx => vok fr x ∧ (match vo E fr x with
    | .slice a len cap => (∀ b, a = some b → b.spot = none) ∧ bndC E fr cap mx ∧ bndC E fr (bnd E fr cap mx) hi ∧ bndC E fr (bnd E fr len hi) lo
    | _ => False)
  | .slcs x lo hi => vok fr x ∧ (match vo E fr x with
    | .string s => bndC E fr s.size hi ∧ bndC E fr (bnd E fr s.size hi) lo
    | _ => False)
  | .box x => vok fr x
  | .new _ => True
  | .mkf _ first cap => allok fr first ∧ allok fr cap
  | .nilc x => pok fr x ∧ (match pvo E fr x with
    | .lp _ _ => True
    | .val (.pointer (some _)) => True
    | .val (.func (.func _) _ _) => True
    | _ => False)
  | .mm _ x y => vok fr x ∧ vok fr y ∧ (match vo E fr x, vo E fr y with
    | .int k _, .int k' _ => k = k'
    | _, _ => False)
  | .fldv off n x => vok fr x ∧ (match vo E fr x with
    | .agg cs => off + szOf n ≤ cs.toList.length
    | _ => False)
  | .nop => True
end
end Go.SL

/- The model's operations give what the simple operations say. -/
namespace Go.SL
open Go

/-- equality of constants, as far as it is asked -/
def vbeq : Value → Value → Bool
  | .bool a, .bool b => a == b
  | .int k a, .int l b => k == l && a == b
  | .string a, .string b => a.data.toList == b.data.toList
  | .pointer none, .pointer none => true
  | .slice none a b, .slice none c d => a == c && b == d
  | .map none, .map none => true
  | .nilFunc, .nilFunc => true
  | .nilIface, .nilIface => true
  | _, _ => false
theorem vbeq_eq {a b : Value} (h : vbeq a b = true) : a = b := by
  unfold vbeq at h
  split at h
  all_goals first
    | (simp at h; done)
    | (simp at h; simp [h]; done)
    | (rename_i x y; obtain ⟨⟨x⟩⟩ := x; obtain ⟨⟨y⟩⟩ := y; simp at h; simp [h]; done)
    | rfl
def vbeqL : List Value → List Value → Bool
  | [], [] => true
  | a :: x, b :: y => vbeq a b && vbeqL x y
  | _, _ => false
theorem vbeqL_eq : ∀ {a b : List Value}, vbeqL a b = true → a = b
  | [], [], _ => rfl
  | a :: x, b :: y, h => by
    simp only [vbeqL, Bool.and_eq_true] at h
    rw [vbeq_eq h.1, vbeqL_eq h.2]
  | [], _ :: _, h => by simp [vbeqL] at h
  | _ :: _, [], h => by simp [vbeqL] at h

def chkArg (E : Env) : Operand → Arg → Bool
  | .tmp t, .t s => t == s
  | .const v, .c u => vbeq v u
  | .global k, .g j => k == E.gl j
  | .func k, .f j => k == E.fn j
  | _, _ => false

/-- the value that a slot's content stands for -/
def PVval (β : Nat → Option Nat) : PV → Value → Prop
  | .val v, u => u = v
  | .lp s o, u => ∃ b, β s = some b ∧ u = .pointer (some ⟨b, o, none⟩)
  | .box _, _ => False

section
variable {E : Env} {n : Nat} {w0 : World} {H0 : Hp} {fr : Fr} {H : Hp} {a : Act} {w : World} {β : Nat → Option Nat}

theorem eval_vo (h : RelB n w0 H0 fr H a w β) {X : Operand} {x : Arg} (hc : chkArg E X x = true) (hk : vok fr x) : a.eval X = vo E fr x := by
  cases x with
  | t s =>
    cases X <;> simp [chkArg] at hc
    subst hc
    simp only [vok] at hk
    split at hk
    · rename_i c v he
      have := h.slots _ _ he hk
      simp only [PVok] at this
      simp [Act.eval, vo, he, this]
    · exact hk.elim
  | c v => cases X <;> simp [chkArg] at hc; rw [vbeq_eq hc]; rfl
  | g k => cases X <;> simp [chkArg] at hc; subst hc; rfl
  | f k => cases X <;> simp [chkArg] at hc; subst hc; rfl

theorem eval_pvo (h : RelB n w0 H0 fr H a w β) {X : Operand} {x : Arg} (hc : chkArg E X x = true) (hk : pok fr x) : PVval β (pvo E fr x) (a.eval X) := by
  cases x with
  | t s =>
    cases X <;> simp [chkArg] at hc
    subst hc
    simp only [pok] at hk
    split at hk
    · rename_i c p he
      have := h.slots _ _ he hk
      simp only [pvo, he]
      cases p with
      | val v => simp only [PVok] at this; simp [PVval, Act.eval, this]
      | box vs => obtain ⟨b, T, hb, ht, _⟩ := this; exact ⟨b, hb, by simp [Act.eval, ht]⟩
      | lp t o => obtain ⟨b, hb, ht⟩ := this; exact ⟨b, hb, by simp [Act.eval, ht]⟩
    · exact hk.elim
  | c v => exact eval_vo h hc trivial
  | g v => exact eval_vo h hc trivial
  | f v => exact eval_vo h hc trivial

/-- the cells behind a pointer, as they lie -/
theorem cells_there (h : RelB n w0 H0 fr H a w β) {p : PV} {u : Value} {vs : List Value} (hu : PVval β p u) (hr : rowThere fr H p) (hc : cellsOfPV fr H p = some vs) :
    ∃ b c T fz, u = .pointer (some ⟨b, offOfPV p, none⟩) ∧ w.heap[b]? = some (.cells c T fz) ∧ vs <+: c.toList := by
  cases p with
  | box => exact hr.elim
  | lp s o =>
    obtain ⟨b, hb, rfl⟩ := hu
    simp only [rowThere] at hr
    split at hr
    · rename_i c vs' he
      obtain ⟨b', T, hb', _, hcell⟩ := h.slots _ _ he hr
      simp only [cellsOfPV, he] at hc
      cases hc
      rw [hb] at hb'; cases hb'
      exact ⟨b, _, T, _, rfl, hcell, by simp⟩
    · exact hr.elim
  | val v =>
    simp only [PVval] at hu
    subst hu
    unfold rowThere at hr
    split at hr
    · rename_i heq; cases heq
    · rename_i ad heq
      cases heq
      obtain ⟨hs, vs', cap, wr, hH⟩ := hr
      simp only [cellsOfPV, hH] at hc
      cases hc
      obtain ⟨c, T, fz, hh, _, hp, _⟩ := h.sat _ _ hH
      refine ⟨ad.block, c, T, fz, ?_, hh, hp⟩
      obtain ⟨b, o, s⟩ := ad
      simp at hs
      subst hs
      rfl
    · exact hr.elim

theorem cell_at {b : Nat} {c : Array Value} {T : TypeId} {fz : Nat × Nat} {vs : List Value} (hh : w.heap[b]? = some (.cells c T fz)) (hp : vs <+: c.toList) {i : Nat} (hi : i < vs.length) :
    w.cell? ⟨b, i, none⟩ = some (vs.getD i undef) := by
  obtain ⟨r, hr⟩ := hp
  have hlt : i < c.size := by
    have := congrArg List.length hr
    simp at this; omega
  have : c[i]? = vs[i]? := by
    rw [← Array.getElem?_toList, ← hr, List.getElem?_append_left hi]
  simp only [World.cell?, hh, this, Option.isSome_none, Bool.false_eq_true, if_false, List.getD, List.getElem?_eq_getElem hi, Option.getD_some]

theorem add_none (b o k : Nat) : (Addr.add ⟨b, o, none⟩ k) = ⟨b, o + k, none⟩ := by
  unfold Addr.add; split
  · rename_i h; subst h; rfl
  · rfl

theorem run_loadCellsFrom {b : Nat} {c : Array Value} {T : TypeId} {fz : Nat × Nat} {vs : List Value} (hh : w.heap[b]? = some (.cells c T fz)) (hp : vs <+: c.toList) (o : Nat) :
    ∀ (m i : Nat) (acc : Array Value), o + i + m ≤ vs.length →
      (loadCellsFrom ⟨b, o, none⟩ i m acc).run E.P w = .ok (acc ++ ((vs.drop (o + i)).take m).toArray) w
  | 0, i, acc, _ => by simp [loadCellsFrom, pure]
  | m + 1, i, acc, hl => by
    have hi : o + i < vs.length := by omega
    have hc := cell_at hh hp hi
    simp only [loadCellsFrom, add_none]
    rw [Sem.run_bind]
    simp only [load, Sem.run, hc, Result.andThen]
    rw [run_loadCellsFrom hh hp o m (i + 1) _ (by omega)]
    congr 1
    rw [List.drop_eq_getElem_cons hi, List.take_succ_cons, ← Nat.add_assoc]
    have : vs.getD (o + i) undef = vs[o + i] := by simp [List.getD, hi]
    rw [this]
    apply Array.toList_inj.1
    simp
end
end Go.SL

/- Which operation of the model is which simple operation; each gives its value. -/
namespace Go.SL
open Go

def sizeIs (P : Program) (t : TypeId) (m : Nat) : Bool :=
  match P.info? t with
  | some i => i.size == m
  | none => false
def isAggB (P : Program) (t : TypeId) : Option Bool :=
  match P.underlying t with
  | some (.struct _) | some (.array _ _) => some true
  | some _ => some false
  | none => none
def chkN (P : Program) (t : TypeId) : Option Nat → Bool
  | none => isAggB P t == some false
  | some m => isAggB P t == some true && sizeIs P t m
def zeroIs (P : Program) (t : TypeId) (z : List Value) : Bool :=
  match P.info? t with
  | some i => match i.zero with
    | some v => vbeqL v.cells.toList z
    | none => false
  | none => false
def chkOArg (E : Env) : Option Operand → Option Arg → Bool
  | none, none => true
  | some X, some x => chkArg E X x
  | _, _ => false
def chkArgs (E : Env) : List Operand → List Arg → Bool
  | [], [] => true
  | X :: Xs, x :: xs => chkArg E X x && chkArgs E Xs xs
  | _, _ => false
/-- scalar types: == goes by the values -/
def scalT (P : Program) (t : TypeId) : Bool :=
  match P.underlying t with
  | some .bool | some (.int _) | some .string => true
  | _ => false
def isSliceT (P : Program) (t : TypeId) : Bool :=
  match P.underlying t with
  | some (.slice _) => true
  | _ => false

def chkParts (E : Env) (fields : Array Field) : List (Nat × Operand) → List (Nat × Nat × Arg) → Bool
  | [], [] => true
  | (i, X) :: r, (off, size, x) :: r' => (match fields[i]? with
      | some f => f.offset == off && sizeIs E.P f.type size
      | none => false) && chkArg E X x && chkParts E fields r r'
  | _, _ => false
def chkPartsA (E : Env) (sz : Nat) : List (Nat × Operand) → List (Nat × Nat × Arg) → Bool
  | [], [] => true
  | (i, X) :: r, (off, size, x) :: r' => (i * sz == off && sz == size) && chkArg E X x && chkPartsA E sz r r'
  | _, _ => false

def kdOf (P : Program) (t : TypeId) : Option Kd :=
  match P.underlying t with
  | some .bool => some .b
  | some (.int _) => some .i
  | some .string => some .s
  | _ => none
/-- the fields, each one scalar, one after the other -/
def flatF (P : Program) : List Field → Nat → List Kd → Bool
  | [], _, [] => true
  | f :: fs, i, k :: ks => (f.name != "_") && f.offset == i && kdOf P f.type == some k && flatF P fs (i + 1) ks
  | _, _, _ => false
def flatT (P : Program) (t : TypeId) (ks : List Kd) : Bool :=
  match P.underlying t with
  | some (.struct fs) => !(P.stoodInHeld t) && !(P.eqGuardType P.depth t) && flatF P fs.toList 0 ks
  | _ => false
def allInfo (P : Program) : List Field → Bool
  | [] => true
  | f :: fs => (P.info? f.type).isSome && allInfo P fs

def chkOp (E : Env) : Op → AOp → Bool
  | .move X, .mov x => chkArg E X x
  | .assign X, .mov x => chkArg E X x
  | .pick C A B, .pick c a b => chkArg E C c && chkArg E A a && chkArg E B b
  | .load t X, .ld m x => chkN E.P t m && chkArg E X x
  | .fieldAddr s X f, .fld off x => (match E.P.underlying s with
      | some (.struct fs) => (match fs[f]? with
        | some fd => fd.offset == off && (match E.P.info? fd.type with | some i => i.size != 0 | none => false)
        | none => false)
      | _ => false) && chkArg E X x
  | .indexAddr t X I, .idx size x i => (match E.P.underlying t with
      | some (.slice e) => sizeIs E.P e size
      | _ => false) && chkArg E X x && chkArg E I i
  | .indexAddr t X I, .idxa size len x i => (match E.P.underlying t with
      | some (.array l e) => l == len && sizeIs E.P e size
      | _ => false) && chkArg E X x && chkArg E I i
  | .call { callee := .builtin .len, args, argTypes }, .len st x => (match argTypes.toList, args.toList with
      | [t], [X] => (match E.P.underlying t, st with
        | some .string, true => true
        | some (.slice _), false => true
        | _, _ => false) && chkArg E X x
      | _, _ => false)
  | .binOp op _ X Y _, .bin op' x y => op == op' && chkArg E X x && chkArg E Y y
  | .binOp op t X Y _, .eqb neg x y => (op == (if neg then .neq else .eql)) && (match E.P.underlying t with | some .bool => true | _ => false) && chkArg E X x && chkArg E Y y
  | .binOp op t X Y _, .eqs neg ks x y => (op == (if neg then .neq else .eql)) && flatT E.P t ks && chkArg E X x && chkArg E Y y
  | .binOp op t X Y _, .eqn neg x y => (op == (if neg then .neq else .eql)) && isSliceT E.P t && chkArg E X x && chkArg E Y y
  | .build t parts, .bld zero ps => zeroIs E.P t zero && (match E.P.underlying t with
      | some (.struct fs) => allInfo E.P fs.toList && chkParts E fs parts.toList ps
      | some (.array _ e) => (match ps with
        | [] => parts.isEmpty && (E.P.info? e).isSome
        | (_, sz, _) :: _ => sizeIs E.P e sz && chkPartsA E sz parts.toList ps)
      | _ => false)
  | .unOp .not _ X, .not x => chkArg E X x
  | .unOp .neg _ X, .neg x => chkArg E X x
  | .extract X i, .ext j x => i == j && chkArg E X x
  | .index t X I, .idxs x i => (match E.P.underlying t with | some .string => true | _ => false) && chkArg E X x && chkArg E I i
  | .convert s t X, .cvi k x => (match E.P.underlying s, E.P.underlying t with
      | some _, some (.int l) => l == k
      | _, _ => false) && chkArg E X x
  | .convert s t X, .cvs x => (match E.P.underlying s, E.P.underlying t with
      | some _, some .string => true
      | _, _ => false) && chkArg E X x
  | .slice t X lo hi mx, .slc size x l h m => (match E.P.underlying t with
      | some (.slice e) => sizeIs E.P e size
      | _ => false) && chkArg E X x && chkOArg E lo l && chkOArg E hi h && chkOArg E mx m && (mx.isNone || hi.isSome)
  | .slice t X lo hi none, .slcs x l h => (match E.P.underlying t with
      | some .string => true
      | _ => false) && chkArg E X x && chkOArg E lo l && chkOArg E hi h
  | .makeFunc (.func g) first cap, .mkf f fs cs => g == E.fn f && chkArgs E first.toList fs && chkArgs E cap.toList cs
  | .nilCheck X, .nilc x => chkArg E X x
  | .call { callee := .builtin .max, args, .. }, .mm true x y => (match args.toList with
      | [X, Y] => chkArg E X x && chkArg E Y y
      | _ => false)
  | .call { callee := .builtin .min, args, .. }, .mm false x y => (match args.toList with
      | [X, Y] => chkArg E X x && chkArg E Y y
      | _ => false)
  | .field s X f, .fldv off m x => (match E.P.underlying s with
      | some (.struct fs) => (match fs[f]? with
        | some fd => fd.offset == off && chkN E.P fd.type m
        | none => false)
      | _ => false) && chkArg E X x
  | _, _ => false

section
variable {E : Env} {n : Nat} {w0 : World} {H0 : Hp} {fr : Fr} {H : Hp} {a : Act} {w : World} {β : Nat → Option Nat}

theorem run_underlying' {t : TypeId} {d : TypeDesc} (h : E.P.underlying t = some d) : (underlying t).run E.P w = .ok d w := by
  simp [underlying, program, Sem.run_bind, Sem.run, Result.andThen, h]
theorem run_typeInfo' {t : TypeId} {i : TypeInfo} (h : E.P.info? t = some i) : (typeInfo t).run E.P w = .ok i w := by
  simp [typeInfo, program, Sem.run_bind, Sem.run, Result.andThen, h]
theorem run_sizeOf' {t : TypeId} {m : Nat} (h : sizeIs E.P t m = true) : (sizeOf t).run E.P w = .ok m w := by
  unfold sizeIs at h
  split at h
  · rename_i i hi
    simp at h
    simp [sizeOf, run_typeInfo' hi, Result.andThen, h]
  · cases h
theorem run_isAgg' {t : TypeId} {b : Bool} (h : isAggB E.P t = some b) : (isAgg t).run E.P w = .ok b w := by
  unfold isAggB at h
  split at h
  · rename_i fs he; cases h; simp [isAgg, Sem.run_bind, run_underlying' he, Result.andThen]
  · rename_i k e he; cases h; simp [isAgg, Sem.run_bind, run_underlying' he, Result.andThen]
  · rename_i d h1 h2 he
    cases h
    simp only [isAgg, Sem.run_bind, run_underlying' he, Result.andThen]
    rfl
  · cases h

/-- One walk through a load. -/
theorem run_loadVar' {t : TypeId} {m : Option Nat} (hn : chkN E.P t m = true) {b o : Nat} {c : Array Value} {T : TypeId} {fz : Nat × Nat} {vs : List Value}
    (hh : w.heap[b]? = some (.cells c T fz)) (hp : vs <+: c.toList) (hl : o + szOf m ≤ vs.length) :
    (loadVar t ⟨b, o, none⟩).run E.P w = .ok (part1 m vs o) w := by
  cases m with
  | none =>
    simp [chkN] at hn
    simp only [loadVar, Sem.run_bind, run_isAgg' hn, Result.andThen, Bool.false_eq_true, if_false, load, Sem.run, cell_at hh hp (show o < vs.length from hl), part1]
  | some k =>
    simp [chkN] at hn
    simp only [loadVar, Sem.run_bind, run_isAgg' hn.1, Result.andThen, if_true, run_sizeOf' hn.2, loadCells, run_loadCellsFrom hh hp o k 0 #[] (by simp [szOf] at hl; omega), part1]
    simp [pure]

theorem run_binO {op : BinOp} {x y v : Value} {t : TypeId} (h : binO op x y = some v) : (binOp op t x y).run E.P w = .ok v w := by
  unfold binO at h
  split at h
  · rename_i k a k' b
    split at h
    · split at h
      · cases h
      · cases h; rename_i hb; simp [binOp, Op.shift, hb]
    · split at h
      · cases h
      · cases h; rename_i hb; simp [binOp, Op.shift, hb]
    · rename_i n1 n2
      split at h
      · rename_i hk
        subst hk
        split at h <;> (try (split at h)) <;> (try (cases h)) <;> simp_all [binOp, Op.intArith, Op.intDiv, Op.intBits, Op.intCmp]
      · cases h
  · rename_i a b
    have ea : ∀ x : ByteArray, x.toList = x.data.toList := ByteArray.toList_eq
    split at h <;> (try (split at h)) <;> (try (cases h)) <;> simp_all [binOp, Op.stringOp, IntKind.max, IntKind.signed, IntKind.bits]
    omega

  · cases h

theorem eqGuard_plain {op : BinOp} {x y v : Value} {t : TypeId} {X Y : Operand} (h : binO op x y = some v) : (eqGuard op t X Y x y).run E.P w = .ok () w := by
  unfold binO at h
  split at h
  · unfold eqGuard; split <;> rfl
  · unfold eqGuard; split <;> rfl
  · cases h

theorem run_sliceBound' {x : Value} {y : Nat} {c : BoundsCode} {k : IntKind} {i : Int} (hx : x = .int k i) (h0 : 0 ≤ i) (h1 : i ≤ y) : (Instr.sliceBound x y c).run E.P w = .ok i.toNat w := by
  subst hx
  simp [Instr.sliceBound, asIntOf, h0, h1]

/-- the bounds of a slice expression come out -/
theorem run_bnds (h : RelB n w0 H0 fr H a w β) {isS : Bool} {len cap : Nat} {lo hi mx : Option Operand} {l hh m : Option Arg}
    (cl : chkOArg E lo l = true) (ch : chkOArg E hi hh = true) (cm : chkOArg E mx m = true) (hx : mx.isNone = true ∨ hi.isSome = true)
    (bm : bndC E fr cap m) (bh : bndC E fr (bnd E fr cap m) hh) (bl : bndC E fr (bnd E fr len hh) l) :
    (Instr.sliceBounds isS len cap (lo.map a.eval) (hi.map a.eval) (mx.map a.eval)).run E.P w = .ok (bnd E fr 0 l, bnd E fr len hh, bnd E fr cap m) w := by
  have one : ∀ {X : Option Operand} {x : Option Arg} {y : Nat}, chkOArg E X x = true → bndC E fr y x →
      (X = none ∧ x = none) ∨ (∃ X' x' k i, X = some X' ∧ x = some x' ∧ a.eval X' = .int k i ∧ vo E fr x' = .int k i ∧ 0 ≤ i ∧ i ≤ y) := by
    intro X x y hc hb
    cases X with
    | none => cases x with
      | none => exact .inl ⟨rfl, rfl⟩
      | some => simp [chkOArg] at hc
    | some X' => cases x with
      | none => simp [chkOArg] at hc
      | some x' =>
        obtain ⟨hv, hb⟩ := hb
        have e := eval_vo h (E := E) hc hv
        split at hb
        · rename_i k i hi
          exact .inr ⟨X', x', k, i, rfl, rfl, by rw [e, hi], hi, hb.1, hb.2⟩
        · exact hb.elim
  unfold Instr.sliceBounds
  rcases one cm bm with ⟨rfl, rfl⟩ | ⟨X1, x1, k1, i1, rfl, rfl, e1, v1, p1, q1⟩ <;> rcases one ch bh with ⟨rfl, rfl⟩ | ⟨X2, x2, k2, i2, rfl, rfl, e2, v2, p2, q2⟩ <;>
    rcases one cl bl with ⟨rfl, rfl⟩ | ⟨X3, x3, k3, i3, rfl, rfl, e3, v3, p3, q3⟩ <;>
    simp_all [Sem.run_bind, Result.andThen, bnd, intOf, pure, Sem.run, run_sliceBound' rfl]

theorem run_scal {d : Nat} {t : TypeId} {k : Kd} {x y : Value} {b : Bool} (hk : kdOf E.P t = some k) (h : scalEq k x y = some b) : (Op.equalIn (d + 1) t x y).run E.P w = .ok b w := by
  unfold kdOf at hk
  split at hk
  · rename_i hu; cases hk; unfold scalEq at h; split at h <;> simp_all [run_equalIn_bool' w d t _ _ hu]
  · rename_i k' hu; cases hk; unfold scalEq at h
    split at h <;> simp_all
    rename_i kk a kk' c
    obtain ⟨rfl, rfl⟩ := h
    exact run_equalIn_int w d t _ _ _ _ hu
  · rename_i hu; cases hk; unfold scalEq at h
    split at h <;> simp_all [run_equalIn_string w d t _ _ hu, ByteArray.toList_eq]
  · cases hk

theorem part_scal {t : TypeId} {k : Kd} (hk : kdOf E.P t = some k) {cs : Array Value} {i : Nat} {v : Value} (h : cs[i]? = some v) : (part t cs i).run E.P w = .ok v w := by
  have : isAggB E.P t = some false := by
    unfold kdOf at hk
    split at hk <;> first | (rename_i hu; simp [isAggB, hu]; done) | cases hk
  simp [part, Sem.run_bind, run_isAgg' this, Result.andThen, h]

theorem run_eqFields {xs ys : Array Value} {d : Nat} : ∀ (fs : List Field) (i : Nat) (ks : List Kd) (b : Bool), flatF E.P fs i ks = true → allEq ks (xs.toList.drop i) (ys.toList.drop i) = some b →
    (Op.eqFields (d + 1) xs ys fs).run E.P w = .ok b w
  | [], i, ks, b, hf, h => by
    cases ks with
    | cons => simp [flatF] at hf
    | nil =>
      cases hx : xs.toList.drop i <;> cases hy : ys.toList.drop i <;> simp [hx, hy, allEq] at h
      subst h
      rfl
  | f :: fs, i, ks, b, hf, h => by
    cases ks with
    | nil => simp [flatF] at hf
    | cons k ks =>
      simp only [flatF, Bool.and_eq_true, bne_iff_ne, ne_eq, beq_iff_eq] at hf
      obtain ⟨⟨⟨h1, h2⟩, h3⟩, h4⟩ := hf
      cases hx : xs.toList.drop i with
      | nil => simp [hx, allEq] at h
      | cons x xs' => cases hy : ys.toList.drop i with
        | nil => simp [hx, hy, allEq] at h
        | cons y ys' =>
          have ex : xs[i]? = some x := by
            have : (xs.toList.drop i)[0]? = some x := by rw [hx]; rfl
            simpa using this
          have ey : ys[i]? = some y := by
            have : (ys.toList.drop i)[0]? = some y := by rw [hy]; rfl
            simpa using this
          have dx : xs.toList.drop (i + 1) = xs' := by rw [← List.drop_drop, hx]; rfl
          have dy : ys.toList.drop (i + 1) = ys' := by rw [← List.drop_drop, hy]; rfl
          rw [hx, hy] at h
          simp only [allEq] at h
          split at h
          · rename_i c e hc he
            cases h
            have hrest := run_eqFields (xs := xs) (ys := ys) (d := d) fs (i + 1) ks e h4 (by rw [dx, dy]; exact he)
            simp only [Op.eqFields]
            rw [if_pos h1, Sem.run_bind, h2, part_scal h3 ex]
            simp only [Result.andThen]
            rw [Sem.run_bind, part_scal h3 ey]
            simp only [Result.andThen]
            rw [Sem.run_bind, run_scal h3 hc]
            simp only [Result.andThen]
            cases c <;> simp [hrest]
          · cases h

theorem run_places : ∀ (fs : List Field), allInfo E.P fs = true →
    (fs.mapM (fun f => do pure (f.offset, ← sizeOf f.type) : Field → Sem (Nat × Nat))).run E.P w = .ok (fs.map fun f => (f.offset, E.P.cellsOf f.type)) w
  | [], _ => rfl
  | f :: fs, h => by
    simp only [allInfo, Bool.and_eq_true] at h
    obtain ⟨i, hi⟩ := Option.isSome_iff_exists.1 h.1
    have hs : (sizeOf f.type).run E.P w = .ok (E.P.cellsOf f.type) w := run_sizeOf' (by simp [sizeIs, hi, Program.cellsOf])
    rw [List.mapM_cons, Sem.run_bind, Sem.run_bind, hs]
    simp only [Result.andThen, Sem.run_pure]
    rw [Sem.run_bind, run_places fs h.2]
    simp [Result.andThen]
end

theorem foldl_splice (off : Nat) : ∀ (vs : List Value) (k : Nat) (cells : Array Value), off + k + vs.length ≤ cells.size →
    ((vs.zipIdx k).foldl (fun (cs : Array Value) (x : Value × Nat) => cs.setIfInBounds (off + x.2) x.1) cells).toList = splice cells.toList (off + k) vs
  | [], k, cells, _ => by simp [splice]
  | v :: vs, k, cells, h => by
    simp only [List.zipIdx_cons, List.foldl_cons, List.length_cons] at h ⊢
    rw [foldl_splice off vs (k + 1) _ (by simp; omega), Array.toList_setIfInBounds]
    unfold splice
    have hlt : off + k < cells.toList.length := by simp; omega
    have e1 : (cells.toList.set (off + k) v).take (off + (k + 1)) = cells.toList.take (off + k) ++ [v] := by
      rw [← Nat.add_assoc, List.take_succ_eq_append_getElem (by simpa using hlt)]
      simp [List.take_set_of_le]
    have e2 : (cells.toList.set (off + k) v).drop (off + (k + 1) + vs.length) = cells.toList.drop (off + k + (v :: vs).length) := by
      rw [List.drop_set_of_lt (by omega)]
      congr 1
      simp; omega
    rw [e1, e2]
    simp

theorem fill_one {place : Nat → Option (Nat × Nat)} {cells : Array Value} {i off size : Nat} {v : Value} {rest : List (Nat × Value)} (hp : place i = some (off, size)) (h1 : v.cells.toList.length = size)
    (h2 : off + size ≤ cells.size) : Instr.fill place cells ((i, v) :: rest) = Instr.fill place (splice cells.toList off v.cells.toList).toArray rest := by
  have hs : v.cells.size = size := by simpa using h1
  have hfold : v.cells.zipIdx.foldl (fun (cs : Array Value) (x : Value × Nat) => cs.setIfInBounds (off + x.2) x.1) cells = (splice cells.toList off v.cells.toList).toArray := by
    apply Array.toList_inj.1
    have := foldl_splice off v.cells.toList 0 cells (by simp; omega)
    rw [← Array.foldl_toList]
    simpa using this
  conv => lhs; unfold Instr.fill
  simp only [hp]
  rw [if_neg (by simp [hs]; omega), hfold]

section
variable {E : Env} {n : Nat} {w0 : World} {H0 : Hp} {fr : Fr} {H : Hp} {a : Act} {w : World} {β : Nat → Option Nat}

theorem splice_len {l : List Value} {k : Nat} {vs : List Value} (h : k + vs.length ≤ l.length) : (splice l k vs).length = l.length := by
  simp [splice]; omega

theorem fill_parts (h : RelB n w0 H0 fr H a w β) {fs : Array Field} : ∀ {ps : List (Nat × Operand)} {qs : List (Nat × Nat × Arg)} {cells : List Value}, chkParts E fs ps qs = true → fillC E fr cells.length qs →
    Instr.fill (fun i => ((fs.toList.map fun f => (f.offset, E.P.cellsOf f.type)).toArray)[i]?) cells.toArray (ps.map fun (i, x) => (i, a.eval x)) = some (fillT E fr cells qs).toArray
  | [], [], cells, _, _ => by simp [Instr.fill, fillT]
  | (i, X) :: ps, (off, size, x) :: qs, cells, hc, hk => by
    simp only [chkParts, Bool.and_eq_true] at hc
    obtain ⟨⟨h1, h2⟩, h3⟩ := hc
    obtain ⟨k1, k2, k3, k4⟩ := hk
    have ev := eval_vo h h2 k1
    split at h1
    · rename_i f hf
      simp only [Bool.and_eq_true, beq_iff_eq] at h1
      obtain ⟨rfl, h1⟩ := h1
      have hsz : E.P.cellsOf f.type = size := by
        unfold sizeIs at h1
        split at h1
        · rename_i q hq; simpa [Program.cellsOf, hq] using h1
        · cases h1
      simp only [List.map_cons, ev]
      rw [fill_one (off := f.offset) (size := size) (by simp [hf, hsz]) k2 (by simpa using k3)]
      rw [List.toList_toArray, fill_parts h (cells := splice cells f.offset (vo E fr x).cells.toList) h3 (by rw [splice_len (by omega)]; exact k4)]
      rfl
    · cases h1
  | [], _ :: _, _, hc, _ => by simp [chkParts] at hc
  | _ :: _, [], _, hc, _ => by simp [chkParts] at hc
theorem fill_partsA (h : RelB n w0 H0 fr H a w β) {sz : Nat} : ∀ {ps : List (Nat × Operand)} {qs : List (Nat × Nat × Arg)} {cells : List Value}, chkPartsA E sz ps qs = true → fillC E fr cells.length qs →
    Instr.fill (fun i => some (i * sz, sz)) cells.toArray (ps.map fun (i, x) => (i, a.eval x)) = some (fillT E fr cells qs).toArray
  | [], [], cells, _, _ => by simp [Instr.fill, fillT]
  | (i, X) :: ps, (off, size, x) :: qs, cells, hc, hk => by
    simp only [chkPartsA, Bool.and_eq_true, beq_iff_eq] at hc
    obtain ⟨⟨⟨rfl, rfl⟩, h2⟩, h3⟩ := hc
    obtain ⟨k1, k2, k3, k4⟩ := hk
    have ev := eval_vo h h2 k1
    simp only [List.map_cons, ev]
    rw [fill_one rfl k2 (by simpa using k3)]
    rw [List.toList_toArray, fill_partsA h (cells := splice cells (i * sz) (vo E fr x).cells.toList) h3 (by rw [splice_len (by omega)]; exact k4)]
    rfl
  | [], _ :: _, _, hc, _ => by simp [chkPartsA] at hc
  | _ :: _, [], _, hc, _ => by simp [chkPartsA] at hc
end
end Go.SL

/- The plain law: a stage, and the stage that takes it back. -/
import Derived.Test.YtilkdjdnhkchpaaGreatDoorNplN
namespace Go.SL
open Go

section
variable {κ : Type} [DecidableEq κ]
theorem mem_mput {ν : Type} {k : κ} {v : ν} {l : List (κ × ν)} {j : κ} : j ∈ (mput k v l).map (·.1) ↔ j = k ∨ j ∈ l.map (·.1) := by
  induction l with
  | nil => simp [mput]
  | cons e r ih =>
    obtain ⟨k', u⟩ := e
    simp only [mput]
    split
    · rename_i h; subst h; simp
    · simp only [List.map_cons, List.mem_cons, ih]
      constructor
      · rintro (h | h | h)
        · exact .inr (.inl h)
        · exact .inl h
        · exact .inr (.inr h)
      · rintro (h | h | h)
        · exact .inr (.inl h)
        · exact .inl h
        · exact .inr (.inr h)
theorem nodup_mput {ν : Type} {k : κ} {v : ν} {l : List (κ × ν)} (h : (l.map (·.1)).Nodup) : ((mput k v l).map (·.1)).Nodup := by
  induction l with
  | nil => simp [mput]
  | cons e r ih =>
    obtain ⟨k', u⟩ := e
    simp only [List.map_cons, List.nodup_cons] at h
    simp only [mput]
    split
    · rename_i hk; subst hk; simp only [List.map_cons, List.nodup_cons]; exact h
    · rename_i hk
      simp only [List.map_cons, List.nodup_cons, mem_mput]
      exact ⟨fun hx => hx.elim (fun e => hk e.symm) h.1, ih h.2⟩
theorem mem_keysN {f : Nat → κ} {n : Nat} {j : κ} : j ∈ (keysN f n).map (·.1) ↔ ∃ i, i < n ∧ f i = j := by
  induction n with
  | zero => simp [keysN]
  | succ n ih =>
    simp only [keysN, mem_mput, ih]
    constructor
    · rintro (h | ⟨i, hi, h⟩)
      · exact ⟨n, by omega, h.symm⟩
      · exact ⟨i, by omega, h⟩
    · rintro ⟨i, hi, h⟩
      by_cases e : i = n
      · subst e; exact .inl h.symm
      · exact .inr ⟨i, by omega, h⟩
theorem nodup_keysN {f : Nat → κ} {n : Nat} : ((keysN f n).map (·.1)).Nodup := by
  induction n with
  | zero => simp [keysN]
  | succ n ih => exact nodup_mput ih
theorem mget_keysN {f : Nat → κ} {n : Nat} {j : κ} : (mget j (keysN f n)).getD false = true ↔ ∃ i, i < n ∧ f i = j := by
  induction n with
  | zero => simp [keysN, mget]
  | succ n ih =>
    simp only [keysN, mget_mput]
    by_cases h : j = f n
    · simp only [h, if_true, Option.getD_some, true_iff]
      exact ⟨n, by omega, rfl⟩
    · simp only [h, if_false, ih]
      constructor
      · rintro ⟨i, hi, he⟩; exact ⟨i, by omega, he⟩
      · rintro ⟨i, hi, he⟩
        by_cases e : i = n
        · subst e; exact absurd he.symm h
        · exact ⟨i, by omega, he⟩
theorem nodup_len {l l' : List κ} (h : l.Nodup) (hs : ∀ x ∈ l, x ∈ l') : l.length ≤ l'.length := by
  induction l generalizing l' with
  | nil => simp
  | cons x r ih =>
    simp only [List.nodup_cons] at h
    have hx := hs x (List.mem_cons_self ..)
    have : r.length ≤ (l'.erase x).length := ih h.2 fun y hy => by
      have hne : y ≠ x := fun e => h.1 (e ▸ hy)
      exact (List.mem_erase_of_ne hne).2 (hs y (List.mem_cons_of_mem _ hy))
    rw [List.length_erase_of_mem hx] at this
    have := List.length_pos_of_mem hx
    simp only [List.length_cons]
    omega
end

theorem getD_mem {α : Type} {l : List α} {i : Nat} {d : α} (h : i < l.length) : l.getD i d ∈ l := by
  rw [List.getD_eq_getElem?_getD, List.getElem?_eq_getElem h]; simp
theorem mem_getD {α : Type} {l : List α} {x : α} (d : α) (h : x ∈ l) : ∃ i, i < l.length ∧ l.getD i d = x := by
  obtain ⟨i, hi, e⟩ := List.mem_iff_getElem.1 h
  exact ⟨i, hi, by rw [List.getD_eq_getElem?_getD, List.getElem?_eq_getElem hi]; simpa using e⟩

def keys (ps : List PlacedD) : List Pair := ps.map PlacedD.key
theorem mem_pairsN {ps : List PlacedD} {k : Pair} : (mget k (pairsN ps ps.length)).getD false = true ↔ k ∈ keys ps := by
  unfold pairsN
  rw [mget_keysN]
  constructor
  · rintro ⟨i, hi, rfl⟩; exact List.mem_map.2 ⟨_, getD_mem hi, rfl⟩
  · intro h
    obtain ⟨p, hp, rfl⟩ := List.mem_map.1 h
    obtain ⟨i, hi, e⟩ := mem_getD default hp
    exact ⟨i, hi, by rw [e]⟩
theorem nodup_of_apart {ps : List PlacedD} (h : ∀ i, i < ps.length → (mget (ps.getD i default).key (pairsN ps i)).getD false = false) : (keys ps).Nodup := by
  unfold keys
  rw [List.Nodup, List.pairwise_iff_getElem]
  intro i j hi hj hij he
  simp only [List.length_map] at hi hj
  have := h j hj
  have h2 : (mget (ps.getD j default).key (pairsN ps j)).getD false = true := by
    unfold pairsN
    rw [mget_keysN]
    refine ⟨i, hij, ?_⟩
    simpa [List.getD_eq_getElem?_getD, hi, hj] using he
  rw [this] at h2
  cases h2
theorem apart_of_nodup {ps : List PlacedD} (h : (keys ps).Nodup) {i : Nat} (hi : i < ps.length) : (mget (ps.getD i default).key (pairsN ps i)).getD false = false := by
  cases hc : (mget (ps.getD i default).key (pairsN ps i)).getD false with
  | false => rfl
  | true =>
    exfalso
    unfold pairsN at hc
    rw [mget_keysN] at hc
    obtain ⟨j, hj, he⟩ := hc
    unfold keys at h
    rw [List.Nodup, List.pairwise_iff_getElem] at h
    have := h j i (by simp; omega) (by simp; omega) hj
    apply this
    simpa [List.getD_eq_getElem?_getD, hi, Nat.lt_trans hj hi] using he

def apexCount (ps : List PlacedD) : Nat := (apexesN ps ps.length).length
theorem apexCount_le {ps qs : List PlacedD} (h : ∀ p ∈ ps, ∃ q ∈ qs, q.apex = p.apex) : apexCount ps ≤ apexCount qs := by
  unfold apexCount apexesN
  have := nodup_len (l := (keysN (fun k => (ps.getD k default).apex) ps.length).map (·.1)) (l' := (keysN (fun k => (qs.getD k default).apex) qs.length).map (·.1)) nodup_keysN (fun x hx => by
    rw [mem_keysN] at hx ⊢
    obtain ⟨i, hi, rfl⟩ := hx
    obtain ⟨q, hq, he⟩ := h _ (getD_mem (d := default) hi)
    obtain ⟨j, hj, e⟩ := mem_getD default hq
    exact ⟨j, hj, by rw [e]; exact he⟩)
  simpa using this

structure CopiesOk (hosts : Int) (zs : List PlacedD) : Prop where
  len : zs.length ≤ 4000
  each : ∀ p ∈ zs, 0 ≤ p.host ∧ p.host < hosts ∧ zoneValid p.apex p.sets = true
  nodup : (keys zs).Nodup
  apexes : apexCount zs ≤ 500
theorem copies_iff {hosts : Int} {zs : List PlacedD} : copiesValid hosts zs = true ↔ CopiesOk hosts zs := by
  unfold copiesValid
  simp only [Bool.and_eq_true, decide_eq_true_eq, allN_iff]
  constructor
  · rintro ⟨⟨h1, h2⟩, h3⟩
    have h2' : ∀ k, k < zs.length → 0 ≤ (zs.getD k default).host ∧ (zs.getD k default).host < hosts ∧ (mget (zs.getD k default).key (pairsN zs k)).getD false = false ∧ zoneValid (zs.getD k default).apex (zs.getD k default).sets = true := fun k hk => by
      have := h2 k hk
      simp only [copyOk, Bool.not_eq_true', Bool.or_eq_false_iff, decide_eq_false_iff_not, Bool.not_eq_false'] at this
      exact ⟨by omega, by omega, this.1.2, this.2⟩
    refine ⟨h1, fun p hp => ?_, nodup_of_apart fun i hi => (h2' i hi).2.2.1, h3⟩
    obtain ⟨i, hi, e⟩ := mem_getD default hp
    have := h2' i hi
    rw [e] at this
    exact ⟨this.1, this.2.1, this.2.2.2⟩
  · rintro ⟨h1, h2, h3, h4⟩
    refine ⟨⟨h1, fun k hk => ?_⟩, h4⟩
    have := h2 _ (getD_mem (d := default) hk)
    simp only [copyOk, apart_of_nodup h3 hk, this.2.2, Bool.not_true, Bool.or_false, Bool.not_eq_true', Bool.or_eq_false_iff, decide_eq_false_iff_not]
    omega
structure StageOk (hosts : Int) (ps : List PlacedD) : Prop where
  len : ps.length ≤ 500
  each : ∀ p ∈ ps, 0 ≤ p.host ∧ p.host < hosts ∧ (isStopB p = true ∨ zoneValid p.apex p.sets = true)
  nodup : (keys ps).Nodup
theorem stage_iff {hosts : Int} {ps : List PlacedD} : stageOKB ps hosts = true ↔ StageOk hosts ps := by
  unfold stageOKB
  simp only [Bool.and_eq_true, decide_eq_true_eq, allN_iff]
  constructor
  · rintro ⟨h1, h2⟩
    have h2' : ∀ k, k < ps.length → 0 ≤ (ps.getD k default).host ∧ (ps.getD k default).host < hosts ∧ (mget (ps.getD k default).key (pairsN ps k)).getD false = false ∧ (isStopB (ps.getD k default) = true ∨ zoneValid (ps.getD k default).apex (ps.getD k default).sets = true) := fun k hk => by
      have := h2 k hk
      simp only [putOk, Bool.not_eq_true', Bool.or_eq_false_iff, decide_eq_false_iff_not, Bool.and_eq_false_iff, Bool.not_eq_false'] at this
      exact ⟨by omega, by omega, this.1.2, this.2⟩
    refine ⟨h1, fun p hp => ?_, nodup_of_apart fun i hi => (h2' i hi).2.2.1⟩
    obtain ⟨i, hi, e⟩ := mem_getD default hp
    have := h2' i hi
    rw [e] at this
    exact ⟨this.1, this.2.1, this.2.2.2⟩
  · rintro ⟨h1, h2, h3⟩
    refine ⟨h1, fun k hk => ?_⟩
    have := h2 _ (getD_mem (d := default) hk)
    rcases this.2.2 with h | h <;> simp only [putOk, apart_of_nodup h3 hk, h, Bool.not_true, Bool.false_and, Bool.and_false, Bool.or_false, Bool.not_eq_true', Bool.or_eq_false_iff, decide_eq_false_iff_not] <;> omega

theorem zoneValid_sets {apex : Bs} {ss : List SignedD} (h : zoneValid apex ss = true) : ss.length ≠ 0 := by
  simp only [zoneValid, apexHoldsB, findB, Bool.and_eq_true, decide_eq_true_eq] at h
  omega
theorem zoneValid_apex {apex : Bs} {ss : List SignedD} (h : zoneValid apex ss = true) : nameValid apex = true ∧ hasPre apex [42] = false := by
  simp only [zoneValid, orderedB, Bool.and_eq_true, Bool.not_eq_true', Bool.or_eq_false_iff, Bool.not_eq_false'] at h
  exact h.1.1.1.1.1.1.1
theorem stop_of_apex {p : PlacedD} (h : nameValid p.apex = true ∧ hasPre p.apex [42] = false) (hs : p.sets.length = 0) : isStopB p = true := by
  simp only [isStopB, hs, h.1, Bool.and_true, beq_self_eq_true, Bool.true_and, Bool.not_eq_true', Bool.or_eq_false_iff]
  have h2 := h.2
  cases ha : p.apex with
  | nil => simp [hasPre]
  | cons a r =>
    rw [ha] at h2
    simp [hasPre] at h2
    constructor
    · simp [h2]
    · cases r with
      | nil => simp [hasPre]
      | cons b t => simp [hasPre, h2]
theorem apex_of_stop {p : PlacedD} (h : isStopB p = true) : nameValid p.apex = true ∧ (p.apex == [42] || hasPre p.apex [42, 46]) = false := by
  simp only [isStopB, Bool.and_eq_true, Bool.not_eq_true'] at h
  exact ⟨h.2, h.1.2⟩
theorem stop_same {p q : PlacedD} (h : isStopB p = true) (ha : q.apex = p.apex) (hs : q.sets = []) : isStopB q = true := by
  have := apex_of_stop h
  simp only [isStopB, ha, hs, List.length_nil, beq_self_eq_true, Bool.true_and, Bool.and_eq_true, Bool.not_eq_true']
  exact ⟨this.2, this.1⟩

/-! ### What a stage takes back -/
theorem mget_servedN {zs ps : List PlacedD} (hz : (keys zs).Nodup) {k : Pair} (hk : k ∈ keys ps) : ∀ n, n ≤ zs.length →
    (∀ i, mget k (servedN zs ps n) = some i → i < n ∧ (zs.getD i default).key = k) ∧ (mget k (servedN zs ps n) = none → ∀ i, i < n → (zs.getD i default).key ≠ k)
  | 0, _ => ⟨(fun i h => by cases h), fun _ i h => by omega⟩
  | n + 1, hn => by
    have ih := mget_servedN hz hk n (by omega)
    simp only [servedN]
    split
    · simp only [mget_mput]
      split
      · rename_i e
        refine ⟨fun i h => ?_, fun h => by cases h⟩
        cases h
        exact ⟨by omega, e.symm⟩
      · rename_i e
        refine ⟨fun i h => ⟨by have := (ih.1 i h).1; omega, (ih.1 i h).2⟩, fun h i hi => ?_⟩
        by_cases ei : i = n
        · subst ei; exact fun h => e h.symm
        · exact ih.2 h i (by omega)
    · rename_i hno
      refine ⟨fun i h => ⟨by have := (ih.1 i h).1; omega, (ih.1 i h).2⟩, fun h i hi => ?_⟩
      by_cases ei : i = n
      · subst ei
        intro he
        apply hno
        obtain ⟨p, hp, e⟩ := List.mem_map.1 hk
        obtain ⟨j, hj, ej⟩ := mem_getD default hp
        refine anyN_true hj ?_
        rw [ej, e, he]
        simp
      · exact ih.2 h i (by omega)
theorem undoP_spec {zs ps : List PlacedD} (hz : (keys zs).Nodup) {p : PlacedD} (hp : p ∈ ps) :
    (∃ z ∈ zs, z.key = p.key ∧ undoP zs ps p = z) ∨ (p.key ∉ keys zs ∧ undoP zs ps p = ⟨p.host, p.apex, []⟩) := by
  have hk : p.key ∈ keys ps := List.mem_map.2 ⟨p, hp, rfl⟩
  have h := mget_servedN hz hk zs.length (Nat.le_refl _)
  unfold undoP
  cases hg : mget p.key (servedN zs ps zs.length) with
  | some i =>
    obtain ⟨hi, he⟩ := h.1 i hg
    refine .inl ⟨_, getD_mem hi, he, ?_⟩
    have : p.host = (zs.getD i default).host := (congrArg Prod.fst he).symm
    simp [this]
  | none =>
    refine .inr ⟨fun hm => ?_, rfl⟩
    obtain ⟨z, hz', e⟩ := List.mem_map.1 hm
    obtain ⟨j, hj, ej⟩ := mem_getD default hz'
    exact h.2 hg j hj (by rw [ej]; exact e)
theorem undoP_key {zs ps : List PlacedD} (hz : (keys zs).Nodup) {p : PlacedD} (hp : p ∈ ps) : (undoP zs ps p).key = p.key := by
  rcases undoP_spec hz hp with ⟨z, _, hk, e⟩ | ⟨_, e⟩
  · rw [e]; exact hk
  · rw [e]; rfl
theorem keys_undoL {zs ps : List PlacedD} (hz : (keys zs).Nodup) : keys (undoL zs ps) = keys ps := by
  unfold keys undoL
  rw [List.map_map]
  exact List.map_congr_left fun p hp => undoP_key hz hp

theorem filter_pairs (zs ps : List PlacedD) : zs.filter (fun p => !((mget p.key (pairsN ps ps.length)).getD false)) = zs.filter (fun p => decide (p.key ∉ keys ps)) := by
  apply List.filter_congr
  intro p _
  by_cases h : p.key ∈ keys ps
  · simp [mem_pairsN.2 h, h]
  · have : (mget p.key (pairsN ps ps.length)).getD false = false := by
      cases hc : (mget p.key (pairsN ps ps.length)).getD false with
      | false => rfl
      | true => exact absurd (mem_pairsN.1 hc) h
    simp [this, h]

section
variable {hosts : Int} {zs ps : List PlacedD}

theorem afterL_eq : afterL zs ps = zs.filter (fun p => decide (p.key ∉ keys ps)) ++ ps.filter (fun p => !isStopB p) := by
  unfold afterL; rw [filter_pairs]
theorem nodup_filter_keys {l : List PlacedD} (h : (keys l).Nodup) (f : PlacedD → Bool) : (keys (l.filter f)).Nodup := by
  unfold keys at *
  exact List.Nodup.sublist (List.Sublist.map _ List.filter_sublist) h
theorem between_ok (hz : CopiesOk hosts zs) (hp : StageOk hosts ps) (ht : tooManyB (afterL zs ps) = false) : CopiesOk hosts (afterL zs ps) := by
  simp only [tooManyB, Bool.or_eq_false_iff, decide_eq_false_iff_not] at ht
  refine ⟨by omega, fun p h => ?_, ?_, by unfold apexCount; omega⟩
  · rw [afterL_eq] at h
    rcases List.mem_append.1 h with h | h
    · exact hz.each p (List.mem_filter.1 h).1
    · have h' := List.mem_filter.1 h
      have := hp.each p h'.1
      refine ⟨this.1, this.2.1, this.2.2.resolve_left fun hs => ?_⟩
      simp [hs] at h'
  · rw [afterL_eq]
    unfold keys
    rw [List.map_append, List.nodup_append]
    refine ⟨nodup_filter_keys hz.nodup _, nodup_filter_keys hp.nodup _, fun a ha b hb => ?_⟩
    rintro rfl
    obtain ⟨x, hx, e⟩ := List.mem_map.1 ha
    obtain ⟨y, hy, e'⟩ := List.mem_map.1 hb
    have h1 := (List.mem_filter.1 hx).2
    simp only [decide_eq_true_eq] at h1
    exact h1 (List.mem_map.2 ⟨y, (List.mem_filter.1 hy).1, e'.trans e.symm⟩)
theorem undo_ok (hz : CopiesOk hosts zs) (hp : StageOk hosts ps) : StageOk hosts (undoL zs ps) := by
  refine ⟨by simpa [undoL] using hp.len, fun u hu => ?_, by rw [keys_undoL hz.nodup]; exact hp.nodup⟩
  obtain ⟨p, hpm, rfl⟩ := List.mem_map.1 hu
  have h1 := hp.each p hpm
  rcases undoP_spec hz.nodup hpm with ⟨z, hzm, hk, e⟩ | ⟨_, e⟩
  · rw [e]
    have := hz.each z hzm
    exact ⟨this.1, this.2.1, .inr this.2.2⟩
  · rw [e]
    refine ⟨h1.1, h1.2.1, .inl ?_⟩
    rcases h1.2.2 with h | h
    · exact stop_same h rfl rfl
    · exact stop_of_apex (zoneValid_apex h) rfl
theorem not_stop {z : PlacedD} (h : zoneValid z.apex z.sets = true) : isStopB z = false := by
  have := zoneValid_sets h
  simp only [isStopB, Bool.and_eq_false_iff]
  exact .inl (.inl (by simpa using this))
theorem after_eq (hz : CopiesOk hosts zs) : afterL (afterL zs ps) (undoL zs ps) = zs.filter (fun p => decide (p.key ∉ keys ps)) ++ (undoL zs ps).filter (fun p => !isStopB p) := by
  rw [afterL_eq (ps := undoL zs ps), keys_undoL hz.nodup, afterL_eq, List.filter_append, List.filter_filter]
  congr 1
  rw [show (ps.filter fun p => !isStopB p).filter (fun p => decide (p.key ∉ keys ps)) = [] from ?_, List.append_nil]
  · apply List.filter_congr; intro p _; simp
  · rw [List.filter_eq_nil_iff]
    intro p hp
    have := (List.mem_filter.1 hp).1
    simp only [decide_eq_true_eq, Decidable.not_not]
    exact List.mem_map.2 ⟨p, this, rfl⟩
theorem undo_stop (hp : StageOk hosts ps) {p : PlacedD} (h : p ∈ ps) : isStopB ⟨p.host, p.apex, []⟩ = true := by
  rcases (hp.each p h).2.2 with h | h
  · exact stop_same h rfl rfl
  · exact stop_of_apex (zoneValid_apex h) rfl
theorem after_mem (hz : CopiesOk hosts zs) (hp : StageOk hosts ps) : ∀ p ∈ afterL (afterL zs ps) (undoL zs ps), p ∈ zs := by
  rw [after_eq hz]
  intro p hm
  rcases List.mem_append.1 hm with h | h
  · exact (List.mem_filter.1 h).1
  · obtain ⟨hu, hs⟩ := List.mem_filter.1 h
    obtain ⟨q, hq, rfl⟩ := List.mem_map.1 hu
    rcases undoP_spec hz.nodup hq with ⟨z, hzm, _, e⟩ | ⟨hn, e⟩
    · rw [e]; exact hzm
    · exfalso
      rw [e, undo_stop hp hq] at hs
      cases hs
theorem key_inj {l : List PlacedD} (h : (keys l).Nodup) {p q : PlacedD} (hp : p ∈ l) (hq : q ∈ l) (hk : p.key = q.key) : p = q := by
  unfold keys at h
  obtain ⟨i, hi, ei⟩ := List.mem_iff_getElem.1 hp
  obtain ⟨j, hj, ej⟩ := List.mem_iff_getElem.1 hq
  rw [List.Nodup, List.pairwise_iff_getElem] at h
  have hne : ∀ a b (ha : a < l.length) (hb : b < l.length), a < b → l[a].key ≠ l[b].key := fun a b ha hb hab => by
    have := h a b (by simpa using ha) (by simpa using hb) hab
    simpa using this
  rcases Nat.lt_trichotomy i j with h1 | h1 | h1
  · exact absurd (by rw [ei, ej]; exact hk) (hne i j hi hj h1)
  · subst h1; rw [← ei, ← ej]
  · exact absurd (by rw [ei, ej]; exact hk.symm) (hne j i hj hi h1)
theorem mem_after (hz : CopiesOk hosts zs) : ∀ z ∈ zs, z ∈ afterL (afterL zs ps) (undoL zs ps) := by
  rw [after_eq hz]
  intro z hzm
  by_cases hk : z.key ∈ keys ps
  · obtain ⟨p, hpm, e⟩ := List.mem_map.1 hk
    refine List.mem_append.2 (.inr (List.mem_filter.2 ⟨?_, ?_⟩))
    · refine List.mem_map.2 ⟨p, hpm, ?_⟩
      rcases undoP_spec hz.nodup hpm with ⟨y, hy, hyk, ey⟩ | ⟨hn, _⟩
      · rw [ey]; exact key_inj hz.nodup hy hzm (hyk.trans e)
      · exact absurd (List.mem_map.2 ⟨z, hzm, e.symm⟩) hn
    · rw [not_stop (hz.each z hzm).2.2]; rfl
  · exact List.mem_append.2 (.inl (List.mem_filter.2 ⟨hzm, by simpa using hk⟩))
theorem after_nodup (hz : CopiesOk hosts zs) (hp : StageOk hosts ps) : (keys (afterL (afterL zs ps) (undoL zs ps))).Nodup := by
  rw [after_eq hz]
  have hu := undo_ok hz hp
  unfold keys
  rw [List.map_append, List.nodup_append]
  refine ⟨nodup_filter_keys hz.nodup _, nodup_filter_keys hu.nodup _, fun a ha b hb => ?_⟩
  rintro rfl
  obtain ⟨x, hx, e⟩ := List.mem_map.1 ha
  obtain ⟨y, hy, e'⟩ := List.mem_map.1 hb
  have h1 := (List.mem_filter.1 hx).2
  simp only [decide_eq_true_eq] at h1
  apply h1
  show x.key ∈ keys ps
  rw [← keys_undoL hz.nodup (ps := ps)]
  exact List.mem_map.2 ⟨y, (List.mem_filter.1 hy).1, e'.trans e.symm⟩
theorem after_len (hz : CopiesOk hosts zs) (hp : StageOk hosts ps) : (afterL (afterL zs ps) (undoL zs ps)).length = zs.length := by
  have h1 := nodup_len (after_nodup hz hp) (l' := keys zs) fun k hk => by
    obtain ⟨p, hpm, rfl⟩ := List.mem_map.1 hk
    exact List.mem_map.2 ⟨p, after_mem hz hp p hpm, rfl⟩
  have h2 := nodup_len hz.nodup (l' := keys (afterL (afterL zs ps) (undoL zs ps))) fun k hk => by
    obtain ⟨p, hpm, rfl⟩ := List.mem_map.1 hk
    exact List.mem_map.2 ⟨p, mem_after hz p hpm, rfl⟩
  simp only [keys, List.length_map] at h1 h2
  omega
theorem after_few (hz : CopiesOk hosts zs) (hp : StageOk hosts ps) : tooManyB (afterL (afterL zs ps) (undoL zs ps)) = false := by
  have h1 := after_len hz hp
  have h2 := hz.len
  have h3 := apexCount_le (ps := afterL (afterL zs ps) (undoL zs ps)) (qs := zs) fun p hpm => ⟨p, after_mem hz hp p hpm, rfl⟩
  have h4 := hz.apexes
  unfold apexCount at h3 h4
  simp only [tooManyB, Bool.or_eq_false_iff, decide_eq_false_iff_not]
  omega
theorem again_eq (hz : CopiesOk hosts zs) (hp : StageOk hosts ps) (ht : tooManyB (afterL zs ps) = false) : undoL (afterL zs ps) (undoL zs ps) = ps := by
  have hb := between_ok hz hp ht
  have hu := undo_ok hz hp
  have key : ∀ p ∈ ps, undoP (afterL zs ps) (undoL zs ps) (undoP zs ps p) = p := fun p hpm => by
    have hk := undoP_key hz.nodup hpm
    have hum : undoP zs ps p ∈ undoL zs ps := List.mem_map.2 ⟨p, hpm, rfl⟩
    rcases undoP_spec hb.nodup hum with ⟨z, hzm, hzk, e⟩ | ⟨hn, e⟩
    · rw [e]
      rw [hk] at hzk
      rw [afterL_eq] at hzm
      rcases List.mem_append.1 hzm with h | h
      · have := (List.mem_filter.1 h).2
        simp only [decide_eq_true_eq] at this
        exact absurd (List.mem_map.2 ⟨p, hpm, hzk.symm⟩) this
      · exact key_inj hp.nodup (List.mem_filter.1 h).1 hpm hzk
    · rw [e]
      rw [hk] at hn
      have hst : isStopB p = true := by
        cases hs : isStopB p with
        | true => rfl
        | false =>
          exfalso
          apply hn
          refine List.mem_map.2 ⟨p, ?_, rfl⟩
          rw [afterL_eq]
          exact List.mem_append.2 (.inr (List.mem_filter.2 ⟨hpm, by simp [hs]⟩))
      have hs0 : p.sets = [] := by
        simp only [isStopB, Bool.and_eq_true, beq_iff_eq] at hst
        exact List.eq_nil_of_length_eq_zero hst.1.1
      have h1 : (undoP zs ps p).host = p.host := congrArg Prod.fst hk
      have h2 : (undoP zs ps p).apex = p.apex := congrArg Prod.snd hk
      rw [h1, h2, ← hs0]
  unfold undoL
  rw [List.map_map]
  conv => rhs; rw [← List.map_id ps]
  exact List.map_congr_left key
end

/-- THE LAW -/
theorem undo_law {w : WorldD} {ps : List PlacedD} (hv : worldValid w = true) (hs : stageOKB ps w.hosts.length = true) (ht : tooManyB (afterL w.zones ps) = false) :
    worldE (worldOf w ps) (undoL w.zones ps) = 0 ∧
    (afterL (afterL w.zones ps) (undoL w.zones ps)).length = w.zones.length ∧
    (∀ p ∈ afterL (afterL w.zones ps) (undoL w.zones ps), p ∈ w.zones) ∧
    undoL (afterL w.zones ps) (undoL w.zones ps) = ps := by
  simp only [worldValid, Bool.and_eq_true] at hv
  have hz := copies_iff.1 hv.1.2
  have hp := stage_iff.1 hs
  have hb := copies_iff.2 (between_ok hz hp ht)
  have hu := stage_iff.2 (undo_ok hz hp)
  refine ⟨?_, after_len hz hp, after_mem hz hp, again_eq hz hp ht⟩
  simp [worldE, worldValid, worldOf, hv.1.1, hv.2, hb, hu, after_few hz hp]
end Go.SL

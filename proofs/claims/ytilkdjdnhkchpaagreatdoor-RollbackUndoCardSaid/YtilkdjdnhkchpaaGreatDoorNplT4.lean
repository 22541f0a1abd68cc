/- Contract of record.Valid. -/
import Derived.Test.YtilkdjdnhkchpaaGreatDoorNplO
import Derived.Test.YtilkdjdnhkchpaaGreatDoorNplT3
namespace Go.SL
open Go
variable {E : Env} {H : Hp}

theorem rules_at (t : Int) (h : withinI t 1 8 = true) : t.toNat * 8 + 8 ≤ rulesCells.length ∧ (rulesCells.drop (t.toNat * 8)).take 8 = rRule (rules.getD t.toNat default) ∧ 0 ≤ t ∧ t < 9 := by
  simp only [withinI, Bool.and_eq_true, decide_eq_true_eq] at h
  obtain ⟨n, rfl⟩ : ∃ n : Nat, t = n := ⟨t.toNat, by omega⟩
  simp only [Int.toNat_natCast]
  have hn : n = 1 ∨ n = 2 ∨ n = 3 ∨ n = 4 ∨ n = 5 ∨ n = 6 ∨ n = 7 ∨ n = 8 := by omega
  rcases hn with rfl | rfl | rfl | rfl | rfl | rfl | rfl | rfl <;> exact ⟨by decide, rfl, by omega, by omega⟩
def datOk (ty : Int) (ds : List DatumD) (i : Nat) : Bool := validDatum (rules.getD ty.toNat default) (ds.getD i default) && !(decide (0 < i) && decide (cmpDatum (ds.getD (i - 1) default) (ds.getD i default) ≥ 0))
theorem fn54 (hE : Codes E) (hB : Base E H) (name : Bs) (ty life : Int) {v : Value} {ds : List DatumD} (hd : DataAt H v ds) : FnP E 54 [.agg #[S name, .int .i64 ty, .int .i64 life, v]] H (.bool (recValid name ty life ds)) := by
  obtain ⟨a, cap, rfl, hs, hr⟩ := hd
  obtain ⟨gc, gw, hg⟩ := hB
  refine Fn.of_vks hE.c54 (by simp [c_record_Valid]) ?_
  simp only [c_record_Valid, c_record_Valid_r0, c_record_Valid_r1, c_record_Valid_r2, c_record_Valid_r3, c_record_Valid_r4, c_record_Valid_r5, c_record_Valid_r6, c_record_Valid_r7, c_record_Valid_r8, c_record_Valid_r9, c_record_Valid_r10, c_record_Valid_r11, c_record_Valid_r12, c_record_Valid_r13, c_record_Valid_r14]
  simp only [go_sem, Nat.reduceLeDiff, Nat.reduceEqDiff, Nat.reduceBEq, Nat.reduceAdd, reduceCtorEq]
  refine vks_callp _ ?_ (fun _ => ⟨?_, fn45 hE name⟩) ?_ <;> simp only [go_sem, Nat.reduceLeDiff, Nat.reduceEqDiff, Nat.reduceBEq, Nat.reduceAdd]
  refine vks_callp _ ?_ (fun hg => ⟨?_, fn74 hE ty 1 8⟩) ?_ <;> simp only [go_sem, Nat.reduceLeDiff, Nat.reduceEqDiff, Nat.reduceBEq, Nat.reduceAdd]
  · simp only [go_sem, Nat.reduceEqDiff] at hg ⊢; exact hg
  refine vks_callp _ ?_ (fun hg => ⟨?_, fn74 hE life 0 100000⟩) ?_ <;> simp only [go_sem, Nat.reduceEqDiff, Nat.reduceBEq, Nat.reduceAdd]
  · simp only [go_sem, Nat.reduceEqDiff] at hg ⊢; exact hg
  refine ⟨fun h => ?_, fun h => ?_⟩
  · have : (nameValid name && withinI ty 1 8 && withinI life 0 100000) = false := by
      clear hr hs; cases hx : nameValid name <;> cases hy : withinI ty 1 8 <;> cases hz : withinI life 0 100000 <;> simp_all
    simp only [recValid, this, Bool.false_and]
  have h0 : nameValid name = true ∧ withinI ty 1 8 = true ∧ withinI life 0 100000 = true := by
    clear hr hs; cases hx : nameValid name <;> cases hy : withinI ty 1 8 <;> cases hz : withinI life 0 100000 <;> simp_all
  refine vks_callp _ ?_ (fun _ => ⟨?_, fn74 hE (ds.length : Int) 1 8⟩) ?_ <;> simp only [go_sem, Nat.reduceLeDiff, Nat.reduceEqDiff, Nat.reduceBEq, Nat.reduceAdd, binO]
  have hrl := rules_at ty h0.2.1
  have hr1 := hrl.1
  have hr2 := hrl.2.1
  have hr3 := hrl.2.2.1
  have hr4 := hrl.2.2.2
  clear hrl
  simp only [hg, hr2, rRule, go_sem, Nat.reduceLeDiff, Nat.reduceEqDiff, Nat.reduceBEq, Nat.reduceAdd]
  refine ⟨fun h1 => ?_, fun h1 => ⟨⟨hr3, hr4⟩, hr1, ?_⟩⟩
  · have : withinI ds.length 1 8 = false := by simpa using h1
    simp only [recValid, this, Bool.and_false, Bool.false_and]
  have hlen : ds.length ≤ 8 := by simp [withinI] at h1; omega
  refine vks_callp _ ?_ (fun hg => ⟨?_, fn76 hE name⟩) ?_ <;> simp only [go_sem, Nat.reduceEqDiff, Nat.reduceBEq, Nat.reduceAdd]
  · simp only [go_sem, Nat.reduceEqDiff] at hg ⊢; exact hg
  obtain ⟨ru, hru⟩ : ∃ ru, ru = rules.getD ty.toNat default := ⟨_, rfl⟩
  rw [← hru]
  have hrec0 : recValid name ty life ds = (!(ru.single && (ds.length : Int) != 1) && !(isWildB name && !ru.wild) && allN (datOk ty ds) ds.length) := by
    have e : ((ds.length : Int) != 1) = (ds.length != 1) := by rw [Bool.eq_iff_iff]; simp; omega
    simp only [recValid, h0.1, h0.2.1, h0.2.2, h1, ← hru, Bool.true_and, e]
    rw [hru]; rfl
  refine ⟨?_, fun h2 => ?_, fun h2 => ?_⟩
  · exact fun hx => ⟨hx, fun hy => by simp only [hx, hy, Bool.not_false, Bool.and_self]⟩
  · have : (!(ru.single && (ds.length : Int) != 1) && !(isWildB name && !ru.wild)) = false := by rw [← Bool.not_or, h2]; rfl
    rw [hrec0, this, Bool.false_and]
  · have hrec : recValid name ty life ds = allN (datOk ty ds) ds.length := by
      rw [hrec0, ← Bool.not_or, h2]; rfl
    rw [hrec]
    refine vks_loopN ds.length 0 (fun k => [(1, ⟨true, .box [S name, .int .i64 ty, .int .i64 life, .slice a ds.length cap]⟩), (3, ⟨true, .box (rRule ru)⟩), (50, ⟨true, .val (.slice a ds.length cap)⟩), (51, ⟨true, .val (.int .i64 ds.length)⟩), (52, ⟨true, .val (.int .i64 k)⟩)]) (fun k => allN (datOk ty ds) k = true) (Nat.zero_le _) rfl rfl ?_
    intro k hk hP
    simp only [rRule, go_sem, Nat.reduceEqDiff, Nat.reduceBEq, Nat.reduceAdd, binO]
    refine ⟨fun h3 => ?_, fun h3 => ?_⟩
    · have hlt : k < ds.length := by simpa using h3
      have hr' := hr (by omega)
      obtain ⟨b, o, vs, c, wr, ha, hb, hi⟩ := hr'
      subst ha
      have hi1 := (hi k hlt).1
      have hi2 := (hi k hlt).2
      simp only [hb, hi2, rDatum, go_sem, Nat.reduceEqDiff, Nat.reduceBEq, Nat.reduceAdd]
      refine ⟨⟨by omega, by omega⟩, hi1, ?_⟩
      refine vks_dcallp _ ?_ (fun _ => ⟨?_, fn77 hE ru (ds.getD k default)⟩) ?_ ?_ <;> simp only [go_sem, Nat.reduceEqDiff, Nat.reduceBEq, Nat.reduceAdd, binO]
      have hF : datOk ty ds k = false → allN (datOk ty ds) ds.length = false := fun h => allN_false hlt h
      have hS : datOk ty ds k = true → allN (datOk ty ds) (k + 1) = true := fun h => allN_succ hP h
      have hdk : datOk ty ds k = (validDatum ru (ds.getD k default) && !(decide (0 < k) && decide (cmpDatum (ds.getD (k - 1) default) (ds.getD k default) ≥ 0))) := by rw [hru]; rfl
      by_cases hk0 : k = 0
      · have e0 : decide ((k : Int) > 0) = false := by simp; omega
        have e0' : decide (0 < k) = false := by simp; omega
        simp only [e0', Bool.false_and, Bool.not_false, Bool.and_true] at hdk
        simp only [hb, e0, go_sem]
        refine vks_dcallp (.int .i64 0) ?_ (fun hg => absurd hg ?_) ?_ ?_ <;> simp only [hb, e0, go_sem, Nat.reduceEqDiff, Nat.reduceBEq, Nat.reduceAdd, binO]
        · simp
        · exact ⟨fun hx => (hF (hdk.trans hx)).symm, fun hx => ⟨hlt, wrapS (by omega), hS (hdk.trans hx)⟩⟩
      · have e0 : decide ((k : Int) > 0) = true := by simp; omega
        have e0' : decide (0 < k) = true := by simp; omega
        simp only [e0', Bool.true_and] at hdk
        have e1 : IntKind.i64.wrap ((k : Int) - 1) = ((k - 1 : Nat) : Int) := by rw [wrapI] <;> omega
        have hj1 := (hi (k - 1) (by omega)).1
        have hj2 := (hi (k - 1) (by omega)).2
        simp only [e0, e1, toNat_ofNat', hb, hj2, rDatum, go_sem]
        refine ⟨fun hx => ⟨hx, hx, by omega, by omega⟩, fun hx => ⟨hx, hj1⟩, ?_⟩
        refine vks_dcallp _ ?_ (fun hg => ⟨?_, fn78 hE (ds.getD (k - 1) default) (ds.getD k default)⟩) ?_ ?_ <;> simp only [e0, go_sem, Nat.reduceEqDiff, Nat.reduceBEq, Nat.reduceAdd, binO]
        · simp only [go_sem, Nat.reduceEqDiff] at hg ⊢; exact ⟨hg, hg⟩
        · rw [bad_eq, ← hdk]
          exact ⟨fun hx => ⟨hx, hx⟩, fun hx => (hF (by simpa using hx)).symm, fun hx => ⟨hlt, wrapS (by omega), hS (by simpa using hx)⟩⟩
    · have : k = ds.length := by simp at h3; omega
      subst this
      exact hP.symm
theorem fn97 (hE : Codes E) (nm : Bs) (t : Int) {v : Value} {ss : List SignedD} (hss : SetsAt H v ss) (hn : ss.length ≤ 1099511627776) : FnP E 97 [v, .agg #[S nm, .int .i64 t], .func (.func (E.fn 96)) #[] #[]] H (.tuple #[.int .i64 (findI ss nm t), .bool (findB ss nm t)]) := by
  obtain ⟨d, g, ⟨a, cap, rfl, hs, hr⟩, hdeep⟩ := hss
  refine Fn.of_vks hE.c97 (by simp [c_slices_BinarySearchFunc_Signed]) ?_
  simp only [c_slices_BinarySearchFunc_Signed, c_slices_BinarySearchFunc_Signed_r0, c_slices_BinarySearchFunc_Signed_r1, c_slices_BinarySearchFunc_Signed_r2, c_slices_BinarySearchFunc_Signed_r3, c_slices_BinarySearchFunc_Signed_r4, c_slices_BinarySearchFunc_Signed_r5, c_slices_BinarySearchFunc_Signed_r6, c_slices_BinarySearchFunc_Signed_r7, c_slices_BinarySearchFunc_Signed_r8]
  simp only [go_sem, Nat.reduceEqDiff, Nat.reduceBEq, Nat.reduceAdd, reduceCtorEq]
  refine vks_loopM (fun m fr' H' => ∃ i j f, fr' = [(0, ⟨true, .val (.slice a ss.length cap)⟩), (2, ⟨true, .val (.func (.func (E.fn 96)) #[] #[])⟩), (4, ⟨true, .box [S nm, .int .i64 t]⟩), (8, ⟨true, .val (.int .i64 ss.length)⟩), (9, ⟨true, .val (.int .i64 ((i : Nat) : Int))⟩), (10, ⟨true, .val (.int .i64 ((j : Nat) : Int))⟩)] ∧
      H' = H ∧ i ≤ j ∧ j ≤ ss.length ∧ m = j - i ∧ j - i < f ∧ findI ss nm t = bsGo (fun h => cmpPl (sAt ss h).name (sAt ss h).type nm t) f i j) (ss.length - 0) ⟨0, ss.length, ss.length + 1, rfl, rfl, Nat.zero_le _, Nat.le_refl _, rfl, by omega, rfl⟩ ?_
  rintro m fr' H' ⟨i, j, f, rfl, rfl, hij, hj, rfl, hf, hfind⟩
  obtain ⟨f, rfl⟩ : ∃ f', f = f' + 1 := ⟨f - 1, by omega⟩
  simp only [bsGo] at hfind
  by_cases hlt : i < j
  · simp only [hlt, if_true] at hfind
    have hd : decide ((i : Int) < (j : Int)) = true := by simpa using hlt
    have e1 : IntKind.i64.wrap ((i : Int) + (j : Int)) = ((i + j : Nat) : Int) := by rw [wrapI] <;> omega
    have e2 : IntKind.i64.wrap ((IntKind.u64.wrap ((i + j : Nat) : Int)).fdiv (2 ^ min 1 64)) = (((i + j) / 2 : Nat) : Int) := by
      have : IntKind.u64.wrap ((i + j : Nat) : Int) = ((i + j : Nat) : Int) := by
        simp only [IntKind.wrap, IntKind.bits, IntKind.signed, Bool.false_and]; simp; omega
      rw [this]
      have h2 : (2 : Int) ^ min 1 64 = 2 := by decide
      rw [h2, Int.fdiv_eq_ediv_of_nonneg _ (by omega), wrapI] <;> omega
    have hr' := hr (by omega)
    obtain ⟨b, o, vs, c, wr, ha, hb, hi⟩ := hr'
    subst ha
    obtain ⟨h, hh⟩ : ∃ h, h = (i + j) / 2 := ⟨_, rfl⟩
    rw [← hh] at e2 hfind
    have hhn : h < ss.length := by omega
    have hi1 := (hi h hhn).1
    have hi2 := (hi h hhn).2
    simp only [hd, e1, e2, hb, hi2, rSigned, go_sem, Nat.reduceEqDiff, Nat.reduceBEq, Nat.reduceAdd, reduceCtorEq, Int.reduceToNat, Int.reduceLT, binO]
    refine ⟨⟨by omega, by omega⟩, hi1, ?_⟩
    refine vks_dcallv ?_ ?_ (FnV_of_Fn hE.e96 (Fn.same (fn96 hE (sAt ss h).name (sAt ss h).type (sAt ss h).life (d h) (g h) nm t))) ?_
    · simp only [go_sem, Nat.reduceEqDiff, reduceCtorEq]
    · simp only [go_sem, Nat.reduceEqDiff, reduceCtorEq]
    · rintro v H' ⟨rfl, rfl⟩
      simp only [go_sem, Nat.reduceEqDiff, Nat.reduceBEq, Nat.reduceAdd, reduceCtorEq, binO]
      refine ⟨fun hc => ?_, fun hc => ?_⟩
      · have hc' : cmpPl (sAt ss h).name (sAt ss h).type nm t < 0 := by simpa using hc
        rw [if_pos hc'] at hfind
        exact ⟨j - (h + 1), by omega, h + 1, j, f, ⟨wrapS (by omega), rfl⟩, by omega, hj, rfl, by omega, hfind⟩
      · have hc' : ¬ cmpPl (sAt ss h).name (sAt ss h).type nm t < 0 := by simpa using hc
        rw [if_neg hc'] at hfind
        exact ⟨h - i, by omega, i, h, f, ⟨rfl, rfl⟩, by omega, by omega, rfl, by omega, hfind⟩
  · simp only [hlt, if_false] at hfind
    have hd : decide ((i : Int) < (j : Int)) = false := by simpa using hlt
    have hij : i = j := by omega
    subst hij
    by_cases hin : i < ss.length
    · have hr' := hr (by omega)
      obtain ⟨b, o, vs, c, wr, ha, hb, hi⟩ := hr'
      subst ha
      have hd2 : decide ((i : Int) < (ss.length : Int)) = true := by simpa using hin
      have hi1 := (hi i hin).1
      have hi2 := (hi i hin).2
      simp only [hd, hd2, hb, hi2, rSigned, go_sem, Nat.reduceEqDiff, Nat.reduceBEq, Nat.reduceAdd, reduceCtorEq, Int.reduceToNat, Int.reduceLT, binO]
      refine ⟨⟨by omega, by omega⟩, hi1, ?_⟩
      refine vks_dbig (by intro x h; cases h) (by intro f a h; cases h) ?_ (fun _ => ⟨?_, ?_, _, FnV_of_Fn hE.e96 (Fn.same (fn96 hE (sAt ss i).name (sAt ss i).type (sAt ss i).life (d i) (g i) nm t)), ?_⟩) (fun hg => ?_)
      · simp only [go_sem, Nat.reduceEqDiff, reduceCtorEq]
      · simp only [go_sem, Nat.reduceEqDiff, reduceCtorEq]
      · simp only [go_sem, Nat.reduceEqDiff, reduceCtorEq]
      · rintro v H'' ⟨rfl, rfl⟩
        simp only [go_sem, Nat.reduceEqDiff, Nat.reduceBEq, Nat.reduceAdd, reduceCtorEq, binO]
        simp [findB, hfind, hin]
      · simp only [go_sem, Nat.reduceEqDiff, reduceCtorEq] at hg
    · have hd2 : decide ((i : Int) < (ss.length : Int)) = false := by simpa using hin
      have fin : ∀ {A : Prop}, A → (A ↔ True) := fun h => ⟨fun _ => trivial, fun _ => h⟩
      have hfb : findB ss nm t = false := by simp [findB, hfind, hin]
      obtain ⟨ho, hho⟩ : ∃ o, (match a with | none => none | some p => H' p.block) = o := ⟨_, rfl⟩
      rcases a with _ | p
      · simp only [undef, hd, hd2, go_sem, Nat.reduceEqDiff, Nat.reduceBEq, Nat.reduceAdd, reduceCtorEq, Int.reduceToNat, Int.reduceLT, binO]
        refine vks_dbig (by intro x h; cases h) (by intro f a h; cases h) ?_ (fun hg => ?_) (fun hg => ?_)
        · simp only [go_sem, Nat.reduceEqDiff, reduceCtorEq]
        · simp only [go_sem, Nat.reduceEqDiff, reduceCtorEq] at hg
        · simp only [undef, hfind, hfb, go_sem, Nat.reduceEqDiff, Nat.reduceBEq, Nat.reduceAdd, reduceCtorEq, binO]
      · simp only at hho
        rcases ho with _ | (⟨vs, c, w⟩ | ob)
        all_goals
          simp only [undef, hd, hd2, hho, go_sem, Nat.reduceEqDiff, Nat.reduceBEq, Nat.reduceAdd, reduceCtorEq, Int.reduceToNat, Int.reduceLT, binO]
          refine vks_dbig (by intro x h; cases h) (by intro f a h; cases h) ?_ (fun hg => ?_) (fun hg => ?_)
          · simp only [go_sem, Nat.reduceEqDiff, reduceCtorEq]
          · simp only [go_sem, Nat.reduceEqDiff, reduceCtorEq] at hg
          · simp only [undef, hho, hfind, hfb, go_sem, Nat.reduceEqDiff, Nat.reduceBEq, Nat.reduceAdd, reduceCtorEq, binO]
theorem fn82 (hE : Codes E) (nm : Bs) (t : Int) (apex : Bs) {v : Value} {ss : List SignedD} (hss : SetsAt H v ss) (hn : ss.length ≤ 1099511627776) : FnP E 82 [.agg #[S apex, v], .agg #[S nm, .int .i64 t]] H (.tuple #[.int .i64 (findI ss nm t), .bool (findB ss nm t)]) := by
  refine Fn.of_vks hE.c82 (by simp [c_zone_body_find]) ?_
  simp only [c_zone_body_find, c_zone_body_find_r0, c_zone_body_find_r1]
  simp only [go_sem, Nat.reduceEqDiff, Nat.reduceBEq, Nat.reduceAdd, reduceCtorEq]
  refine vks_callp _ ?_ (fun _ => ⟨?_, fn97 hE nm t hss hn⟩) ?_ <;> simp only [go_sem, Nat.reduceLT, Nat.reduceEqDiff, Nat.reduceBEq, Nat.reduceAdd]
end Go.SL

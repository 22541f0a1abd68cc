/- Contracts of package zone, first part. -/
import Derived.Test.YtilkdjdnhkchpaaGreatDoorNplO
import Derived.Test.YtilkdjdnhkchpaaGreatDoorNplT4
namespace Go.SL
open Go
variable {E : Env} {H : Hp}

def ordOk (apex : Bs) (ss : List SignedD) (i : Nat) : Bool := recValid (sAt ss i).name (sAt ss i).type (sAt ss i).life (sAt ss i).data && underB (sAt ss i).name apex &&
  (i == 0 || !decide (cmpPl (sAt ss (i - 1)).name (sAt ss (i - 1)).type (sAt ss i).name (sAt ss i).type ≥ 0))
set_option maxHeartbeats 1000000 in
theorem fn57 (hE : Codes E) (hB : Base E H) (apex : Bs) {v : Value} {ss : List SignedD} (hss : SetsAt H v ss) : FnP E 57 [.agg #[S apex, v]] H (.bool (orderedB apex ss)) := by
  obtain ⟨d, g, ⟨a, cap, rfl, hs, hr⟩, hdeep⟩ := hss
  refine Fn.of_vks hE.c57 (by simp [c_zone_body_ordered]) ?_
  simp only [c_zone_body_ordered, c_zone_body_ordered_r0, c_zone_body_ordered_r1, c_zone_body_ordered_r2, c_zone_body_ordered_r3, c_zone_body_ordered_r4, c_zone_body_ordered_r5, c_zone_body_ordered_r6, c_zone_body_ordered_r7, c_zone_body_ordered_r8, c_zone_body_ordered_r9, c_zone_body_ordered_r10, c_zone_body_ordered_r11, c_zone_body_ordered_r12, c_zone_body_ordered_r13, c_zone_body_ordered_r14, c_zone_body_ordered_r15, c_zone_body_ordered_r16]
  simp only [go_sem, Nat.reduceLeDiff, Nat.reduceEqDiff, Nat.reduceBEq, Nat.reduceAdd, reduceCtorEq]
  refine vks_callp _ ?_ (fun _ => ⟨?_, fn45 hE apex⟩) ?_ <;> simp only [go_sem, Nat.reduceLeDiff, Nat.reduceEqDiff, Nat.reduceBEq, Nat.reduceAdd]
  refine vks_callp _ ?_ (fun hg => ⟨?_, fn44 hE apex [42]⟩) ?_ <;> simp only [go_sem, Nat.reduceEqDiff, Nat.reduceBEq, Nat.reduceAdd, binO]
  · simp only [go_sem, Nat.reduceEqDiff] at hg ⊢; exact hg
  have ho : orderedB apex ss = (!(!nameValid apex || hasPre apex [42] || decide (ss.length > 20000)) && allN (ordOk apex ss) ss.length) := rfl
  have hc : decide ((ss.length : Int) > 20000) = decide (ss.length > 20000) := by rw [Bool.eq_iff_iff]; simp; omega
  rw [hc]
  refine ⟨fun h => ?_, fun h => ?_⟩
  · rw [ho, h]; rfl
  have hn : ss.length ≤ 20000 := by
    simp only [Bool.or_eq_false_iff, decide_eq_false_iff_not] at h; omega
  rw [ho, h, Bool.not_false, Bool.true_and]
  refine vks_loopN ss.length 0 (fun k => [(1, ⟨true, .box [S apex, .slice a ss.length cap]⟩), (28, ⟨true, .val (.slice a ss.length cap)⟩), (29, ⟨true, .val (.int .i64 ss.length)⟩), (30, ⟨true, .val (.int .i64 k)⟩)]) (fun k => allN (ordOk apex ss) k = true) (Nat.zero_le _) rfl rfl ?_
  intro k hk hP
  by_cases hlt : k < ss.length
  · have hd : decide ((k : Int) < (ss.length : Int)) = true := by simpa using hlt
    have hF : ordOk apex ss k = false → false = allN (ordOk apex ss) ss.length := fun h => (allN_false hlt h).symm
    have hS : ordOk apex ss k = true → k < ss.length ∧ IntKind.i64.wrap ((k : Int) + 1) = ((k + 1 : Nat) : Int) ∧ allN (ordOk apex ss) (k + 1) = true := fun h => ⟨hlt, wrapS (by omega), allN_succ hP h⟩
    have hr' := hr (by omega)
    obtain ⟨b, o, vs, c, wr, ha, hb, hi⟩ := hr'
    subst ha
    have hi1 := (hi k hlt).1
    have hi2 := (hi k hlt).2
    have hdk := (hdeep k hlt).1
    have hd1 := SlAt.one hdk
    have hg1 := SlAt.one (hdeep k hlt).2
    simp only [hd, hb, hi2, rSigned, hd1, hg1, go_sem, Nat.reduceLeDiff, Nat.reduceEqDiff, Nat.reduceBEq, Nat.reduceAdd, binO]
    refine ⟨⟨by omega, by omega⟩, hi1, ?_⟩
    refine vks_callp _ ?_ (fun _ => ⟨?_, fn54 hE hB (ss.getD k default).name (ss.getD k default).type (ss.getD k default).life hdk⟩) ?_ <;> simp only [go_sem, Nat.reduceLeDiff, Nat.reduceEqDiff, Nat.reduceBEq, Nat.reduceAdd]
    refine ⟨fun h1 => hF ?_, fun h1 => ?_⟩
    · have h1' : recValid (sAt ss k).name (sAt ss k).type (sAt ss k).life (sAt ss k).data = false := h1
      simp only [ordOk, h1', Bool.false_and]
    have h1' : recValid (sAt ss k).name (sAt ss k).type (sAt ss k).life (sAt ss k).data = true := h1
    refine vks_callp _ ?_ (fun _ => ⟨?_, fn80 hE (ss.getD k default).name apex⟩) ?_ <;> simp only [go_sem, Nat.reduceLT, Nat.reduceEqDiff, Nat.reduceBEq, Nat.reduceAdd, binO]
    refine ⟨fun h2 => hF ?_, fun h2 => ?_⟩
    · have h2' : underB (sAt ss k).name apex = false := h2
      simp only [ordOk, h2', Bool.and_false, Bool.false_and]
    have h2' : underB (sAt ss k).name apex = true := h2
    have ho1 : ordOk apex ss k = (k == 0 || !decide (cmpPl (sAt ss (k - 1)).name (sAt ss (k - 1)).type (sAt ss k).name (sAt ss k).type ≥ 0)) := by simp only [ordOk, h1', h2', Bool.true_and]
    by_cases hk0 : k = 0
    · have e0 : ((k : Int) == 0) = true := by simp; omega
      simp only [e0, go_sem]
      refine hS ?_
      rw [ho1, hk0]; rfl
    · have e0 : ((k : Int) == 0) = false := by simp; omega
      have e1 : IntKind.i64.wrap ((k : Int) - 1) = ((k - 1 : Nat) : Int) := by rw [wrapI] <;> omega
      have hj1 := (hi (k - 1) (by omega)).1
      have hjd := SlAt.one (hdeep (k - 1) (by omega)).1
      have hj2 := take_of_take (hi (k - 1) (by omega)).2 0 4 (by omega)
      simp only [Nat.add_zero] at hj2
      simp only [e0, e1, hb, hj2, rSigned, hjd, go_sem, Nat.reduceLeDiff, Nat.reduceEqDiff, Nat.reduceBEq, Nat.reduceAdd]
      refine ⟨⟨by omega, by omega⟩, by omega, ?_⟩
      refine vks_callp _ ?_ (fun _ => ⟨?_, fn81 hE (ss.getD (k - 1) default).name (ss.getD (k - 1) default).type (ss.getD k default).name (ss.getD k default).type⟩) ?_ <;> simp only [go_sem, Nat.reduceEqDiff, Nat.reduceBEq, binO]
      have hkb : (k == 0) = false := by simpa using hk0
      rw [hkb, Bool.false_or] at ho1
      refine ⟨fun h3 => hF ?_, fun h3 => hS ?_⟩
      · rw [ho1]; exact congrArg not h3
      · rw [ho1]; exact congrArg not h3
  · have hd : decide ((k : Int) < (ss.length : Int)) = false := by simpa using hlt
    have : k = ss.length := by omega
    simp only [hd, go_sem, Nat.reduceEqDiff, Nat.reduceBEq, Nat.reduceAdd, binO]
    rw [← this]; exact hP.symm
end Go.SL

/- Contract of zone.inForm. -/
namespace Go.SL
open Go
variable {E : Env} {H : Hp}
set_option maxHeartbeats 1000000 in
set_option maxRecDepth 100000 in
theorem fn84 (hE : Codes E) (apex : Bs) {v : Value} {gs : List SigD} (hg : SigsAt H v gs) : FnP E 84 [v, S apex] H (.bool (inFormB apex gs)) := by
  obtain ⟨a, cap, rfl, hs, hr⟩ := hg
  refine Fn.of_vks hE.c84 (by simp [c_zone_inForm]) ?_
  simp only [c_zone_inForm, c_zone_inForm_r0, c_zone_inForm_r1, c_zone_inForm_r2, c_zone_inForm_r3, c_zone_inForm_r4, c_zone_inForm_r5, c_zone_inForm_r6, c_zone_inForm_r7, c_zone_inForm_r8, c_zone_inForm_r9, c_zone_inForm_r10, c_zone_inForm_r11, c_zone_inForm_r12, c_zone_inForm_r13]
  simp only [go_sem, Nat.reduceEqDiff, Nat.reduceBEq, reduceCtorEq, binO]
  have hc : decide ((gs.length : Int) > 6) = !decide (gs.length ≤ 6) := by rw [Bool.eq_iff_iff]; simp; omega
  rw [hc]
  refine ⟨fun h => ?_, fun h => ?_⟩
  · simp only [inFormB]; rw [Bool.not_eq_true'] at h; rw [h]; rfl
  have hn : gs.length ≤ 6 := by simpa using h
  have ho : inFormB apex gs = allN (sigOk apex gs) gs.length := by simp only [inFormB, hn, decide_true, Bool.true_and]
  rw [ho]
  refine vks_loopN gs.length 0 (fun k => [(0, ⟨true, .val (.slice a gs.length cap)⟩), (1, ⟨true, .val (S apex)⟩), (10, ⟨true, .val (.slice a gs.length cap)⟩), (11, ⟨true, .val (.int .i64 gs.length)⟩), (12, ⟨true, .val (.int .i64 k)⟩)]) (fun k => allN (sigOk apex gs) k = true) (Nat.zero_le _) rfl rfl ?_
  intro k hk hP
  by_cases hlt : k < gs.length
  · have hd : decide ((k : Int) < (gs.length : Int)) = true := by simpa using hlt
    have hF : sigOk apex gs k = false → false = allN (sigOk apex gs) gs.length := fun h => (allN_false hlt h).symm
    have hS : sigOk apex gs k = true → k < gs.length ∧ IntKind.i64.wrap ((k : Int) + 1) = ((k + 1 : Nat) : Int) ∧ allN (sigOk apex gs) (k + 1) = true := fun h => ⟨hlt, wrapS (by omega), allN_succ hP h⟩
    have hr' := hr (by omega)
    obtain ⟨b, o, vs, c, wr, ha, hb, hi⟩ := hr'
    subst ha
    have hi1 := (hi k hlt).1
    have hi2 := (hi k hlt).2
    have hz := (hi 0 (by omega)).2
    have hz0 := (hi 0 (by omega)).1
    have hz1 := getD_of_take hz (j := 1) (by omega)
    have hz3 := getD_of_take hz (j := 3) (by omega)
    have hz4 := getD_of_take hz (j := 4) (by omega)
    simp only [Nat.zero_mul, Nat.add_zero] at hz0 hz1 hz3 hz4
    obtain ⟨gk, hgk⟩ : ∃ x, gs.getD k default = x := ⟨_, rfl⟩
    obtain ⟨g0, hg0⟩ : ∃ x, gs.getD 0 default = x := ⟨_, rfl⟩
    by_cases hk0 : k = 0
    · have e0 : decide ((k : Int) > 0) = false := by simp; omega
      have e0' : decide (0 < k) = false := by simp; omega
      have hok : sigOk apex gs k = (!((!(gk.zone == apex)) || decide (gk.key < 1) || decide (gk.key > 1000000) || decide (gk.alg < 1) || decide (gk.alg > 3)) && !(decide (gk.from_ < 0) || decide (gk.from_ > gk.till) || decide (gk.till > 20000000))) := by
        simp only [sigOk, hgk, e0', Bool.false_and, Bool.not_false, Bool.and_true]; rfl
      have e1 : (IntKind.i64.wrap ((k : Int) - 1)).toNat = 0 := by rw [wrapI (by omega)]; omega
      simp only [hd, e0, e1, hb, hi2, hz1, hz3, hz4, rSig, hgk, hg0, go_sem, Nat.reduceLeDiff, Nat.reduceEqDiff, Nat.reduceBEq, Nat.reduceAdd, reduceCtorEq, Int.reduceToNat, Int.reduceLE, binO]
      refine ⟨⟨by omega, by omega⟩, hi1, fun h1 => hF ?_, fun h1 => ⟨fun hx => ⟨hx, hx⟩, fun h2 => hF ?_, fun h2 => ?_⟩⟩
      · rw [hok, h1]; rfl
      · rw [hok, h2, Bool.not_true, Bool.and_false]
      · refine hS ?_
        rw [hok, h1, h2]; rfl
    · have e0 : decide ((k : Int) > 0) = true := by simp; omega
      have e0' : decide (0 < k) = true := by simp; omega
      obtain ⟨gp, hgp⟩ : ∃ x, gs.getD (k - 1) default = x := ⟨_, rfl⟩
      have hok : sigOk apex gs k = (!((!(gk.zone == apex)) || decide (gk.key < 1) || decide (gk.key > 1000000) || decide (gk.alg < 1) || decide (gk.alg > 3)) && !(decide (gk.from_ < 0) || decide (gk.from_ > gk.till) || decide (gk.till > 20000000)) &&
          !(gk.from_ != g0.from_ || gk.till != g0.till || decide (gk.key ≤ gp.key))) := by
        simp only [sigOk, hgk, hg0, hgp, e0', Bool.true_and]; rfl
      have e1 : IntKind.i64.wrap ((k : Int) - 1) = ((k - 1 : Nat) : Int) := by rw [wrapI] <;> omega
      have hj := (hi (k - 1) (by omega)).2
      have hj0 := (hi (k - 1) (by omega)).1
      have hj1 := getD_of_take hj (j := 1) (by omega)
      simp only [hd, e0, e1, hj1, hb, hi2, hz3, hz4, rSig, hgk, hg0, hgp, go_sem, Nat.reduceLeDiff, Nat.reduceEqDiff, Nat.reduceBEq, Nat.reduceAdd, reduceCtorEq, Int.reduceToNat, Int.reduceLE, binO]
      refine ⟨⟨by omega, by omega⟩, hi1, fun h1 => hF ?_, fun h1 => ⟨fun hx => ⟨hx, hx⟩, fun h2 => hF ?_, fun h2 => ?_⟩⟩
      · rw [hok, h1]; rfl
      · rw [hok, h2, Bool.not_true, Bool.and_false, Bool.false_and]
      · refine ⟨by omega, by omega, fun hx => ⟨hx, by omega⟩, fun hx => ⟨hx, by omega⟩, fun hx => ⟨hx, hx⟩, fun hx => ⟨hx, hx, by omega, by omega⟩, fun hx => ⟨hx, by omega⟩, fun hx => ⟨hx, hx⟩, fun h3 => hF ?_, fun h3 => hS ?_⟩
        · rw [hok, h3, Bool.not_true, Bool.and_false]
        · rw [hok, h1, h2, h3]; rfl
  · have hd : decide ((k : Int) < (gs.length : Int)) = false := by simpa using hlt
    have : k = gs.length := by omega
    simp only [hd, go_sem, Nat.reduceEqDiff, Nat.reduceBEq, Nat.reduceAdd, reduceCtorEq, binO]
    rw [← this]; exact hP.symm
end Go.SL

/- Contracts of package zone, second part. -/
namespace Go.SL
open Go
variable {E : Env} {H : Hp}

def apexOk (apex : Bs) (ss : List SignedD) (i : Nat) : Bool := fitsApexB (sAt ss i).type ((sAt ss i).name == apex)
set_option maxHeartbeats 1000000 in
theorem fn58 (hE : Codes E) (apex : Bs) {v : Value} {ss : List SignedD} (hss : SetsAt H v ss) (hn : ss.length ≤ 1099511627776) : FnP E 58 [.agg #[S apex, v]] H (.bool (apexHoldsB apex ss)) := by
  have hss0 := hss
  obtain ⟨d, g, ⟨a, cap, rfl, hs, hr⟩, hdeep⟩ := hss
  refine Fn.of_vks hE.c58 (by simp [c_zone_body_apexHolds]) ?_
  simp only [c_zone_body_apexHolds, c_zone_body_apexHolds_r0, c_zone_body_apexHolds_r1, c_zone_body_apexHolds_r2, c_zone_body_apexHolds_r3, c_zone_body_apexHolds_r4, c_zone_body_apexHolds_r5, c_zone_body_apexHolds_r6, c_zone_body_apexHolds_r7, c_zone_body_apexHolds_r8, c_zone_body_apexHolds_r9, c_zone_body_apexHolds_r10, c_zone_body_apexHolds_r11, c_zone_body_apexHolds_r12, c_zone_body_apexHolds_r13, c_zone_body_apexHolds_r14]
  simp only [go_sem, Nat.reduceLeDiff, Nat.reduceEqDiff, Nat.reduceBEq, Nat.reduceAdd, reduceCtorEq]
  intro b9 hb9
  have hle : H.le (H.put b9 (.row [.int .i64 4, .int .i64 2] 2 true)) := le_put hb9 _
  have hss1 := SetsAt.mono hss0 hle
  have hk9 : (H.put b9 (.row [.int .i64 4, .int .i64 2] 2 true)) b9 = some (.row [.int .i64 4, .int .i64 2] 2 true) := Hp.put_same ..
  have hdeep1 : ∀ i, i < ss.length → one1 (d i) = true ∧ one1 (g i) = true := fun i hi => ⟨SlAt.one (hdeep i hi).1, SlAt.one (hdeep i hi).2⟩
  have ho : apexHoldsB apex ss = (findB ss apex 4 && findB ss apex 2 && allN (apexOk apex ss) ss.length) := rfl
  refine vks_loopN 2 0 (fun k => [(1, ⟨true, .box [S apex, .slice a ss.length cap]⟩), (9, ⟨true, .val (.slice (some ⟨b9, 0, none⟩) 2 2)⟩), (10, ⟨true, .val (.int .i64 2)⟩), (11, ⟨true, .val (.int .i64 k)⟩)]) (fun k => (0 < k → findB ss apex 4 = true) ∧ (1 < k → findB ss apex 2 = true)) (Nat.zero_le _) rfl ⟨fun h => absurd h (by omega), fun h => absurd h (by omega)⟩ ?_
  intro k hk hP
  have hk' : k = 0 ∨ k = 1 ∨ k = 2 := by omega
  rcases hk' with rfl | rfl | rfl
  · have e0 : decide (((0 : Nat) : Int) < 2) = true := by decide
    have e2 : (((0 : Nat) : Int)).toNat = 0 := rfl
    have e3 : IntKind.i64.wrap (((0 : Nat) : Int) + 1) = ((0 + 1 : Nat) : Int) := wrapS (by omega)
    simp only [e0, e2, hk9, go_sem, Nat.reduceLeDiff, Nat.reduceEqDiff, Nat.reduceBEq, Nat.reduceAdd, binO]
    refine ⟨by omega, ?_⟩
    refine vks_callp _ ?_ (fun _ => ⟨?_, fn82 hE apex 4 apex hss1 hn⟩) ?_ <;> simp only [e3, go_sem, Nat.reduceLT, Nat.reduceEqDiff, Nat.reduceBEq, Nat.reduceAdd, binO]
    intro h
    refine ⟨?_, hle⟩
    rw [ho, h]; rfl
  · have e0 : decide (((1 : Nat) : Int) < 2) = true := by decide
    have e2 : (((1 : Nat) : Int)).toNat = 1 := rfl
    have e3 : IntKind.i64.wrap (((1 : Nat) : Int) + 1) = ((1 + 1 : Nat) : Int) := wrapS (by omega)
    simp only [e0, e2, hk9, go_sem, Nat.reduceLeDiff, Nat.reduceEqDiff, Nat.reduceBEq, Nat.reduceAdd, Nat.reduceMul, binO]
    refine ⟨by omega, ?_⟩
    refine vks_callp _ ?_ (fun _ => ⟨?_, fn82 hE apex 2 apex hss1 hn⟩) ?_ <;> simp only [e3, go_sem, Nat.reduceLT, Nat.reduceEqDiff, Nat.reduceBEq, Nat.reduceAdd, binO]
    refine ⟨fun h => ⟨?_, hle⟩, fun h => ?_⟩
    · rw [ho, h, Bool.and_false, Bool.false_and]
    · first | exact ⟨hP.1 (by omega), h⟩ | exact hP.1 (by omega)
  · have e0 : decide (((2 : Nat) : Int) < 2) = false := by decide
    simp only [e0, go_sem, Nat.reduceLeDiff, Nat.reduceEqDiff, Nat.reduceBEq, Nat.reduceAdd, Nat.reduceMul, binO]
    rw [ho, hP.1 (by omega), hP.2 (by omega), Bool.true_and, Bool.true_and]
    refine vks_loopN ss.length 0 (fun k => [(1, ⟨true, .box [S apex, .slice a ss.length cap]⟩), (30, ⟨true, .val (.slice a ss.length cap)⟩), (31, ⟨true, .val (.int .i64 ss.length)⟩), (32, ⟨true, .val (.int .i64 k)⟩)]) (fun k => allN (apexOk apex ss) k = true) (Nat.zero_le _) rfl rfl ?_
    intro k hk hP
    by_cases hlt : k < ss.length
    · have hd : decide ((k : Int) < (ss.length : Int)) = true := by simpa using hlt
      have hF : apexOk apex ss k = false → false = allN (apexOk apex ss) ss.length := fun h => (allN_false hlt h).symm
      have hS : apexOk apex ss k = true → k < ss.length ∧ IntKind.i64.wrap ((k : Int) + 1) = ((k + 1 : Nat) : Int) ∧ allN (apexOk apex ss) (k + 1) = true := fun h => ⟨hlt, wrapS (by omega), allN_succ hP h⟩
      have hr' := hr (by omega)
      obtain ⟨b, o, vs, c, wr, ha, hb, hi⟩ := hr'
      subst ha
      have hb1 := hle _ _ hb
      have hi1 := (hi k hlt).1
      have hi2 := (hi k hlt).2
      have hd1 := (hdeep1 k hlt).1
      have hg1 := (hdeep1 k hlt).2
      simp only [hd, hb1, hi2, rSigned, hd1, hg1, go_sem, Nat.reduceLeDiff, Nat.reduceEqDiff, Nat.reduceBEq, Nat.reduceAdd, binO]
      refine ⟨⟨by omega, by omega⟩, hi1, ?_⟩
      refine vks_callp _ ?_ (fun _ => ⟨?_, fn83 hE (ss.getD k default).type ((ss.getD k default).name == apex)⟩) ?_ <;> simp only [go_sem, Nat.reduceEqDiff, Nat.reduceBEq, binO]
      exact ⟨fun h => ⟨hF h, hle⟩, fun h => hS h⟩
    · have hd : decide ((k : Int) < (ss.length : Int)) = false := by simpa using hlt
      have : k = ss.length := by omega
      simp only [hd, go_sem, Nat.reduceEqDiff, Nat.reduceBEq, Nat.reduceAdd, binO]
      rw [← this]; exact ⟨hP.symm, hle⟩
/-- a zone's layout: sets, and the cut that each is behind -/
def BehAt (H : Hp) (v : Value) (n : Nat) (f : Nat → Bs) : Prop := SlAt H 1 v n (fun i => [S (f i)])
def aliasOk (ss : List SignedD) (i : Nat) : Bool := (sAt ss i).type != 3 || (!(decide (0 < i) && (sAt ss (i - 1)).name == (sAt ss i).name) && !(decide (i + 1 < ss.length) && (sAt ss (i + 1)).name == (sAt ss i).name && (sAt ss (i + 1)).type != 8))
end Go.SL

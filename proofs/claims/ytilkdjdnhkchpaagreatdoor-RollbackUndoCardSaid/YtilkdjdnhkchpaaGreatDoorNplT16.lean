/- Contracts: steps.isStop, stageOK, mentioned, tooMany. -/
import Derived.Test.YtilkdjdnhkchpaaGreatDoorNplO
import Derived.Test.YtilkdjdnhkchpaaGreatDoorNplT14
namespace Go.SL
open Go
variable {E : Env} {H : Hp}

theorem fn17 (hE : Codes E) {v : Value} (p : PlacedD) (hv : SetsAt H v p.sets) : FnP E 17 [.agg #[S p.apex, v]] H (.bool (isStopB p)) := by
  obtain ⟨d, g, ⟨a, cap, rfl, hs, hr⟩, hdeep⟩ := hv
  refine Fn.of_vks hE.c17 (by simp [c_steps_isStop]) ?_
  simp only [c_steps_isStop, c_steps_isStop_r0, c_steps_isStop_r1, c_steps_isStop_r2]
  simp only [go_sem, Nat.reduceLeDiff, Nat.reduceEqDiff, Nat.reduceBEq, Nat.reduceAdd, reduceCtorEq, binO]
  refine vks_callp _ ?_ (fun hg => ⟨?_, fn44 hE p.apex [42, 46]⟩) ?_ <;> simp only [go_sem, Nat.reduceLeDiff, Nat.reduceEqDiff, Nat.reduceBEq, Nat.reduceAdd, binO]
  · simp only [go_sem, Nat.reduceEqDiff] at hg ⊢; exact hg
  refine vks_callp _ ?_ (fun hg => ⟨?_, fn45 hE p.apex⟩) ?_ <;> simp only [go_sem, Nat.reduceEqDiff, Nat.reduceBEq]
  · simp only [go_sem, Nat.reduceEqDiff] at hg ⊢; exact hg
  have e : ((p.sets.length : Int) == 0) = (p.sets.length == 0) := by rw [Bool.eq_iff_iff, beq_iff_eq, beq_iff_eq]; omega
  rw [e]; rfl
set_option maxHeartbeats 1000000 in
set_option maxRecDepth 100000 in
theorem fn15 (hE : Codes E) (hB : Base E H) {vz : Value} {zs : List PlacedD} (nh : Int) (hz : PutsAt H vz zs) : FnP E 15 [.agg #[vz], .int .i64 nh] H (.bool (stageOKB zs nh)) := by
  obtain ⟨z, ⟨a, cap, rfl, hsp, hr⟩, hdeep⟩ := hz
  refine Fn.of_vks hE.c15 (by simp [c_steps_stageOK]) ?_
  simp only [c_steps_stageOK, c_steps_stageOK_r0, c_steps_stageOK_r1, c_steps_stageOK_r2, c_steps_stageOK_r3, c_steps_stageOK_r4, c_steps_stageOK_r5, c_steps_stageOK_r6, c_steps_stageOK_r7, c_steps_stageOK_r8, c_steps_stageOK_r9, c_steps_stageOK_r10, c_steps_stageOK_r11, c_steps_stageOK_r12]
  simp only [go_sem, Nat.reduceEqDiff, Nat.reduceBEq, reduceCtorEq, binO]
  have hc : decide ((zs.length : Int) > 500) = !decide (zs.length ≤ 500) := by rw [Bool.eq_iff_iff, Bool.not_eq_true', decide_eq_true_eq, decide_eq_false_iff_not]; omega
  rw [hc]
  refine ⟨fun h => ?_, fun h => ?_⟩
  · rw [Bool.not_eq_true'] at h; simp only [stageOKB, h, Bool.false_and]
  have hn : zs.length ≤ 500 := by simpa using h
  have ho : stageOKB zs nh = allN (putOk nh zs) zs.length := by simp only [stageOKB, hn, decide_true, Bool.true_and]
  rw [ho]
  intro b3 hb3
  refine vks_loopP zs.length 0 (fun k fr' H' => fr' = [(1, ⟨true, .val (.int .i64 nh)⟩), (5, ⟨true, .val (.map (some b3))⟩), (15, ⟨true, .val (.slice a zs.length cap)⟩), (16, ⟨true, .val (.int .i64 zs.length)⟩), (17, ⟨true, .val (.int .i64 k)⟩)] ∧
      allN (putOk nh zs) k = true ∧ ∃ o3, H' = H.put b3 o3 ∧ (∀ H0 : Hp, MapAt (H0.put b3 o3) b3 ((pairsN zs k).map fun e => (encP e.1, .bool e.2)))) (Nat.zero_le _) ⟨rfl, rfl, _, rfl, fun H0 => ⟨#[], 0, Hp.put_same .., rfl⟩⟩ ?_
  rintro k fr' H' hk ⟨rfl, hP, o3, rfl, hM3⟩
  have hle : H.le (H.put b3 o3) := le_put hb3 _
  by_cases hlt : k < zs.length
  · have hd : decide ((k : Int) < (zs.length : Int)) = true := by simpa using hlt
    have hF : putOk nh zs k = false → false = allN (putOk nh zs) zs.length := fun h => (allN_false hlt h).symm
    have hS : putOk nh zs k = true → allN (putOk nh zs) (k + 1) = true := fun h => allN_succ hP h
    have hr' := hr (by omega)
    obtain ⟨b, o, vs, c, wr, ha, hb, hi⟩ := hr'
    subst ha
    have hb1 := hle _ _ hb
    have hi1 := (hi k hlt).1
    have hi2 := (hi k hlt).2
    have hzk := (hdeep k hlt).mono hle
    have hz1 : one1 (z k) = true := by obtain ⟨d, g, h, _⟩ := hzk; exact SlAt.one h
    obtain ⟨x, hx⟩ : ∃ y, zs.getD k default = y := ⟨_, rfl⟩
    rw [hx] at hzk
    have hok : putOk nh zs k = !(decide (x.host < 0) || decide (x.host ≥ nh) || (mget x.key (pairsN zs k)).getD false || (!isStopB x && !zoneValid x.apex x.sets)) := by rw [← hx]; rfl
    simp only [hd, hb1, hi2, rPlaced, hx, hz1, go_sem, Nat.reduceLeDiff, Nat.reduceEqDiff, Nat.reduceBEq, Nat.reduceAdd, binO]
    refine ⟨⟨by omega, by omega⟩, hi1, fun h => ⟨h, h⟩, ?_⟩
    have hzv : FnP E 43 [.agg #[S x.apex, z k]] (H.put b3 o3) (.bool (zoneValid x.apex x.sets)) := fn43 hE (hB.mono hle) x.apex hzk
    have hst : FnP E 17 [.agg #[S x.apex, z k]] (H.put b3 o3) (.bool (isStopB x)) := fn17 hE x hzk
    obtain ⟨q, hq⟩ : ∃ q, (decide (x.host < 0) || decide (x.host ≥ nh)) = q := ⟨_, rfl⟩
    rw [hq] at hok ⊢
    cases q with
    | true =>
      refine vks_skipB (by intro x h; cases h) (by intro f a h; cases h) ?_ ?_ ?_
      · simp only [go_sem, Nat.reduceEqDiff]
      · simp only [go_sem, Nat.reduceEqDiff]
      simp only [go_sem, Nat.reduceEqDiff, Nat.reduceBEq, Nat.reduceAdd, ↓simT_pick_t]
      refine vks_callp (.bool (isStopB x)) ?_ (fun hg => absurd hg ?_) ?_ <;> simp only [go_sem, Nat.reduceEqDiff, Nat.reduceBEq, Nat.reduceAdd]
      · simp
      refine vks_callp (.bool (zoneValid x.apex x.sets)) ?_ (fun hg => absurd hg ?_) ?_ <;> simp only [go_sem, Nat.reduceEqDiff, Nat.reduceBEq, Nat.reduceAdd, ↓simT_pick_t]
      · simp
      · exact ⟨hF hok, hle⟩
    | false =>
      rw [Bool.false_or] at hok
      refine vks_useB (by intro x h; cases h) (by intro f a h; cases h) ?_ ?_ ?_
      · simp only [go_sem, Nat.reduceEqDiff]
      · simp only [go_sem, Nat.reduceEqDiff]
      refine vks_look (enc := encP) (encv := fun b => .bool b) (l := pairsN zs k) (b := b3) x.key keyP (keyIsP _) ?_ ?_ ?_ ?_ (hM3 H) ?_
      · simp only [go_sem, Nat.reduceEqDiff]
      · simp only [go_sem, Nat.reduceEqDiff]
      · simp only [go_sem, Nat.reduceEqDiff]
      · simp only [go_sem, Nat.reduceEqDiff]; rfl
      have hv : ((mget x.key (pairsN zs k)).map (fun b => Value.bool b)).getD (.bool false) = .bool ((mget x.key (pairsN zs k)).getD false) := by
        cases mget x.key (pairsN zs k) <;> rfl
      rw [hv]
      simp only [go_sem, Nat.reduceEqDiff, Nat.reduceBEq, Nat.reduceAdd]
      refine vks_callp _ ?_ (fun hg => ⟨?_, hst⟩) ?_ <;> simp only [go_sem, Nat.reduceEqDiff, Nat.reduceBEq, Nat.reduceAdd]
      · simp only [go_sem, Nat.reduceEqDiff] at hg ⊢; exact hg
      refine vks_callp _ ?_ (fun hg => ⟨?_, hzv⟩) ?_ <;> simp only [go_sem, Nat.reduceEqDiff, Nat.reduceBEq, Nat.reduceAdd]
      · simp only [go_sem, Nat.reduceEqDiff] at hg ⊢; exact hg
      refine ⟨fun h1 => ⟨h1, fun h2 => by rw [h1, h2]; rfl⟩, fun h1 => ⟨hF ?_, hle⟩, fun h1 => ?_⟩
      · rw [hok, h1]; rfl
      rw [h1] at hok
      refine vks_upd (enc := encP) (encv := fun b => .bool b) (l := pairsN zs k) (b := b3) x.key true keyP (keyIsP _) ?_ ?_ ?_ ?_ ?_ ?_ (hM3 H) ?_
      · simp only [go_sem, Nat.reduceEqDiff]
      · simp only [go_sem, Nat.reduceEqDiff]
      · simp only [go_sem]
      · simp only [go_sem, Nat.reduceEqDiff]
      · simp only [go_sem, Nat.reduceEqDiff]; rfl
      · simp only [go_sem]
      intro o3' hM3'
      simp only [go_sem, Nat.reduceEqDiff, Nat.reduceBEq, binO]
      refine ⟨hlt, wrapS (by omega), hS hok, o3', rfl, fun H0 => ?_⟩
      have := hM3' H0; rw [← hx] at this; exact this
  · have hd : decide ((k : Int) < (zs.length : Int)) = false := by simpa using hlt
    have : k = zs.length := by omega
    subst this
    simp only [hd, go_sem, Nat.reduceLeDiff, Nat.reduceEqDiff, Nat.reduceBEq, Nat.reduceAdd, binO]
    exact ⟨hP.symm, hle⟩
set_option maxHeartbeats 1000000 in
theorem fn16 (hE : Codes E) {vz : Value} {zs : List PlacedD} (hz : PutsAt H vz zs) (hn : zs.length ≤ 1099511627775) : Fn E.P (E.fn 16) [.agg #[vz]] H (fun u H' => ∃ b o, H b = none ∧ u = .map (some b) ∧ H' = H.put b o ∧ ∀ H0 : Hp, MapAt (H0.put b o) b ((pairsN zs zs.length).map fun e => (encP e.1, .bool e.2))) := by
  obtain ⟨z, ⟨a, cap, rfl, hsp, hr⟩, hdeep⟩ := hz
  refine Fn.of_vks hE.c16 (by simp [c_steps_mentioned]) ?_
  simp only [c_steps_mentioned, c_steps_mentioned_r0, c_steps_mentioned_r1, c_steps_mentioned_r2, c_steps_mentioned_r3, c_steps_mentioned_r4, c_steps_mentioned_r5, c_steps_mentioned_r6, c_steps_mentioned_r7]
  simp only [go_sem, Nat.reduceEqDiff, Nat.reduceBEq, reduceCtorEq]
  intro b3 hb3
  refine vks_loopP zs.length 0 (fun k fr' H' => fr' = [(3, ⟨true, .val (.map (some b3))⟩), (8, ⟨true, .val (.slice a zs.length cap)⟩), (9, ⟨true, .val (.int .i64 zs.length)⟩), (10, ⟨true, .val (.int .i64 k)⟩)] ∧
      ∃ o3, H' = H.put b3 o3 ∧ (∀ H0 : Hp, MapAt (H0.put b3 o3) b3 ((pairsN zs k).map fun e => (encP e.1, .bool e.2)))) (Nat.zero_le _) ⟨rfl, _, rfl, fun H0 => ⟨#[], 0, Hp.put_same .., rfl⟩⟩ ?_
  rintro k fr' H' hk ⟨rfl, o3, rfl, hM3⟩
  have hle : H.le (H.put b3 o3) := le_put hb3 _
  by_cases hlt : k < zs.length
  · have hd : decide ((k : Int) < (zs.length : Int)) = true := by simpa using hlt
    have hr' := hr (by omega)
    obtain ⟨b, o, vs, c, wr, ha, hb, hi⟩ := hr'
    subst ha
    have hb1 := hle _ _ hb
    have hi1 := (hi k hlt).1
    have hi2 := (hi k hlt).2
    have hz1 : one1 (z k) = true := by obtain ⟨d, g, h, _⟩ := hdeep k hlt; exact SlAt.one h
    obtain ⟨x, hx⟩ : ∃ y, zs.getD k default = y := ⟨_, rfl⟩
    simp only [hd, hb1, hi2, rPlaced, hx, hz1, go_sem, Nat.reduceLeDiff, Nat.reduceEqDiff, Nat.reduceBEq, Nat.reduceAdd, binO]
    refine ⟨⟨by omega, by omega⟩, hi1, ?_⟩
    refine vks_upd (enc := encP) (encv := fun b => .bool b) (l := pairsN zs k) (b := b3) x.key true keyP (keyIsP _) ?_ ?_ ?_ ?_ ?_ ?_ (hM3 H) ?_
    · simp only [go_sem, Nat.reduceEqDiff]
    · simp only [go_sem, Nat.reduceEqDiff]
    · simp only [go_sem]
    · simp only [go_sem, Nat.reduceEqDiff]
    · simp only [go_sem, Nat.reduceEqDiff]; rfl
    · simp only [go_sem]
    intro o3' hM3'
    simp only [go_sem, Nat.reduceEqDiff, Nat.reduceBEq, binO]
    refine ⟨hlt, wrapS (by omega), o3', rfl, fun H0 => ?_⟩
    have := hM3' H0; rw [← hx] at this; exact this
  · have hd : decide ((k : Int) < (zs.length : Int)) = false := by simpa using hlt
    have : k = zs.length := by omega
    subst this
    simp only [hd, go_sem, Nat.reduceLeDiff, Nat.reduceEqDiff, Nat.reduceBEq, Nat.reduceAdd, binO]
    exact ⟨b3, o3, hb3, rfl, rfl, hM3⟩
theorem fn18 (hE : Codes E) (h : Int) (a : Bs) (z : Value) (_hz : one1 z = true) : FnP E 18 [.agg #[.int .i64 h, S a, z]] H (S a) := by
  refine Fn.of_vks hE.c18 (by simp [c_steps_World_1]) ?_
  simp only [c_steps_World_1, c_steps_World_1_r0, c_steps_World_1_r1]
  simp only [go_sem, Nat.reduceLeDiff, Nat.reduceEqDiff, Nat.reduceBEq, Nat.reduceAdd, reduceCtorEq]
set_option maxHeartbeats 1000000 in
theorem fn19 (hE : Codes E) {vz : Value} {zs : List PlacedD} (hz : PutsAt H vz zs) (hn : zs.length ≤ 1099511627775) : FnP E 19 [vz, .int .i64 4000, .int .i64 500, .func (.func (E.fn 18)) #[] #[]] H (.bool (tooManyB zs)) := by
  obtain ⟨z, ⟨a, cap, rfl, hsp, hr⟩, hdeep⟩ := hz
  refine Fn.of_vks hE.c19 (by simp [c_steps_tooMany_api_Placed]) ?_
  simp only [c_steps_tooMany_api_Placed, c_steps_tooMany_api_Placed_r0, c_steps_tooMany_api_Placed_r1, c_steps_tooMany_api_Placed_r2, c_steps_tooMany_api_Placed_r3, c_steps_tooMany_api_Placed_r4, c_steps_tooMany_api_Placed_r5, c_steps_tooMany_api_Placed_r6, c_steps_tooMany_api_Placed_r7]
  simp only [go_sem, Nat.reduceEqDiff, Nat.reduceBEq, Nat.reduceAdd, reduceCtorEq]
  intro b3 hb3
  refine vks_loopP zs.length 0 (fun k fr' H' => fr' = [(0, ⟨true, .val (.slice a zs.length cap)⟩), (1, ⟨true, .val (.int .i64 4000)⟩), (2, ⟨true, .val (.int .i64 500)⟩), (3, ⟨true, .val (.func (.func (E.fn 18)) #[] #[])⟩), (9, ⟨true, .val (.map (some b3))⟩), (13, ⟨true, .val (.slice a zs.length cap)⟩), (14, ⟨true, .val (.int .i64 zs.length)⟩), (15, ⟨true, .val (.int .i64 k)⟩)] ∧
      ∃ o3, H' = H.put b3 o3 ∧ (∀ H0 : Hp, MapAt (H0.put b3 o3) b3 ((apexesN zs k).map fun e => (S e.1, .bool e.2)))) (Nat.zero_le _) ⟨rfl, _, rfl, fun H0 => ⟨#[], 0, Hp.put_same .., rfl⟩⟩ ?_
  rintro k fr' H' hk ⟨rfl, o3, rfl, hM3⟩
  have hle : H.le (H.put b3 o3) := le_put hb3 _
  by_cases hlt : k < zs.length
  · have hd : decide ((k : Int) < (zs.length : Int)) = true := by simpa using hlt
    have hr' := hr (by omega)
    obtain ⟨b, o, vs, c, wr, ha, hb, hi⟩ := hr'
    subst ha
    have hb1 := hle _ _ hb
    have hi1 := (hi k hlt).1
    have hi2 := (hi k hlt).2
    have hz1 : one1 (z k) = true := by obtain ⟨d, g, h, _⟩ := hdeep k hlt; exact SlAt.one h
    obtain ⟨x, hx⟩ : ∃ y, zs.getD k default = y := ⟨_, rfl⟩
    simp only [hd, hb1, hi2, rPlaced, hx, hz1, go_sem, Nat.reduceEqDiff, Nat.reduceBEq, Nat.reduceAdd, reduceCtorEq, binO]
    refine ⟨⟨by omega, by omega⟩, hi1, ?_⟩
    refine vks_callv ?_ ?_ (FnV_of_Fn hE.e18 (Fn.same (fn18 hE x.host x.apex (z k) hz1))) ?_
    · simp only [go_sem, Nat.reduceEqDiff, reduceCtorEq]
    · simp only [go_sem, Nat.reduceEqDiff, reduceCtorEq]
    rintro v H'' ⟨rfl, rfl⟩
    refine vks_upd (enc := fun x => S x) (encv := fun b => .bool b) (l := apexesN zs k) (b := b3) x.apex true keyS trivial ?_ ?_ ?_ ?_ ?_ ?_ (hM3 H) ?_
    · simp only [go_sem, Nat.reduceEqDiff, Nat.reduceBEq, reduceCtorEq]
    · simp only [go_sem, Nat.reduceEqDiff, Nat.reduceBEq, reduceCtorEq]
    · simp only [go_sem]
    · simp only [go_sem, Nat.reduceEqDiff, Nat.reduceBEq, reduceCtorEq]
    · simp only [go_sem, Nat.reduceEqDiff, Nat.reduceBEq, reduceCtorEq]
    · simp only [go_sem]
    intro o3' hM3'
    simp only [go_sem, Nat.reduceEqDiff, Nat.reduceBEq, reduceCtorEq, binO]
    refine ⟨hlt, wrapS (by omega), o3', rfl, fun H0 => ?_⟩
    have := hM3' H0; rw [← hx] at this; exact this
  · have hd : decide ((k : Int) < (zs.length : Int)) = false := by simpa using hlt
    have : k = zs.length := by omega
    subst this
    have c1 : decide ((zs.length : Int) > 4000) = decide (zs.length > 4000) := by rw [Bool.eq_iff_iff, decide_eq_true_eq, decide_eq_true_eq]; omega
    simp only [hd, c1, go_sem, Nat.reduceEqDiff, Nat.reduceBEq, Nat.reduceAdd, reduceCtorEq, binO]
    by_cases hq : zs.length > 4000
    · have hq' : decide (zs.length > 4000) = true := by simpa using hq
      rw [hq']
      refine vks_skipB (by intro x h; cases h) (by intro f a h; cases h) ?_ ?_ ?_
      · simp only [go_sem, Nat.reduceEqDiff, reduceCtorEq]
      · simp only [go_sem, Nat.reduceEqDiff, reduceCtorEq]
      simp only [go_sem, Nat.reduceEqDiff, Nat.reduceBEq, reduceCtorEq, binO, ↓simT_pick_t]
      refine ⟨?_, hle⟩
      simp only [tooManyB, hq', Bool.true_or]
    · have hq' : decide (zs.length > 4000) = false := by simpa using hq
      rw [hq']
      refine vks_useB (by intro x h; cases h) (by intro f a h; cases h) ?_ ?_ ?_
      · simp only [go_sem, Nat.reduceEqDiff, reduceCtorEq]
      · simp only [go_sem, Nat.reduceEqDiff, reduceCtorEq]
      refine vks_mlenM ?_ ?_ (hM3 _) ?_
      · simp only [go_sem, Nat.reduceEqDiff, reduceCtorEq]
      · simp only [go_sem, Nat.reduceEqDiff, reduceCtorEq]
      simp only [go_sem, Nat.reduceEqDiff, Nat.reduceBEq, reduceCtorEq, binO]
      refine ⟨?_, hle⟩
      simp only [tooManyB, hq', Bool.false_or, List.length_map]
      rw [Bool.eq_iff_iff, decide_eq_true_eq, decide_eq_true_eq]; omega
end Go.SL

/- Contracts: what is few. -/
import Derived.Test.YtilkdjdnhkchpaaGreatDoorNplO
import Derived.Test.YtilkdjdnhkchpaaGreatDoorNplT20
namespace Go.SL
open Go
variable {E : Env} {H : Hp}

def setFew (ss : List SignedD) (i : Nat) : Bool := !(decide ((ss.getD i default).data.length > 20) || decide ((ss.getD i default).sigs.length > 20))
def few6 (ss : List SignedD) : Bool := allN (setFew ss) (min ss.length 101) && decide (ss.length ≤ 100)
def few16 (w : WorldD) : Bool := allN (fun i => few6 (w.zones.getD i default).sets && !decide ((w.zones.getD i default).apex.length > 100)) (min w.zones.length 21) && allN (fun i => !decide ((w.hosts.getD i default).name.length > 100)) (min w.hosts.length 71) &&
  (decide (w.zones.length ≤ 20) && decide (w.hosts.length ≤ 70) && decide (w.hints.length ≤ 20) && decide (w.adata.length ≤ 20))
def fewS (ps : List PlacedD) : Bool := allN (fun i => few6 (ps.getD i default).sets) (min ps.length 20) && decide (ps.length ≤ 20)
theorem dgt (n k : Nat) : decide ((n : Int) > (k : Int)) = decide (n > k) := by rw [Bool.eq_iff_iff, decide_eq_true_eq, decide_eq_true_eq]; omega
theorem dle (n k : Nat) : decide ((n : Int) ≤ (k : Int)) = decide (n ≤ k) := by rw [Bool.eq_iff_iff, decide_eq_true_eq, decide_eq_true_eq]; omega
theorem fn11 (hE : Codes E) (apex : Bs) {v : Value} {ss : List SignedD} (hss : SetsAt H v ss) : FnP E 11 [.agg #[S apex, v]] H (.bool (few6 ss)) := by
  obtain ⟨d, g, ⟨a, cap, rfl, hs, hr⟩, hdeep⟩ := hss
  refine Fn.of_vks hE.c11 (by simp [c_ref06_Few]) ?_
  simp only [c_ref06_Few, c_ref06_Few_r0, c_ref06_Few_r1, c_ref06_Few_r2, c_ref06_Few_r4, c_ref06_Few_r5, c_ref06_Few_r3, c_ref06_Few_r6]
  simp only [go_sem, Nat.reduceEqDiff, Nat.reduceBEq, reduceCtorEq]
  refine vks_loopN (min ss.length 101) 0 (fun k => [(1, ⟨true, .box [S apex, .slice a ss.length cap]⟩), (3, ⟨true, .val (.int .i64 k)⟩)]) (fun k => allN (setFew ss) k = true) (Nat.zero_le _) rfl rfl ?_
  intro k hk hP
  by_cases hlt : k < min ss.length 101
  · have hd : (decide ((k : Int) < (ss.length : Int)) && decide ((k : Int) ≤ 100)) = true := by rw [Bool.and_eq_true, decide_eq_true_eq, decide_eq_true_eq]; omega
    have hd' : decide ((k : Int) < (ss.length : Int)) = true := by rw [decide_eq_true_eq]; omega
    have hd'' : decide ((k : Int) ≤ 100) = true := by rw [decide_eq_true_eq]; omega
    have hlt' : k < ss.length := by omega
    have hF : setFew ss k = false → false = few6 ss := fun h => by rw [few6, allN_false hlt h]; rfl
    have hr' := hr (by omega)
    obtain ⟨b, o, vs, c, wr, ha, hb, hi⟩ := hr'
    subst ha
    have hi1 := (hi k hlt').1
    have hx3 := getD_of_take (hi k hlt').2 (j := 3) (by omega)
    have hx4 := getD_of_take (hi k hlt').2 (j := 4) (by omega)
    have hdk := (hdeep k hlt').1
    have hgk := (hdeep k hlt').2
    obtain ⟨ad, cd, hde, _⟩ := hdk
    obtain ⟨ag, cg, hge, _⟩ := hgk
    have hsf : setFew ss k = !(decide (((ss.getD k default).data.length : Int) > 20) || decide (((ss.getD k default).sigs.length : Int) > 20)) := by
      have e1 := dgt (ss.getD k default).data.length 20
      have e2 := dgt (ss.getD k default).sigs.length 20
      unfold setFew; rw [← e1, ← e2]; rfl
    simp only [hd', hd'', hb, hx3, hx4, rSigned, hde, hge, go_sem, Nat.reduceEqDiff, Nat.reduceBEq, Nat.reduceAdd, binO]
    refine ⟨⟨by omega, by omega⟩, by omega, fun h => ⟨h, h, by omega, by omega⟩, fun h => ⟨h, by omega⟩, fun h => hF ?_, fun h => ⟨hlt, wrapS (by omega), allN_succ hP ?_⟩⟩
    · rw [hsf, h]; rfl
    · rw [hsf, h]; rfl
  · have hd : (decide ((k : Int) < (ss.length : Int)) && decide ((k : Int) ≤ 100)) = false := by
      rw [Bool.and_eq_false_iff, decide_eq_false_iff_not, decide_eq_false_iff_not]; omega
    have hk' : k = min ss.length 101 := by omega
    simp only [hd, go_sem, Nat.reduceEqDiff, Nat.reduceBEq, Nat.reduceAdd, binO]
    have e1 := dle ss.length 100
    rw [few6, ← hk', hP, Bool.true_and, ← e1]; rfl
theorem fn2 (hE : Codes E) {v : Value} {ps : List PlacedD} (hp : PutsAt H v ps) : FnP E 2 [.agg #[v]] H (.bool (fewS ps)) := by
  obtain ⟨z, ⟨a, cap, rfl, hs, hr⟩, hdeep⟩ := hp
  refine Fn.of_vks hE.c2 (by simp [c_ref35_FewStage]) ?_
  simp only [c_ref35_FewStage, c_ref35_FewStage_r0, c_ref35_FewStage_r1, c_ref35_FewStage_r2, c_ref35_FewStage_r4, c_ref35_FewStage_r5, c_ref35_FewStage_r3, c_ref35_FewStage_r6]
  simp only [go_sem, Nat.reduceEqDiff, Nat.reduceBEq, reduceCtorEq]
  refine vks_loopN (min ps.length 20) 0 (fun k => [(1, ⟨true, .box [.slice a ps.length cap]⟩), (3, ⟨true, .val (.int .i64 k)⟩)]) (fun k => allN (fun i => few6 (ps.getD i default).sets) k = true) (Nat.zero_le _) rfl rfl ?_
  intro k hk hP
  by_cases hlt : k < min ps.length 20
  · have hd' : decide ((k : Int) < (ps.length : Int)) = true := by rw [decide_eq_true_eq]; omega
    have hd'' : decide ((k : Int) < 20) = true := by rw [decide_eq_true_eq]; omega
    have hlt' : k < ps.length := by omega
    have hF : few6 (ps.getD k default).sets = false → false = fewS ps := fun h => by rw [fewS, allN_false hlt h]; rfl
    have hr' := hr (by omega)
    obtain ⟨b, o, vs, c, wr, ha, hb, hi⟩ := hr'
    subst ha
    have hi1 := (hi k hlt').1
    have hx := take_of_take (hi k hlt').2 1 2 (by omega)
    simp only [hd', hd'', hb, hx, rPlaced, go_sem, Nat.reduceEqDiff, Nat.reduceBEq, binO]
    refine ⟨⟨by omega, by omega⟩, by omega, ?_⟩
    refine vks_callp _ ?_ (fun _ => ⟨?_, fn11 hE (ps.getD k default).apex (hdeep k hlt')⟩) ?_ <;> simp only [go_sem, Nat.reduceEqDiff, Nat.reduceBEq, binO]
    exact ⟨fun h => hF h, fun h => ⟨hlt, wrapS (by omega), allN_succ hP h⟩⟩
  · have hd : (decide ((k : Int) < (ps.length : Int)) && decide ((k : Int) < 20)) = false := by
      rw [Bool.and_eq_false_iff, decide_eq_false_iff_not, decide_eq_false_iff_not]; omega
    have hk' : k = min ps.length 20 := by omega
    simp only [hd, go_sem, Nat.reduceEqDiff, Nat.reduceBEq, binO]
    have e1 := dle ps.length 20
    rw [fewS, ← hk', hP, Bool.true_and, ← e1]; rfl
set_option maxHeartbeats 1000000 in
theorem fn1 (hE : Codes E) {v : Value} {w : WorldD} (hw : WorldAt H v w) : FnP E 1 [v] H (.bool (few16 w)) := by
  obtain ⟨vh, vz, vd, vi, rfl, h1, h2, h3, h4⟩ := hw
  obtain ⟨ah, ch, rfl, _, hrh⟩ := h1
  obtain ⟨z, ⟨a, cap, rfl, hs, hr⟩, hdeep⟩ := h2
  obtain ⟨ad, cd, rfl, _⟩ := h3
  obtain ⟨ai, ci, rfl, _⟩ := h4
  refine Fn.of_vks hE.c1 (by simp [c_ref16_Few]) ?_
  simp only [c_ref16_Few, c_ref16_Few_r0, c_ref16_Few_r1, c_ref16_Few_r2, c_ref16_Few_r4, c_ref16_Few_r5, c_ref16_Few_r6, c_ref16_Few_r3, c_ref16_Few_r7, c_ref16_Few_r8, c_ref16_Few_r10, c_ref16_Few_r11, c_ref16_Few_r9, c_ref16_Few_r12]
  simp only [go_sem, Nat.reduceEqDiff, Nat.reduceBEq, reduceCtorEq]
  obtain ⟨F1, hF1⟩ : ∃ F, F = fun i => few6 (w.zones.getD i default).sets && !decide ((w.zones.getD i default).apex.length > 100) := ⟨_, rfl⟩
  obtain ⟨F2, hF2⟩ : ∃ F, F = fun i => !decide ((w.hosts.getD i default).name.length > 100) := ⟨_, rfl⟩
  have hfw : few16 w = (allN F1 (min w.zones.length 21) && allN F2 (min w.hosts.length 71) && (decide (w.zones.length ≤ 20) && decide (w.hosts.length ≤ 70) && decide (w.hints.length ≤ 20) && decide (w.adata.length ≤ 20))) := by rw [hF1, hF2]; rfl
  refine vks_loopN (min w.zones.length 21) 0 (fun k => [(1, ⟨true, .box [.slice ah w.hosts.length ch, .slice a w.zones.length cap, S w.aname, .int .i64 w.atype, .int .i64 w.alife, .slice ad w.adata.length cd, .slice ai w.hints.length ci]⟩), (3, ⟨true, .val (.int .i64 k)⟩)]) (fun k => allN F1 k = true) (Nat.zero_le _) rfl rfl ?_
  intro k hk hP
  by_cases hlt : k < min w.zones.length 21
  · have hd' : decide ((k : Int) < (w.zones.length : Int)) = true := by rw [decide_eq_true_eq]; omega
    have hd'' : decide ((k : Int) ≤ 20) = true := by rw [decide_eq_true_eq]; omega
    have hlt' : k < w.zones.length := by omega
    have hF : F1 k = false → false = few16 w := fun h => by rw [hfw, allN_false hlt h]; rfl
    have hr' := hr (by omega)
    obtain ⟨b, o, vs, c, wr, ha, hb, hi⟩ := hr'
    subst ha
    have hi1 := (hi k hlt').1
    have hx := take_of_take (hi k hlt').2 1 2 (by omega)
    have hx1 := getD_of_take (hi k hlt').2 (j := 1) (by omega)
    simp only [hd', hd'', hb, hx, rPlaced, go_sem, Nat.reduceLeDiff, Nat.reduceEqDiff, Nat.reduceBEq, Nat.reduceAdd, binO]
    refine ⟨⟨by omega, by omega⟩, by omega, ?_⟩
    refine vks_callp _ ?_ (fun _ => ⟨?_, fn11 hE (w.zones.getD k default).apex (hdeep k hlt')⟩) ?_ <;> simp only [hb, hx1, rPlaced, go_sem, Nat.reduceLeDiff, Nat.reduceEqDiff, Nat.reduceBEq, Nat.reduceAdd, binO]
    have hFk : F1 k = !(!few6 (w.zones.getD k default).sets || decide (((w.zones.getD k default).apex.length : Int) > 100)) := by
      have e1 := dgt (w.zones.getD k default).apex.length 100
      rw [hF1, Bool.not_or, Bool.not_not]
      show (few6 _ && !decide _) = _
      rw [← e1]; rfl
    refine ⟨fun h => ⟨h, h, by omega, by omega⟩, fun h => ⟨h, by omega⟩, fun h => hF ?_, fun h => ⟨hlt, wrapS (by omega), allN_succ hP ?_⟩⟩
    · rw [hFk, h]; rfl
    · rw [hFk, h]; rfl
  · have hd : (decide ((k : Int) < (w.zones.length : Int)) && decide ((k : Int) ≤ 20)) = false := by
      rw [Bool.and_eq_false_iff, decide_eq_false_iff_not, decide_eq_false_iff_not]; omega
    have hk' : k = min w.zones.length 21 := by omega
    rw [← hk', hP, Bool.true_and] at hfw
    simp only [hd, go_sem, Nat.reduceLeDiff, Nat.reduceEqDiff, Nat.reduceBEq, Nat.reduceAdd, binO]
    refine vks_loopN (min w.hosts.length 71) 0 (fun k => [(1, ⟨true, .box [.slice ah w.hosts.length ch, .slice a w.zones.length cap, S w.aname, .int .i64 w.atype, .int .i64 w.alife, .slice ad w.adata.length cd, .slice ai w.hints.length ci]⟩), (5, ⟨true, .val (.int .i64 k)⟩)]) (fun k => allN F2 k = true) (Nat.zero_le _) rfl rfl ?_
    intro k hk hP2
    by_cases hlt : k < min w.hosts.length 71
    · have hd' : decide ((k : Int) < (w.hosts.length : Int)) = true := by rw [decide_eq_true_eq]; omega
      have hd'' : decide ((k : Int) ≤ 70) = true := by rw [decide_eq_true_eq]; omega
      have hlt' : k < w.hosts.length := by omega
      have hF : F2 k = false → false = few16 w := fun h => by rw [hfw, allN_false hlt h]; rfl
      have hr' := hrh (by omega)
      obtain ⟨b, o, vs, c, wr, ha, hb, hi⟩ := hr'
      subst ha
      have hi1 := (hi k hlt').1
      have hx := getD_of_take (hi k hlt').2 (j := 0) (by omega)
      simp only [Nat.add_zero] at hx
      have hFk : F2 k = !decide (((w.hosts.getD k default).name.length : Int) > 100) := by
        have e1 := dgt (w.hosts.getD k default).name.length 100
        rw [hF2]
        show (!decide _) = _
        rw [← e1]; rfl
      simp only [hd', hd'', hb, hx, rHost, go_sem, Nat.reduceLeDiff, Nat.reduceEqDiff, Nat.reduceBEq, Nat.reduceAdd, binO]
      refine ⟨⟨by omega, by omega⟩, by omega, fun h => hF ?_, fun h => ⟨hlt, wrapS (by omega), allN_succ hP2 ?_⟩⟩
      · rw [hFk, h]; rfl
      · rw [hFk, h]; rfl
    · have hd : (decide ((k : Int) < (w.hosts.length : Int)) && decide ((k : Int) ≤ 70)) = false := by
        rw [Bool.and_eq_false_iff, decide_eq_false_iff_not, decide_eq_false_iff_not]; omega
      have hk2 : k = min w.hosts.length 71 := by omega
      rw [← hk2, hP2, Bool.true_and] at hfw
      simp only [hd, go_sem, Nat.reduceLeDiff, Nat.reduceEqDiff, Nat.reduceBEq, Nat.reduceAdd, binO]
      have e1 := dle w.zones.length 20
      have e2 := dle w.hosts.length 70
      have e3 := dle w.hints.length 20
      have e4 := dle w.adata.length 20
      rw [hfw, ← e1, ← e2, ← e3, ← e4]; rfl
/-- what is few is small -/
theorem few6_small {ss : List SignedD} (h : few6 ss = true) : SmallS ss := by
  simp only [few6, Bool.and_eq_true, decide_eq_true_eq, allN_iff] at h
  refine ⟨by omega, fun i hi => ?_⟩
  have := h.1 i (by omega)
  simp only [setFew, Bool.not_eq_true', Bool.or_eq_false_iff, decide_eq_false_iff_not] at this
  omega
theorem few16_small {w : WorldD} (h : few16 w = true) : SmallW w := by
  simp only [few16, Bool.and_eq_true, decide_eq_true_eq, allN_iff] at h
  refine ⟨⟨by omega, fun i hi => ?_⟩, by omega, by omega, by omega⟩
  have := h.1.1 i (by omega)
  exact few6_small this.1
theorem fewS_small {ps : List PlacedD} (h : fewS ps = true) : SmallP ps := by
  simp only [fewS, Bool.and_eq_true, decide_eq_true_eq, allN_iff] at h
  refine ⟨by omega, fun i hi => ?_⟩
  exact few6_small (h.1 i (by omega))
end Go.SL

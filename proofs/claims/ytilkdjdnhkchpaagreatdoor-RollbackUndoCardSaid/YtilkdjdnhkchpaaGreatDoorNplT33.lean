/- Contract: a history of one copy is valid. -/
import Derived.Test.YtilkdjdnhkchpaaGreatDoorNplO
import Derived.Test.YtilkdjdnhkchpaaGreatDoorNplT29
namespace Go.SL
open Go
variable {E : Env} {H : Hp}

theorem SlAt.sl {sz n : Nat} {v : Value} {row : Nat → List Value} (h : SlAt H sz v n row) : ∃ a c, v = .slice a n c := by obtain ⟨a, c, h, _⟩ := h; exact ⟨a, c, h⟩
set_option maxHeartbeats 400000 in
set_option maxRecDepth 100000 in
theorem fn48 (hE : Codes E) (h2 : Codes2 E) (hB : Base E H) {v : Value} {h : HistD} {c : CopyD} (hh : HistAt H v h) (hc : h.copies = [c])
    (he : 1 ≤ h.end_ ∧ h.end_ ≤ 10000000) (hd : 0 ≤ h.drift ∧ h.drift ≤ 1000) (hw : worldValid ⟨h.hosts, [], h.aname, h.atype, h.alife, h.adata, h.hints⟩ = true)
    (hh0 : 0 ≤ c.host ∧ c.host < (h.hosts.length : Int)) (hf : 0 ≤ c.from_ ∧ c.from_ < c.till ∧ c.till ≤ h.end_) (hz : zoneValid c.apex c.sets = true) : FnP E 48 [v] H (.bool true) := by
  obtain ⟨vh, vc, vd, vi, rfl, g1, g2, g3, g4⟩ := hh
  have hh1 := SlAt.one g1
  have hd1 := SlAt.one g3
  have hi1 := SlAt.one g4
  rw [hc] at g2
  have hc1 := CopiesAt.one g2
  have g2' := g2
  obtain ⟨z, ⟨a, cap, rfl, hsp, hr⟩, hdeep⟩ := g2'
  have hr' := hr (by simp)
  obtain ⟨b, o, vs, cc, wr, ha, hb, hi⟩ := hr'
  subst ha
  have k1 := (hi 0 (by simp)).1
  have k2 := (hi 0 (by simp)).2
  rw [Nat.zero_mul, Nat.add_zero] at k1 k2
  have hz0 := hdeep 0 (by simp)
  have hz1 : one1 (z 0) = true := by obtain ⟨d, g, h, _⟩ := hz0; exact SlAt.one h
  have hvh := HostsAt.sl g1
  obtain ⟨ah, ch, rfl⟩ := hvh
  have hvd := SlAt.sl g3
  obtain ⟨ad, cd, rfl⟩ := hvd
  have hvi := SlAt.sl g4
  obtain ⟨ai, ci, rfl⟩ := hvi
  have d1 : decide (h.end_ < 1) = false := by rw [decide_eq_false_iff_not]; omega
  have d2 : decide (h.end_ > 10000000) = false := by rw [decide_eq_false_iff_not]; omega
  have d3 : decide (h.drift < 0) = false := by rw [decide_eq_false_iff_not]; omega
  have d4 : decide (h.drift > 1000) = false := by rw [decide_eq_false_iff_not]; omega
  have d5 : decide ((1 : Int) > 4000) = false := by decide
  have d6 : decide (c.host < 0) = false := by rw [decide_eq_false_iff_not]; omega
  have d7 : decide (c.host ≥ (h.hosts.length : Int)) = false := by rw [decide_eq_false_iff_not]; omega
  have d8 : decide (c.from_ < 0) = false := by rw [decide_eq_false_iff_not]; omega
  have d9 : decide (c.from_ ≥ c.till) = false := by rw [decide_eq_false_iff_not]; omega
  have d10 : decide (c.till > h.end_) = false := by rw [decide_eq_false_iff_not]; omega
  have hWA : WorldAt H (.agg #[.slice ah h.hosts.length ch, .slice none 0 0, S h.aname, .int .i64 h.atype, .int .i64 h.alife, .slice ad h.adata.length cd, .slice ai h.hints.length ci]) ⟨h.hosts, [], h.aname, h.atype, h.alife, h.adata, h.hints⟩ := ⟨_, _, _, _, rfl, g1, PutsAt.nil0, g3, g4⟩
  have hfw := fn14 hE hB hWA
  rw [hw] at hfw
  refine Fn.of_vks h2.c48 (by simp [c_history_Valid]) ?_
  simp only [c_history_Valid, c_history_Valid_r0, c_history_Valid_r1, c_history_Valid_r2, c_history_Valid_r3, c_history_Valid_r4, c_history_Valid_r5, c_history_Valid_r6, c_history_Valid_r7, c_history_Valid_r8, c_history_Valid_r9, c_history_Valid_r10, c_history_Valid_r11, c_history_Valid_r12, c_history_Valid_r13, c_history_Valid_r14, c_history_Valid_r15, c_history_Valid_r16, c_history_Valid_r17, c_history_Valid_r18, c_history_Valid_r19, c_history_Valid_r20, c_history_Valid_r21, c_history_Valid_r23, c_history_Valid_r24, c_history_Valid_r22, c_history_Valid_r25]
  simp only [c1N, d1, d2, d3, d4, ↓d5, go_sem, Nat.reduceLeDiff, Nat.reduceEqDiff, Nat.reduceBEq, Nat.reduceAdd, reduceCtorEq, binO]
  refine vks_callp (.bool true) ?_ (fun _ => ⟨?_, hfw⟩) ?_ <;> simp only [c1N, go_sem, Nat.reduceLeDiff, Nat.reduceEqDiff, Nat.reduceBEq, Nat.reduceAdd]
  intro b3 hb3
  refine vks_loopP 1 0 (fun k fr' H' => fr' = [(1, ⟨true, .box [.slice ah h.hosts.length ch, .slice (some ⟨b, o, none⟩) 1 cap, S h.aname, .int .i64 h.atype, .int .i64 h.alife, .slice ad h.adata.length cd, .slice ai h.hints.length ci, .int .i64 h.drift, .int .i64 h.end_]⟩), (3, ⟨true, .val (.map (some b3))⟩), (45, ⟨true, .val (.slice (some ⟨b, o, none⟩) 1 cap)⟩), (46, ⟨true, .val (.int .i64 1)⟩), (47, ⟨true, .val (.int .i64 k)⟩)] ∧
      (k = 0 → H' = H.put b3 (.obj (.map #[] 0))) ∧
      (k = 1 → ∃ by_ cp, H.le H' ∧ H' b3 = some (.obj (.map #[{ key := .agg #[.int .i64 c.host, S c.apex], val := .slice (some ⟨by_, 0, none⟩) 1 cp, born := 0 }] 1)) ∧ by_ ≠ b3 ∧ H' by_ = some (.row [.int .i64 c.from_, .int .i64 c.till] (cp * 2) true))) (Nat.zero_le _) ⟨rfl, fun _ => rfl, fun h => by cases h⟩ ?_
  rintro k fr' H' hk ⟨rfl, hk0, hk1⟩
  cases k with
  | zero =>
    have hH := hk0 rfl
    subst hH
    have hle : H.le (H.put b3 (.obj (.map #[] 0))) := le_put hb3 _
    have hb1 := hle _ _ hb
    have q6 : decide ((0 : Int) < 1) = true := by decide
    have hx : ([c] : List CopyD).getD 0 default = c := rfl
    have hfz := fn43 hE (hB.mono hle) c.apex (hz0.mono hle)
    rw [hx, hz] at hfz
    simp only [c0N, ↓q6, hb1, k2, rCopy, hx, hz1, d6, d7, d8, d9, d10, go_sem, Nat.reduceLeDiff, Nat.reduceEqDiff, Nat.reduceBEq, Nat.reduceAdd, Int.reduceToNat, Int.reduceLE, binO]
    refine ⟨by decide, k1, ?_⟩
    refine vks_callp (.bool true) ?_ (fun _ => ⟨?_, hfz⟩) ?_ <;> simp only [go_sem, Nat.reduceLeDiff, Nat.reduceEqDiff, Nat.reduceBEq, Nat.reduceAdd]
    intro bx hbx
    have hbx3 : bx ≠ b3 := by rintro rfl; rw [Hp.put_same] at hbx; cases hbx
    have hHbx : H bx = none := by rw [Hp.put_ne _ _ hbx3] at hbx; exact hbx
    obtain ⟨G0, hG0⟩ : ∃ x, x = (H.put b3 (.obj (.map #[] 0))).put bx (.row [.int .i64 c.from_, .int .i64 c.till] 2 true) := ⟨_, rfl⟩
    have hG3 : G0 b3 = some (.obj (.map #[] 0)) := by rw [hG0, Hp.put_ne _ _ (Ne.symm hbx3), Hp.put_same]
    have hGx : G0 bx = some (.row [.int .i64 c.from_, .int .i64 c.till] 2 true) := by rw [hG0, Hp.put_same]
    have hGle : H.le G0 := by rw [hG0]; exact hle.trans (le_put hbx _)
    rw [← hG0]
    refine vks_big (by intro x h; cases h) (by intro f a h; cases h) ?_
    refine ⟨?_, ?_, ?_, b3, #[], 0, ?_, hG3, .inr ⟨?_, ?_⟩⟩
    · simp only [go_sem, Nat.reduceEqDiff]
    · simp only [go_sem, Nat.reduceEqDiff]
    · simp only [go_sem, Nat.reduceEqDiff, Nat.reduceAdd, keyIs]
    · simp only [go_sem, Nat.reduceEqDiff]
    · simp only [go_sem, mfind]
    simp only [go_sem, Nat.reduceLT, Nat.reduceEqDiff, Nat.reduceBEq, Nat.reduceAdd]
    obtain ⟨G1, hG1⟩ : ∃ x, x = G0.put b3 (.obj (.map #[{ key := .agg #[.int .i64 c.host, S c.apex], val := .slice none 0 0, born := 0 }] 1)) := ⟨_, rfl⟩
    have hG1' : G0.put b3 (AObj.obj (Obj.map ((#[] : Array MapEntry).push { key := Value.agg #[Value.int IntKind.i64 c.host, S c.apex], val := Value.slice none 0 0, born := 0 }) 1)) = G1 := by rw [hG1]; rfl
    have hG1x : G1 bx = some (.row [.int .i64 c.from_, .int .i64 c.till] 2 true) := by rw [hG1, Hp.put_ne _ _ hbx3]; exact hGx
    have hG13 : G1 b3 = some (.obj (.map #[{ key := .agg #[.int .i64 c.host, S c.apex], val := .slice none 0 0, born := 0 }] 1)) := by rw [hG1, Hp.put_same]
    have hG1le : H.le G1 := by rw [hG1]; exact le_put_of_le hGle hb3 _
    have hsO : srcOk G1 2 (.slice (some ⟨bx, 0, none⟩) 1 1) := .inr ⟨rfl, by rw [hG1x]; simp⟩
    have hsC : srcCells G1 2 (.slice (some ⟨bx, 0, none⟩) 1 1) = [.int .i64 c.from_, .int .i64 c.till] := by simp [srcCells, hG1x]
    rw [hG1']
    refine vks_app0 ?_ ?_ hsO (by show (srcCells G1 2 (.slice (some ⟨bx, 0, none⟩) 1 1)).all one1 = true; rw [hsC]; rfl) ?_ (by show 1 * 16 ≤ _; omega) (by show 1 ≤ _; omega) (fun h => by cases h) ?_
    · simp only [go_sem, Nat.reduceEqDiff]
    · simp only [go_sem, Nat.reduceEqDiff]
    · simp only [go_sem, Nat.reduceEqDiff]
    intro _ by_ cp hby
    have e1 : srcCells G1 2 (.slice (some ⟨bx, 0, none⟩) 1 1) = [.int .i64 c.from_, .int .i64 c.till] := hsC
    simp only [srcLen, e1, go_sem, Nat.reduceLT, Nat.reduceEqDiff, Nat.reduceBEq, Nat.reduceAdd]
    have hby3 : by_ ≠ b3 := by rintro rfl; rw [hG13] at hby; cases hby
    obtain ⟨G2, hG2⟩ : ∃ x, x = G1.put by_ (.row [.int .i64 c.from_, .int .i64 c.till] (cp * 2) true) := ⟨_, rfl⟩
    have hG23 : G2 b3 = some (.obj (.map #[{ key := .agg #[.int .i64 c.host, S c.apex], val := .slice none 0 0, born := 0 }] 1)) := by rw [hG2, Hp.put_ne _ _ (Ne.symm hby3)]; exact hG13
    have hG2y : G2 by_ = some (.row [.int .i64 c.from_, .int .i64 c.till] (cp * 2) true) := by rw [hG2, Hp.put_same]
    have hG2le : H.le G2 := by rw [hG2]; exact hG1le.trans (le_put hby _)
    rw [← hG2]
    refine vks_big (by intro x h; cases h) (by intro f a h; cases h) ?_
    refine ⟨?_, ?_, ?_, b3, .i64, 0, _, 1, 0, ?_, ?_, hG23, ?_, ?_⟩
    · simp only [go_sem, Nat.reduceEqDiff]
    · simp only [go_sem, Nat.reduceEqDiff]
    · simp only [go_sem, Nat.reduceEqDiff]
    · simp only [go_sem, Nat.reduceEqDiff]
    · simp only [go_sem, Nat.reduceEqDiff]; rfl
    · first | (simp; done) | simp [Array.findIdx?, Array.findIdx?.loop]
    simp only [go_sem, Nat.reduceLT, Nat.reduceEqDiff, Nat.reduceBEq, Int.reduceAdd, binO]
    refine ⟨by decide, by_, cp, le_put_of_le hG2le hb3 _, ?_, hby3, by rw [Hp.put_ne _ _ hby3]; exact hG2y⟩
    rw [Hp.put_same]
    first | rfl | simp
  | succ k =>
    have hk' : k = 0 := by omega
    subst hk'
    obtain ⟨by_, cp, hle, h3, hy3, hy⟩ := hk1 rfl
    have q7 : decide (((0 + 1 : Nat) : Int) < 1) = false := by decide
    simp only [↓q7, go_sem, Nat.reduceEqDiff, Nat.reduceBEq, Nat.reduceAdd, Nat.reduceMul, binO]
    refine vks_big (by intro x h; cases h) (by intro f a h; cases h) ?_
    refine ⟨?_, b3, _, 1, ?_, h3, ?_⟩
    · simp only [go_sem, Nat.reduceEqDiff]
    · simp only [go_sem, Nat.reduceEqDiff]
    intro b9 hb9
    simp only [go_sem, Nat.reduceEqDiff, Nat.reduceBEq]
    obtain ⟨m, hm⟩ : ∃ x : Array MapEntry, x = #[{ key := .agg #[.int .i64 c.host, S c.apex], val := .slice (some ⟨by_, 0, none⟩) 1 cp, born := 0 }] := ⟨_, rfl⟩
    have hmem : ∀ e ∈ m, e = { key := .agg #[.int .i64 c.host, S c.apex], val := .slice (some ⟨by_, 0, none⟩) 1 cp, born := 0 } := by rw [hm]; intro e he; simpa using he
    have hin : ({ key := .agg #[.int .i64 c.host, S c.apex], val := .slice (some ⟨by_, 0, none⟩) 1 cp, born := 0 } : MapEntry) ∈ m := by rw [hm]; simp
    have hfind : m.find? (·.born == 0) = some { key := .agg #[.int .i64 c.host, S c.apex], val := .slice (some ⟨by_, 0, none⟩) 1 cp, born := 0 } := by rw [hm]; simp
    rw [← hm] at h3
    have h93 : b9 ≠ b3 := by rintro rfl; rw [h3] at hb9; cases hb9
    have hHb9 : H b9 = none := by
      cases hq : H b9 with
      | none => rfl
      | some o => rw [hle _ _ hq] at hb9; cases hb9
    refine vks_loopP 1 0 (fun k fr' G => fr' = [(1, ⟨true, .box [.slice ah h.hosts.length ch, .slice (some ⟨b, o, none⟩) 1 cap, S h.aname, .int .i64 h.atype, .int .i64 h.alife, .slice ad h.adata.length cd, .slice ai h.hints.length ci, .int .i64 h.drift, .int .i64 h.end_]⟩), (105, ⟨true, .val (.pointer (some ⟨b9, 0, none⟩))⟩)] ∧ H.le G ∧ G b3 = some (.obj (.map m 1)) ∧ G b9 = some (.obj (.mapIter (some b3) 1 (if k = 0 then #[] else #[0]) 1))) (Nat.zero_le _) ⟨rfl, hle.trans (le_put hb9 _), by rw [Hp.put_ne _ _ (Ne.symm h93)]; exact h3, Hp.put_same ..⟩ ?_
    rintro k fr' G hk2 ⟨rfl, hl, m3, m9⟩
    cases k with
    | zero =>
      simp only [go_sem] at m9 ⊢
      refine vks_big (by intro x h; cases h) (by intro f a h; cases h) ?_
      refine ⟨?_, b9, b3, 1, #[], 1, _, 1, ?_, m9, m3, Nat.le_refl _, ?_, ?_, ?_⟩
      · simp only [go_sem, Nat.reduceEqDiff]
      · simp only [go_sem, Nat.reduceEqDiff]
      · intro e he; rw [hmem e he]; simp
      · intro hall; have := hall _ hin; simp at this
      intro e he _
      have he' := hmem e he
      subst he'
      obtain ⟨G1, hG1⟩ : ∃ x, x = G.put b9 (.obj (.mapIter (some b3) 1 ((#[] : Array Nat).push 0) 1)) := ⟨_, rfl⟩
      have hG13 : G1 b3 = some (.obj (.map m 1)) := by rw [hG1, Hp.put_ne _ _ (Ne.symm h93)]; exact m3
      have hG19 : G1 b9 = some (.obj (.mapIter (some b3) 1 #[0] 1)) := by rw [hG1, Hp.put_same]; rfl
      have hG1le : H.le G1 := by rw [hG1]; exact le_put_of_le hl hHb9 _
      rw [← hG1]
      simp only [go_sem, Nat.reduceLT, Nat.reduceLeDiff, Nat.reduceEqDiff, Nat.reduceBEq, Nat.reduceAdd]
      refine vks_big (by intro x h; cases h) (by intro f a h; cases h) ?_
      refine ⟨?_, b9, b3, 1, #[0], _, 1, 0, _, ?_, hG19, hG13, rfl, hfind, ?_⟩
      · simp only [go_sem, Nat.reduceEqDiff]
      · simp only [go_sem, Nat.reduceEqDiff]
      simp only [go_sem, Nat.reduceLT, Nat.reduceEqDiff, Nat.reduceBEq, Nat.reduceAdd]
      refine vks_call ?_ (fn87 hE h2 (some ⟨by_, 0, none⟩) cp (.func (.func (E.fn 121)) #[] #[])) ?_
      · simp only [go_sem, Nat.reduceEqDiff]
      rintro u G2 rfl
      simp only [go_sem, Nat.reduceEqDiff, Nat.reduceBEq]
      refine vks_loopN 0 0 (fun _ => [(1, ⟨true, .box [.slice ah h.hosts.length ch, .slice (some ⟨b, o, none⟩) 1 cap, S h.aname, .int .i64 h.atype, .int .i64 h.alife, .slice ad h.adata.length cd, .slice ai h.hints.length ci, .int .i64 h.drift, .int .i64 h.end_]⟩), (8, ⟨true, .val (.slice (some ⟨by_, 0, none⟩) 1 cp)⟩), (9, ⟨true, .val (.int .i64 1)⟩), (105, ⟨true, .val (.pointer (some ⟨b9, 0, none⟩))⟩)]) (fun _ => True) (Nat.le_refl _) rfl trivial ?_
      intro k hk3 _
      have q8 : decide ((1 : Int) < ((1 : Nat) : Int)) = false := by decide
      simp only [↓q8, go_sem, Nat.reduceLT, Nat.reduceLeDiff, Nat.reduceEqDiff, Nat.reduceBEq, Nat.reduceAdd, Nat.reduceMul, Int.reduceToNat, Int.reduceLE, binO]
      exact ⟨hG1le, hG13, hG19⟩
    | succ k =>
      have hk' : k = 0 := by omega
      subst hk'
      simp only [go_sem] at m9 ⊢
      refine vks_big (by intro x h; cases h) (by intro f a h; cases h) ?_
      refine ⟨?_, b9, b3, 1, #[0], 1, _, 1, ?_, m9, m3, Nat.le_refl _, ?_, ?_, ?_⟩
      · simp only [go_sem, Nat.reduceEqDiff]
      · simp only [go_sem, Nat.reduceEqDiff]
      · intro e he; rw [hmem e he]; simp
      · intro _
        simp only [go_sem, Nat.reduceLT, Nat.reduceLeDiff, Nat.reduceEqDiff, Nat.reduceBEq, Nat.reduceAdd]
        refine vks_call ?_ (fn119 h2 (g2.mono hl) (by simp)) ?_
        · simp only [go_sem, Nat.reduceEqDiff]
        rintro u G3 ⟨hle3, hu⟩
        have hus := SlAt.sl hu
        obtain ⟨au, cu, rfl⟩ := hus
        have hlen : (apexesC [c] ([c] : List CopyD).length).length = 1 := rfl
        simp only [go_sem, Nat.reduceEqDiff, Nat.reduceBEq, binO]
        have e : (apexesC [c] 1).length = 1 := rfl
        rw [e]
        exact ⟨by decide, hl.trans hle3⟩
      · intro e he hs
        rw [hmem e he] at hs
        simp at hs
end Go.SL

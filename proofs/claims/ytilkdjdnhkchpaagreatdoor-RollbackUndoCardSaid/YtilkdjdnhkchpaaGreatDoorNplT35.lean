/- Contract: Back, where nothing is to be taken back. -/
import Derived.Test.YtilkdjdnhkchpaaGreatDoorNplO
import Derived.Test.YtilkdjdnhkchpaaGreatDoorNplT34
namespace Go.SL
open Go
variable {E : Env} {H : Hp}

set_option maxHeartbeats 400000 in
set_option maxRecDepth 100000 in
theorem fn10ok (hE : Codes E) (h2 : Codes2 E) {v vl : Value} {bl : Nat} {vp : Value} (hv : W9 v) (hend : ∃ c0 c1 c2 c3 c4 c5 c6 c7, v = .agg #[c0, c1, c2, c3, c4, c5, c6, c7, .int .i64 100]) (hl : vl = .slice (some ⟨bl, 0, none⟩) 1 1) (hbl : H bl = some (.row [.int .i64 10, vp] 2 true))
    (h28 : ∀ H', H.le H' → FnP E 28 [v, vl] H' (.bool true))
    (h72 : ∀ H', H.le H' → Fn E.P (E.fn 72) [v, .slice (some ⟨bl, 0, none⟩) 0 1] H' (fun u H'' => ∃ vw, u = .tuple #[vw, .int .i64 0] ∧ H'.le H'' ∧ W9 vw)) :
    Fn E.P (E.fn 10) [v, vl, .int .i64 0, .int .i64 5, .int .i64 50, .slice none 0 0] H (fun u H' => u = .tuple #[.slice none 0 0, .int .i64 0] ∧ H.le H') := by
  obtain ⟨c0, c1, c2, c3, c4, c5, c6, c7, rfl⟩ := hend
  subst hl
  have s1 : decide ((0 : Int) < 0) = false := by decide
  have s2 : decide ((0 : Int) > 1) = false := by decide
  have s3 : decide ((5 : Int) < 0) = false := by decide
  have s4 : decide ((0 : Int) > 0) = false := by decide
  have s5 : decide ((50 : Int) < 5) = false := by decide
  have s6 : decide ((50 : Int) ≥ 100) = false := by decide
  have s7 : decide ((0 : Int) > 50) = false := by decide
  refine Fn.of_vks hE.c10 (by simp [c_rollback_Back]) ?_
  simp only [c_rollback_Back, c_rollback_Back_r0, c_rollback_Back_r1, c_rollback_Back_r2, c_rollback_Back_r3, c_rollback_Back_r4, c_rollback_Back_r5, c_rollback_Back_r6, c_rollback_Back_r7, c_rollback_Back_r8]
  simp only [go_sem, Nat.reduceEqDiff, Nat.reduceBEq, Nat.reduceAdd, reduceCtorEq]
  intro b6 hb6
  obtain ⟨H1, hH1⟩ : ∃ x, x = H.put b6 (.row [c0, c1, c2, c3, c4, c5, c6, c7, .int .i64 100] 9 true) := ⟨_, rfl⟩
  have hle : H.le H1 := by rw [hH1]; exact le_put hb6 _
  have hb6' : H1 b6 = some (.row [c0, c1, c2, c3, c4, c5, c6, c7, .int .i64 100] 9 true) := by rw [hH1]; exact Hp.put_same ..
  have hbl' := hle _ _ hbl
  have wm : IntKind.i64.wrap (-1) = -1 := by decide
  rw [← hH1]
  simp only [hb6', go_sem, Nat.reduceAdd]
  refine vks_callp (.bool true) ?_ (fun _ => ⟨?_, h28 _ hle⟩) ?_ <;> simp only [c0N, c1N, ↓s1, ↓s2, ↓s3, ↓s5, ↓s6, s7, hb6', hbl', wm, go_sem, Nat.reduceLeDiff, Nat.reduceEqDiff, Nat.reduceBEq, Nat.reduceAdd, Int.reduceToNat, Int.reduceLE, Int.reduceLT, Int.reduceSub, binO, decT]
  refine vks_callp (.bool false) ?_ (fun _ => ⟨?_, fn30 hE _⟩) ?_ <;> simp only [go_sem, Nat.reduceLeDiff, Nat.reduceEqDiff, Nat.reduceBEq, Nat.reduceAdd, Hp.put_same]
  intro b7 hb7 b15 hb15
  have h157 : b15 ≠ b7 := by rintro rfl; rw [Hp.put_same] at hb15; cases hb15
  have hH1b15 : H1 b15 = none := by rw [Hp.put_ne _ _ h157] at hb15; exact hb15
  obtain ⟨H2, hH2⟩ : ∃ x, x = (H1.put b7 (.row (backRow now0 5 50) 14 true)).put b15 (.row [.pointer (some ⟨b7, 0, none⟩)] 1 true) := ⟨_, rfl⟩
  have hH2' : (H1.put b7 (AObj.row [Value.slice none 0 0, Value.slice none 0 0, Value.slice none 0 0, Value.string ⟨#[]⟩, Value.int .i64 0, Value.int .i64 0, Value.slice none 0 0, Value.slice none 0 0, Value.int .i64 0, Value.int .i64 0, Value.int .i64 5, Value.int .i64 50, Value.slice none 0 0, Value.int .i64 0] 14 true)).put b15 (.row [.pointer (some ⟨b7, 0, none⟩)] 1 true) = H2 := by rw [hH2]; rfl
  rw [hH2']
  have k15 : H2 b15 = some (.row [.pointer (some ⟨b7, 0, none⟩)] 1 true) := by rw [hH2, Hp.put_same]
  have k7 : H2 b7 = some (.row (backRow now0 5 50) 14 true) := by rw [hH2, Hp.put_ne _ _ (Ne.symm h157), Hp.put_same]
  have kle : H1.le H2 := by rw [hH2]; exact (le_put hb7 _).trans (le_put hb15 _)
  have k6 := kle _ _ hb6'
  simp only [c_rollback_Back_r9, k15, k6, Option.map_some, go_sem, Nat.reduceEqDiff, Nat.reduceBEq, Nat.reduceAdd, Int.reduceToNat, Int.reduceLE]
  have kle0 : H.le H2 := hle.trans kle
  refine ⟨⟨fun b h => by rw [← h], by decide⟩, ?_⟩
  refine vks_dcall ?_ (fn31 h2 k7 hv (h72 H2 kle0)) ?_
  · simp only [go_sem, Nat.reduceEqDiff]
  rintro u H3 ⟨hle3, ds, rfl, hd9, hdall⟩
  obtain ⟨d0, d1, d2, d3, d4, d5, d6, d7, d8, rfl⟩ : ∃ c0 c1 c2 c3 c4 c5 c6 c7 c8, ds = [c0, c1, c2, c3, c4, c5, c6, c7, c8] := by
    match ds, hd9 with
    | [c0, c1, c2, c3, c4, c5, c6, c7, c8], _ => exact ⟨_, _, _, _, _, _, _, _, _, rfl⟩
  simp only [List.all_cons, List.all_nil, Bool.and_eq_true] at hdall
  obtain ⟨m0, m1, m2, m3, m4, m5, m6, m7, m8, _⟩ := hdall
  have j15 := hle3 _ _ k15
  have j7 := hle3 _ _ k7
  simp only [backRow, now0, List.cons_append, List.nil_append] at j7
  simp only [j15, j7, m0, m1, m2, m3, m4, m5, m6, m7, m8, vks_dst, go_sem, Nat.reduceLeDiff, Nat.reduceEqDiff, Nat.reduceBEq, Nat.reduceAdd, Int.reduceToNat, Int.reduceLE]
  obtain ⟨H4, hH4⟩ : ∃ x, x = H3.put b7 (.row [.slice none 0 0, d0, d1, d2, d3, d4, d5, d6, d7, d8, .int .i64 5, .int .i64 50, .slice none 0 0, .int .i64 0] 14 true) := ⟨_, rfl⟩
  have n15 : H4 b15 = some (.row [.pointer (some ⟨b7, 0, none⟩)] 1 true) := by rw [hH4, Hp.put_ne _ _ h157]; exact j15
  have n7 : H4 b7 = some (.row [.slice none 0 0, d0, d1, d2, d3, d4, d5, d6, d7, d8, .int .i64 5, .int .i64 50, .slice none 0 0, .int .i64 0] 14 true) := by rw [hH4, Hp.put_same]
  have hHb7 : H b7 = none := by
    cases hq : H b7 with
    | none => rfl
    | some o => rw [hle _ _ hq] at hb7; cases hb7
  have nle : H.le H4 := by rw [hH4]; exact le_put_of_le (kle0.trans hle3) hHb7 _
  rw [← hH4]
  simp only [c_rollback_Back_r10, Option.map_some, go_sem, Nat.reduceEqDiff, Nat.reduceBEq, Int.reduceToNat, Int.reduceLE]
  refine ⟨⟨fun b h => by rw [← h], by decide⟩, ?_⟩
  refine vks_call ?_ (fn32 h2 (some ⟨bl, 0, none⟩) 0 1) ?_
  · simp only [go_sem, Nat.reduceEqDiff]
  rintro u H5 ⟨bf, hbf, rfl, rfl⟩
  simp only [go_sem, Nat.reduceEqDiff, Nat.reduceBEq]
  refine vks_rangeF0 ?_ ?_ (iter108 (a := some ⟨bl, 0, none⟩) (cap := 1) h2 (Hp.put_same ..)) ?_
  · simp only [go_sem, Nat.reduceEqDiff]
  · simp only [go_sem, Nat.reduceEqDiff, isFn]
  have p15 := le_put hbf (.row [.slice (some ⟨bl, 0, none⟩) 0 1] 1 true) _ _ n15
  have p7 := le_put hbf (.row [.slice (some ⟨bl, 0, none⟩) 0 1] 1 true) _ _ n7
  simp only [c_rollback_Back_r14, c_rollback_Back_r16, p15, p7, bne_self_eq_false, go_sem, Nat.reduceLeDiff, Nat.reduceEqDiff, Nat.reduceBEq, Nat.reduceAdd, binO]
  exact nle.trans (le_put hbf _)
end Go.SL

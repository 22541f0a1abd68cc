/- Contracts of package record, and of the search. -/
import Derived.Test.YtilkdjdnhkchpaaGreatDoorNplO
import Derived.Test.YtilkdjdnhkchpaaGreatDoorNplT2
namespace Go.SL
open Go
variable {E : Env} {H : Hp}

theorem fn81 (hE : Codes E) (a : Bs) (s : Int) (b : Bs) (t : Int) : FnP E 81 [S a, .int .i64 s, S b, .int .i64 t] H (.int .i64 (cmpPl a s b t)) := by
  refine Fn.of_vks hE.c81 (by simp [c_zone_comparePlaces]) ?_
  simp only [c_zone_comparePlaces, c_zone_comparePlaces_r0, c_zone_comparePlaces_r1, c_zone_comparePlaces_r2, c_zone_comparePlaces_r3, c_zone_comparePlaces_r4]
  simp only [go_sem, Nat.reduceEqDiff, Nat.reduceBEq, Nat.reduceAdd, reduceCtorEq, binO]
  refine ⟨fun h => ?_, fun h => ?_⟩
  · refine vks_callp _ ?_ (fun _ => ⟨?_, fn95 hE a b⟩) ?_ <;> simp only [go_sem, Nat.reduceLT, Nat.reduceEqDiff, Nat.reduceBEq, Nat.reduceAdd, reduceCtorEq]
    simp at h; simp [cmpPl, h]
  · refine vks_callp _ ?_ (fun _ => ⟨?_, fn89 hE s t⟩) ?_ <;> simp only [go_sem, Nat.reduceEqDiff, Nat.reduceBEq, reduceCtorEq]
    simp at h; simp [cmpPl, h]
theorem fn96 (hE : Codes E) (a : Bs) (s l : Int) (d g : Value) (b : Bs) (t : Int) : FnP E 96 [.agg #[S a, .int .i64 s, .int .i64 l, d, g], .agg #[S b, .int .i64 t]] H (.int .i64 (cmpPl a s b t)) := by
  refine Fn.of_vks hE.c96 (by simp [c_zone_body_find_1]) ?_
  simp only [c_zone_body_find_1, c_zone_body_find_1_r0, c_zone_body_find_1_r1]
  simp only [go_sem, Nat.reduceLeDiff, Nat.reduceEqDiff, Nat.reduceBEq, Nat.reduceAdd, reduceCtorEq]
  refine vks_callp _ ?_ (fun _ => ⟨?_, fn81 hE a s b t⟩) ?_ <;> simp only [go_sem, Nat.reduceEqDiff, Nat.reduceBEq]
def orI : List Int → Int
  | [] => 0
  | x :: r => if x ≠ 0 then x else orI r
theorem fn93 (hE : Codes E) {v : Value} {ns : List Int} (h : IntsAt H v ns) (hn : ns.length ≤ 1099511627776) : FnP E 93 [v] H (.int .i64 (orI ns)) := by
  obtain ⟨a, cap, rfl, hs, hr⟩ := h
  refine Fn.of_vks hE.c93 (by simp [c_cmp_Or_int]) ?_
  simp only [c_cmp_Or_int, c_cmp_Or_int_r0, c_cmp_Or_int_r1, c_cmp_Or_int_r2, c_cmp_Or_int_r3, c_cmp_Or_int_r4, c_cmp_Or_int_r5, c_cmp_Or_int_r6, c_cmp_Or_int_r7, c_cmp_Or_int_r8]
  simp only [go_sem, Nat.reduceEqDiff, Nat.reduceBEq, reduceCtorEq]
  refine vks_loopN ns.length 0 (fun k => [(3, ⟨true, .val (.int .i64 0)⟩), (6, ⟨true, .val (.slice a ns.length cap)⟩), (7, ⟨true, .val (.int .i64 ns.length)⟩), (8, ⟨true, .val (.int .i64 k)⟩)]) (fun k => orI ns = orI (ns.drop k)) (Nat.zero_le _) rfl rfl ?_
  intro k hk hP
  simp only [go_sem, Nat.reduceEqDiff, Nat.reduceBEq, binO]
  refine ⟨fun h => ?_, fun h => ?_⟩
  · have hlt : k < ns.length := by simpa using h
    have hr' := hr (by omega)
    obtain ⟨b, o, vs, c, wr, ha, hb, hi⟩ := hr'
    subst ha
    have hi' := hi k hlt
    have hi1 := hi'.1
    have hv := getD_of_take hi'.2 (j := 0) (by omega)
    simp only [Nat.add_zero] at hv
    simp only [hb, go_sem, Nat.reduceEqDiff, Nat.reduceBEq, Nat.mul_one]
    simp only [Nat.mul_one] at hi1 hv
    simp only [hv, rInt, go_sem]
    have hd : ns.drop k = ns.getD k 0 :: ns.drop (k + 1) := by
      rw [List.drop_eq_getElem_cons hlt, List.getD_eq_getElem?_getD, List.getElem?_eq_getElem hlt]; rfl
    rw [hd] at hP
    simp only [orI] at hP
    refine ⟨⟨by omega, by omega⟩, hi1, fun hc => ?_, fun hc => ⟨hlt, wrapS (by omega), ?_⟩⟩
    · simp at hc; simp [hP, hc]
    · simp at hc; simp [hP, hc]
  · have : ns.drop k = [] := List.drop_eq_nil_of_le (by simp at h; omega)
    rw [hP, this]; rfl
theorem fn78 (hE : Codes E) (a b : DatumD) : FnP E 78 [.agg #[S a.text, .int .i64 a.n, .int .i64 a.m], .agg #[S b.text, .int .i64 b.n, .int .i64 b.m]] H (.int .i64 (cmpDatum a b)) := by
  refine Fn.of_vks hE.c78 (by simp [c_record_compareData]) ?_
  simp only [c_record_compareData, c_record_compareData_r0, c_record_compareData_r1]
  simp only [go_sem, Nat.reduceLeDiff, Nat.reduceEqDiff, Nat.reduceBEq, Nat.reduceAdd, reduceCtorEq]
  refine vks_dcallp _ ?_ (fun _ => ⟨?_, fn92 hE a.text b.text⟩) ?_ ?_ <;> simp only [go_sem, Nat.reduceLeDiff, Nat.reduceEqDiff, Nat.reduceBEq, Nat.reduceAdd]
  refine vks_dcallp _ ?_ (fun _ => ⟨?_, fn89 hE a.n b.n⟩) ?_ ?_ <;> simp only [go_sem, Nat.reduceLeDiff, Nat.reduceEqDiff, Nat.reduceBEq, Nat.reduceAdd]
  refine vks_dcallp _ ?_ (fun _ => ⟨?_, fn89 hE a.m b.m⟩) ?_ ?_ <;> simp only [vks_dmksl, go_sem, Nat.reduceLeDiff, Nat.reduceEqDiff, Nat.reduceBEq, Nat.reduceAdd]
  intro b0 hb0
  have hI : IntsAt (H.put b0 (.row [.int .i64 (cmpBs a.text b.text), .int .i64 (cmpInt a.n b.n), .int .i64 (cmpInt a.m b.m)] 3 true)) (.slice (some ⟨b0, 0, none⟩) 3 3) [cmpBs a.text b.text, cmpInt a.n b.n, cmpInt a.m b.m] := by
    refine ⟨_, _, rfl, (fun h => by cases h), fun _ => ⟨b0, 0, _, _, _, rfl, Hp.put_same .., ?_⟩⟩
    intro i hi
    match i, hi with
    | 0, _ => exact ⟨by simp, rfl⟩
    | 1, _ => exact ⟨by simp, rfl⟩
    | 2, _ => exact ⟨by simp, rfl⟩
  refine vks_dcallp _ ?_ (fun _ => ⟨?_, fn93 hE hI (by simp)⟩) ?_ ?_ <;> simp only [go_sem, Nat.reduceLeDiff, Nat.reduceEqDiff, Nat.reduceBEq, Nat.reduceAdd]
  refine ⟨?_, le_put hb0 _⟩
  simp only [orI, cmpDatum]
  split <;> try rfl
  split <;> try rfl
  split <;> simp_all
theorem fn77 (hE : Codes E) (r : Rule) (d : DatumD) : FnP E 77 [.agg #[.int .i64 r.text, .int .i64 r.leastN, .int .i64 r.mostN, .int .i64 r.leastM, .int .i64 r.mostM, .bool r.even, .bool r.single, .bool r.wild], .agg #[S d.text, .int .i64 d.n, .int .i64 d.m]] H (.bool (validDatum r d)) := by
  refine Fn.of_vks hE.c77 (by simp [c_record_validDatum]) ?_
  simp only [c_record_validDatum, c_record_validDatum_r0, c_record_validDatum_r1, c_record_validDatum_r2, c_record_validDatum_r3, c_record_validDatum_r4, c_record_validDatum_r5, c_record_validDatum_r6, c_record_validDatum_r7, c_record_validDatum_r8, c_record_validDatum_r9, c_record_validDatum_r10]
  simp only [go_sem, Nat.reduceLeDiff, Nat.reduceEqDiff, Nat.reduceBEq, Nat.reduceAdd, reduceCtorEq]
  refine vks_callp _ ?_ (fun _ => ⟨?_, fn74 hE d.n r.leastN r.mostN⟩) ?_ <;> simp only [go_sem, Nat.reduceLeDiff, Nat.reduceEqDiff, Nat.reduceBEq, Nat.reduceAdd]
  refine vks_callp _ ?_ (fun hg => ⟨?_, fn74 hE d.m r.leastM r.mostM⟩) ?_ <;> simp only [go_sem, Nat.reduceLeDiff, Nat.reduceEqDiff, Nat.reduceBEq, Nat.reduceAdd, Int.reduceEq, binO]
  · simp only [go_sem, Nat.reduceEqDiff] at hg ⊢; exact ⟨hg, hg, hg⟩
  · refine ⟨fun h => ⟨h, fun h2 => by simp [h, h2]⟩, fun h => ?_, fun h => ?_⟩
    · have h' : (!(!withinI d.n r.leastN r.mostN || !withinI d.m r.leastM r.mostM || (r.even && d.n.tmod 2 != 0))) = false := by rw [Bool.not_eq_false']; exact h
      simp only [validDatum, h', Bool.false_and]
    · have h' : validDatum r d = textOk r.text d.text := by
        have : (!(!withinI d.n r.leastN r.mostN || !withinI d.m r.leastM r.mostM || (r.even && d.n.tmod 2 != 0))) = true := by rw [Bool.not_eq_true']; exact h
        simp only [validDatum, this, Bool.true_and]
      rw [h']
      refine ⟨fun h1 => ?_, fun h1 => ⟨fun h2 => ?_, fun h2 => ⟨fun h3 => ?_, fun h3 => ?_⟩⟩⟩
      · refine vks_callp _ ?_ (fun _ => ⟨?_, fn45 hE d.text⟩) ?_ <;> simp only [go_sem, Nat.reduceLeDiff, Nat.reduceEqDiff, Nat.reduceBEq, Nat.reduceAdd]
        refine vks_callp _ ?_ (fun hg => ⟨?_, fn76 hE d.text⟩) ?_ <;> simp only [go_sem, Nat.reduceEqDiff, Nat.reduceBEq]
        · simp only [go_sem, Nat.reduceEqDiff] at hg ⊢; exact hg
        · simp at h1; simp [textOk, h1]
      · refine vks_callp _ ?_ (fun _ => ⟨?_, fn45 hE d.text⟩) ?_ <;> simp only [go_sem, Nat.reduceEqDiff, Nat.reduceBEq]
        simp at h2; simp [textOk, h2]
      · refine vks_callp _ ?_ (fun _ => ⟨?_, fn91 hE d.text⟩) ?_ <;> simp only [go_sem, Nat.reduceEqDiff, Nat.reduceBEq]
        simp at h3; simp [textOk, h3]
      · simp at h1 h2 h3; simp [textOk, h1, h2, h3]
end Go.SL

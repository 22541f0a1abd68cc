/- Contracts: world.validRoot, validCopies, Valid. -/
import Derived.Test.YtilkdjdnhkchpaaGreatDoorNplO
import Derived.Test.YtilkdjdnhkchpaaGreatDoorNplT12
import Derived.Test.YtilkdjdnhkchpaaGreatDoorNplO4
namespace Go.SL
open Go
variable {E : Env} {H : Hp}

theorem fn55 (hE : Codes E) (x : Int) : FnP E 55 [.int .i64 x] H (.bool (!addrOk x)) := by
  refine Fn.of_vks hE.c55 (by simp [c_world_validRoot_1]) ?_
  simp only [c_world_validRoot_1, c_world_validRoot_1_r0, c_world_validRoot_1_r1]
  simp only [go_sem, Nat.reduceBEq, reduceCtorEq]
  refine vks_callp _ ?_ (fun _ => ⟨?_, fn53 hE x⟩) ?_ <;> simp only [go_sem, Nat.reduceEqDiff, Nat.reduceBEq, reduceCtorEq]
theorem fn79 (hE : Codes E) {f v : Value} {ns : List Int} (p : Int → Bool) (h : IntsAt H v ns) (hf : ∀ x, FnV E f [.int .i64 x] H (fun u H' => u = .bool (p x) ∧ H' = H)) (hn : ns.length ≤ 1099511627775) :
    FnP E 79 [v, f] H (.int .i64 (firstN (fun i => p (ns.getD i 0)) ns.length)) := by
  obtain ⟨a, cap, rfl, hs, hr⟩ := h
  refine Fn.of_vks hE.c79 (by simp [c_slices_IndexFunc_int]) ?_
  simp only [c_slices_IndexFunc_int, c_slices_IndexFunc_int_r0, c_slices_IndexFunc_int_r1, c_slices_IndexFunc_int_r2, c_slices_IndexFunc_int_r3, c_slices_IndexFunc_int_r4, c_slices_IndexFunc_int_r5, c_slices_IndexFunc_int_r6, c_slices_IndexFunc_int_r7]
  simp only [go_sem, Nat.reduceEqDiff, Nat.reduceBEq, reduceCtorEq]
  refine vks_loopN ns.length 0 (fun k => [(0, ⟨true, .val (.slice a ns.length cap)⟩), (1, ⟨true, .val f⟩), (7, ⟨true, .val (.int .i64 ns.length)⟩), (8, ⟨true, .val (.int .i64 k)⟩)]) (fun k => firstN (fun i => p (ns.getD i 0)) k = -1) (Nat.zero_le _) rfl rfl ?_
  intro k hk hP
  by_cases hlt : k < ns.length
  · have hd : decide ((k : Int) < (ns.length : Int)) = true := by simpa using hlt
    have hr' := hr (by omega)
    obtain ⟨b, o, vs, c, wr, ha, hb, hi⟩ := hr'
    subst ha
    have hi1 := (hi k hlt).1
    have hi2 := getD_of_take (hi k hlt).2 (j := 0) (by omega)
    simp only [Nat.mul_one, Nat.add_zero] at hi1 hi2
    simp only [hd, hb, hi2, rInt, go_sem, Nat.reduceEqDiff, Nat.reduceBEq, reduceCtorEq, binO, Nat.mul_one]
    refine ⟨⟨by omega, by omega⟩, hi1, ?_⟩
    refine vks_callv ?_ ?_ (hf (ns.getD k 0)) ?_
    · simp only [go_sem, Nat.reduceEqDiff, reduceCtorEq]
    · simp only [go_sem, Nat.reduceEqDiff, reduceCtorEq]
    rintro v H' ⟨rfl, rfl⟩
    simp only [go_sem, Nat.reduceEqDiff, Nat.reduceBEq, reduceCtorEq, binO]
    exact ⟨fun h1 => (firstN_stop hP h1 hlt).symm, fun h1 => ⟨hlt, wrapS (by omega), firstN_next hP h1⟩⟩
  · have hd : decide ((k : Int) < (ns.length : Int)) = false := by simpa using hlt
    have : k = ns.length := by omega
    simp only [hd, go_sem, Nat.reduceEqDiff, Nat.reduceBEq, reduceCtorEq, binO]
    rw [← this]; exact hP.symm
theorem fn56 (hE : Codes E) {f v : Value} {ns : List Int} (p : Int → Bool) (h : IntsAt H v ns) (hf : ∀ x, FnV E f [.int .i64 x] H (fun u H' => u = .bool (p x) ∧ H' = H)) (hn : ns.length ≤ 1099511627775) :
    FnP E 56 [v, f] H (.bool (anyN (fun i => p (ns.getD i 0)) ns.length)) := by
  refine Fn.of_vks hE.c56 (by simp [c_slices_ContainsFunc_int]) ?_
  simp only [c_slices_ContainsFunc_int, c_slices_ContainsFunc_int_r0, c_slices_ContainsFunc_int_r1]
  simp only [go_sem, Nat.reduceEqDiff, Nat.reduceBEq, reduceCtorEq]
  refine vks_callp _ ?_ (fun _ => ⟨?_, fn79 hE p h hf hn⟩) ?_ <;> simp only [go_sem, Nat.reduceEqDiff, Nat.reduceBEq, reduceCtorEq, binO]
  exact firstN_any _ _
theorem fn42 (hE : Codes E) (hB : Base E H) (name : Bs) (ty life : Int) {v w : Value} {ds : List DatumD} {ns : List Int} (hd : DataAt H v ds) (hw : IntsAt H w ns) : FnP E 42 [.agg #[S name, .int .i64 ty, .int .i64 life, v], w] H (.bool (rootValid name ty life ds ns)) := by
  have hv1 := SlAt.one hd
  obtain ⟨aw, cw, hwe, _⟩ := id hw
  refine Fn.of_vks hE.c42 (by simp [c_world_validRoot]) ?_
  simp only [c_world_validRoot, c_world_validRoot_r0, c_world_validRoot_r1, c_world_validRoot_r2, c_world_validRoot_r3, c_world_validRoot_r4, c_world_validRoot_r5]
  simp only [hwe, go_sem, Nat.reduceEqDiff, Nat.reduceBEq, Nat.reduceAdd, reduceCtorEq]
  rw [hwe] at hw
  refine vks_callp _ ?_ (fun _ => ⟨?_, fn54 hE hB name ty life hd⟩) ?_ <;> simp only [go_sem, Nat.reduceLeDiff, Nat.reduceEqDiff, Nat.reduceBEq, Nat.reduceAdd, binO]
  have c1 : decide ((ns.length : Int) < 1) = !decide (1 ≤ ns.length) := by rw [Bool.eq_iff_iff, Bool.not_eq_true', decide_eq_true_eq, decide_eq_false_iff_not]; omega
  have c2 : decide ((ns.length : Int) > 8) = !decide (ns.length ≤ 8) := by rw [Bool.eq_iff_iff, Bool.not_eq_true', decide_eq_true_eq, decide_eq_false_iff_not]; omega
  rw [c1, c2]
  have hrv : rootValid name ty life ds ns = (!(!recValid name ty life ds || ty != 6 || !(name == [46])) && !(!decide (1 ≤ ns.length) || !decide (ns.length ≤ 8)) && allN (fun i => addrOk (ns.getD i 0)) ns.length) := by
    simp only [rootValid, Bool.not_or, Bool.not_not, bne]
    cases recValid name ty life ds <;> cases (ty == 6) <;> cases (name == [46]) <;> simp
  refine ⟨fun h => ?_, fun h => ⟨fun h2 => ?_, fun h2 => ?_⟩⟩
  · rw [hrv, h]; rfl
  · rw [hrv, h2, Bool.not_true, Bool.and_false, Bool.false_and]
  · have hn : ns.length ≤ 8 := by simp at h2; omega
    refine vks_callp _ ?_ (fun _ => ⟨?_, fn56 hE (fun x => !addrOk x) hw (fun x => FnV_of_Fn hE.e55 (Fn.same (fn55 hE x))) (by omega)⟩) ?_ <;> simp only [go_sem, Nat.reduceEqDiff, Nat.reduceBEq]
    rw [hrv, h, h2, anyN_not]; rfl
abbrev encP (k : Pair) : Value := .agg #[.int .i64 k.1, S k.2]
theorem keyIsP (k : Pair) : keyIs true [.i, .s] (encP k) := by simp [keyIs]
set_option maxHeartbeats 1000000 in
set_option maxRecDepth 100000 in
theorem fn41 (hE : Codes E) (hB : Base E H) {vh vz vd vi : Value} (an : Bs) (at_ al : Int) {hs : List HostD} {zs : List PlacedD} (hh : HostsAt H vh hs) (hz : PutsAt H vz zs) : FnP E 41 [.agg #[vh, vz, S an, .int .i64 at_, .int .i64 al, vd, vi]] H (.bool (copiesValid hs.length zs)) := by
  obtain ⟨z, ⟨a, cap, rfl, hsp, hr⟩, hdeep⟩ := hz
  obtain ⟨ah, ch, rfl, _⟩ := hh
  refine Fn.of_vks hE.c41 (by simp [c_world_validCopies]) ?_
  simp only [c_world_validCopies, c_world_validCopies_r0, c_world_validCopies_r1, c_world_validCopies_r2, c_world_validCopies_r3, c_world_validCopies_r4, c_world_validCopies_r5, c_world_validCopies_r6, c_world_validCopies_r7, c_world_validCopies_r8, c_world_validCopies_r9, c_world_validCopies_r10, c_world_validCopies_r11, c_world_validCopies_r12, c_world_validCopies_r13, c_world_validCopies_r14]
  simp only [go_sem, Nat.reduceLeDiff, Nat.reduceEqDiff, Nat.reduceBEq, Nat.reduceAdd, reduceCtorEq, binO]
  have hc : decide ((zs.length : Int) > 4000) = !decide (zs.length ≤ 4000) := by rw [Bool.eq_iff_iff, Bool.not_eq_true', decide_eq_true_eq, decide_eq_false_iff_not]; omega
  rw [hc]
  refine ⟨fun h => ?_, fun h => ?_⟩
  · rw [Bool.not_eq_true'] at h; simp only [copiesValid, h, Bool.false_and]
  have hn : zs.length ≤ 4000 := by simpa using h
  have ho : copiesValid hs.length zs = (allN (copyOk hs.length zs) zs.length && decide ((apexesN zs zs.length).length ≤ 500)) := by simp only [copiesValid, hn, decide_true, Bool.true_and]
  rw [ho]
  intro b3 hb3 b4 hb4
  have h43 : b4 ≠ b3 := by rintro rfl; simp [put_get] at hb4
  have hb40 : H b4 = none := by simpa [put_get, h43] using hb4
  refine vks_loopP zs.length 0 (fun k fr' H' => fr' = [(1, ⟨true, .box [.slice ah hs.length ch, .slice a zs.length cap, S an, .int .i64 at_, .int .i64 al, vd, vi]⟩), (3, ⟨true, .val (.map (some b3))⟩), (4, ⟨true, .val (.map (some b4))⟩), (15, ⟨true, .val (.slice a zs.length cap)⟩), (16, ⟨true, .val (.int .i64 zs.length)⟩), (17, ⟨true, .val (.int .i64 k)⟩)] ∧
      allN (copyOk hs.length zs) k = true ∧ ∃ o3 o4, H' = (H.put b3 o3).put b4 o4 ∧ (∀ H0 : Hp, MapAt (H0.put b3 o3) b3 ((pairsN zs k).map fun e => (encP e.1, .bool e.2))) ∧ (∀ H0 : Hp, MapAt (H0.put b4 o4) b4 ((apexesN zs k).map fun e => (S e.1, .bool e.2)))) (Nat.zero_le _) ⟨rfl, rfl, _, _, rfl, (fun H0 => ⟨#[], 0, Hp.put_same .., rfl⟩), fun H0 => ⟨#[], 0, Hp.put_same .., rfl⟩⟩ ?_
  rintro k fr' H' hk ⟨rfl, hP, o3, o4, rfl, hM3, hM4⟩
  have hle : H.le ((H.put b3 o3).put b4 o4) := le_put_of_le (le_put hb3 _) hb40 _
  have hMA : MapAt ((H.put b3 o3).put b4 o4) b3 ((pairsN zs k).map fun e => (encP e.1, .bool e.2)) := by
    obtain ⟨es, cl, e1, e2⟩ := hM3 H
    exact ⟨es, cl, by rw [put_get, if_neg h43.symm]; exact e1, e2⟩
  by_cases hlt : k < zs.length
  · have hd : decide ((k : Int) < (zs.length : Int)) = true := by simpa using hlt
    have hF : copyOk hs.length zs k = false → false = (allN (copyOk hs.length zs) zs.length && decide ((apexesN zs zs.length).length ≤ 500)) := fun h => by rw [allN_false hlt h]; rfl
    have hS : copyOk hs.length zs k = true → allN (copyOk hs.length zs) (k + 1) = true := fun h => allN_succ hP h
    have hr' := hr (by omega)
    obtain ⟨b, o, vs, c, wr, ha, hb, hi⟩ := hr'
    subst ha
    have hb1 := hle _ _ hb
    have hi1 := (hi k hlt).1
    have hi2 := (hi k hlt).2
    have hzk := (hdeep k hlt).mono hle
    have hz1 : one1 (z k) = true := by obtain ⟨d, g, h, _⟩ := hzk; exact SlAt.one h
    obtain ⟨x, hx⟩ : ∃ y, zs.getD k default = y := ⟨_, rfl⟩
    rw [hx] at hzk
    have hok : copyOk hs.length zs k = !(decide (x.host < 0) || decide (x.host ≥ hs.length) || (mget x.key (pairsN zs k)).getD false || !zoneValid x.apex x.sets) := by rw [← hx]; rfl
    simp only [hd, hb1, hi2, rPlaced, hx, hz1, go_sem, Nat.reduceLeDiff, Nat.reduceEqDiff, Nat.reduceBEq, Nat.reduceAdd, binO]
    refine ⟨⟨by omega, by omega⟩, hi1, ?_⟩
    refine ⟨fun h => ⟨h, h⟩, ?_⟩
    have hzv : FnP E 43 [.agg #[S x.apex, z k]] ((H.put b3 o3).put b4 o4) (.bool (zoneValid x.apex x.sets)) := fn43 hE (hB.mono hle) x.apex hzk
    obtain ⟨q, hq⟩ : ∃ q, (decide (x.host < 0) || decide (x.host ≥ (hs.length : Int))) = q := ⟨_, rfl⟩
    rw [hq] at hok ⊢
    cases q with
    | true =>
      refine vks_skipB (by intro x h; cases h) (by intro f a h; cases h) ?_ ?_ ?_
      · simp only [go_sem, Nat.reduceEqDiff]
      · simp only [go_sem, Nat.reduceEqDiff]
      simp only [go_sem, Nat.reduceEqDiff, Nat.reduceBEq, Nat.reduceAdd, ↓simT_pick_t]
      refine vks_callp (.bool (zoneValid x.apex x.sets)) ?_ (fun hg => absurd hg ?_) ?_ <;> simp only [go_sem, Nat.reduceEqDiff, Nat.reduceBEq, Nat.reduceAdd, ↓simT_pick_t]
      · simp
      · exact ⟨hF hok, hle⟩
    | false =>
      rw [Bool.false_or] at hok
      refine vks_useB (by intro x h; cases h) (by intro f a h; cases h) ?_ ?_ ?_
      · simp only [go_sem, Nat.reduceEqDiff]
      · simp only [go_sem, Nat.reduceEqDiff]
      refine vks_look (enc := encP) (encv := fun b => .bool b) (l := pairsN zs k) (b := b3) x.key keyP (keyIsP _) ?_ ?_ ?_ ?_ hMA ?_
      · simp only [go_sem, Nat.reduceEqDiff]
      · simp only [go_sem, Nat.reduceEqDiff]
      · simp only [go_sem, Nat.reduceEqDiff]
      · simp only [go_sem, Nat.reduceEqDiff]; rfl
      have hv : ((mget x.key (pairsN zs k)).map (fun b => Value.bool b)).getD (.bool false) = .bool ((mget x.key (pairsN zs k)).getD false) := by
        cases mget x.key (pairsN zs k) <;> rfl
      rw [hv]
      simp only [go_sem, Nat.reduceEqDiff, Nat.reduceBEq, Nat.reduceAdd]
      refine vks_callp _ ?_ (fun hg => ⟨?_, hzv⟩) ?_ <;> simp only [go_sem, Nat.reduceEqDiff, Nat.reduceBEq, Nat.reduceAdd]
      · simp only [go_sem, Nat.reduceEqDiff] at hg ⊢; exact hg
      refine ⟨fun h1 => ⟨hF ?_, hle⟩, fun h1 => ?_⟩
      · rw [hok, h1]; rfl
      rw [h1] at hok
      refine vks_upd (enc := encP) (encv := fun b => .bool b) (l := pairsN zs k) (b := b3) x.key true keyP (keyIsP _) ?_ ?_ ?_ ?_ ?_ ?_ hMA ?_
      · simp only [go_sem, Nat.reduceEqDiff]
      · simp only [go_sem, Nat.reduceEqDiff]
      · simp only [go_sem]
      · simp only [go_sem, Nat.reduceEqDiff]
      · simp only [go_sem, Nat.reduceEqDiff]; rfl
      · simp only [go_sem]
      intro o3' hM3'
      rw [put_swap _ _ _ _ h43.symm]
      simp only [go_sem, Nat.reduceLeDiff, Nat.reduceEqDiff, Nat.reduceBEq, Nat.reduceAdd]
      refine vks_upd (enc := fun x => S x) (encv := fun b => .bool b) (l := apexesN zs k) (b := b4) x.apex true keyS trivial ?_ ?_ ?_ ?_ ?_ ?_ (hM4 _) ?_
      · simp only [go_sem, Nat.reduceEqDiff]
      · simp only [go_sem, Nat.reduceEqDiff]
      · simp only [go_sem]
      · simp only [go_sem, Nat.reduceEqDiff]
      · simp only [go_sem, Nat.reduceEqDiff]
      · simp only [go_sem]
      intro o4' hM4'
      simp only [go_sem, Nat.reduceEqDiff, Nat.reduceBEq, binO]
      refine ⟨hlt, wrapS (by omega), hS hok, o3', o4', rfl, fun H0 => ?_, fun H0 => ?_⟩
      · have := hM3' H0; rw [← hx] at this; exact this
      · have := hM4' H0; rw [← hx] at this; exact this
  · have hd : decide ((k : Int) < (zs.length : Int)) = false := by simpa using hlt
    have : k = zs.length := by omega
    subst this
    simp only [hd, go_sem, Nat.reduceLeDiff, Nat.reduceEqDiff, Nat.reduceBEq, Nat.reduceAdd, binO]
    refine vks_mlenM ?_ ?_ (hM4 _) ?_
    · simp only [go_sem, Nat.reduceEqDiff]
    · simp only [go_sem, Nat.reduceEqDiff]
    simp only [go_sem, Nat.reduceEqDiff, Nat.reduceBEq, binO]
    refine ⟨?_, hle⟩
    rw [hP, Bool.true_and, List.length_map]
    rw [Bool.eq_iff_iff, decide_eq_true_eq, decide_eq_true_eq]; omega
/-- a world in memory -/
def WorldAt (H : Hp) (v : Value) (w : WorldD) : Prop := ∃ vh vz vd vi, v = .agg #[vh, vz, S w.aname, .int .i64 w.atype, .int .i64 w.alife, vd, vi] ∧ HostsAt H vh w.hosts ∧ PutsAt H vz w.zones ∧ DataAt H vd w.adata ∧ IntsAt H vi w.hints
theorem WorldAt.mono {H H' : Hp} {v : Value} {w : WorldD} (h : WorldAt H v w) (hl : H.le H') : WorldAt H' v w := by
  obtain ⟨vh, vz, vd, vi, h0, h1, h2, h3, h4⟩ := h
  exact ⟨vh, vz, vd, vi, h0, h1.mono hl, h2.mono hl, h3.mono hl, h4.mono hl⟩
theorem fn14 (hE : Codes E) (hB : Base E H) {v : Value} {w : WorldD} (hw : WorldAt H v w) : FnP E 14 [v] H (.bool (worldValid w)) := by
  obtain ⟨vh, vz, vd, vi, rfl, h1, h2, h3, h4⟩ := hw
  refine Fn.of_vks hE.c14 (by simp [c_world_Valid]) ?_
  simp only [c_world_Valid, c_world_Valid_r0, c_world_Valid_r1]
  simp only [go_sem, Nat.reduceLeDiff, Nat.reduceEqDiff, Nat.reduceBEq, Nat.reduceAdd, reduceCtorEq]
  refine vks_callp _ ?_ (fun _ => ⟨?_, fn40 hE h1⟩) ?_ <;> simp only [go_sem, Nat.reduceEqDiff, Nat.reduceBEq, Nat.reduceAdd]
  refine vks_callp _ ?_ (fun hg => ⟨?_, fn41 hE hB w.aname w.atype w.alife h1 h2⟩) ?_ <;> simp only [go_sem, Nat.reduceLeDiff, Nat.reduceEqDiff, Nat.reduceBEq, Nat.reduceAdd]
  · simp only [go_sem, Nat.reduceEqDiff] at hg ⊢; exact hg
  refine vks_callp _ ?_ (fun hg => ⟨?_, fn42 hE hB w.aname w.atype w.alife h3 h4⟩) ?_ <;> simp only [go_sem, Nat.reduceEqDiff, Nat.reduceBEq]
  · simp only [go_sem, Nat.reduceEqDiff] at hg ⊢; exact ⟨hg, hg⟩
  rfl
end Go.SL

/- The law, out of the contracts. -/
import Derived.Test.YtilkdjdnhkchpaaGreatDoorNplO
import Derived.Test.YtilkdjdnhkchpaaGreatDoorNplT25
import Derived.Test.YtilkdjdnhkchpaaGreatDoorNplT22
import Derived.Test.YtilkdjdnhkchpaaGreatDoorNplO9
namespace Go.SL
open Go
variable {E : Env} {H : Hp}

theorem SetsAt.nil' {_H : Hp} {v : Value} {_n : Nat} (h : v = .slice none 0 0) : one1 v = true := by subst h; rfl
theorem PutsAt.one {H : Hp} {v : Value} {ps : List PlacedD} (h : PutsAt H v ps) : one1 v = true := by obtain ⟨z, h, _⟩ := h; exact SlAt.one h
theorem small_after {zs ps : List PlacedD} (hz : SmallP zs) (hp : SmallP ps) (h1 : zs.length ≤ 500000000) (h2 : ps.length ≤ 500000000) : SmallP (afterL zs ps) := by
  constructor
  · unfold afterL
    rw [List.length_append]
    have a1 := List.length_filter_le (fun p => !((mget p.key (pairsN ps ps.length)).getD false)) zs
    have a2 := List.length_filter_le (fun p => !isStopB p) ps
    omega
  · intro i hi
    have hm := getD_mem (d := default) hi
    obtain ⟨q, hq⟩ : ∃ q, (afterL zs ps).getD i default = q := ⟨_, rfl⟩
    rw [hq] at hm ⊢
    unfold afterL at hm
    rcases List.mem_append.1 hm with hm | hm
    · obtain ⟨j, hj, ej⟩ := mem_getD default (List.mem_filter.1 hm).1
      rw [← ej]; exact hz.2 j hj
    · obtain ⟨j, hj, ej⟩ := mem_getD default (List.mem_filter.1 hm).1
      rw [← ej]; exact hp.2 j hj
theorem small_undo {zs ps : List PlacedD} (hz : SmallP zs) (hp : SmallP ps) : SmallP (undoL zs ps) := by
  constructor
  · simpa [undoL] using hp.1
  · intro i hi
    have hm := getD_mem (d := default) hi
    obtain ⟨q, hq⟩ : ∃ q, (undoL zs ps).getD i default = q := ⟨_, rfl⟩
    rw [hq] at hm ⊢
    obtain ⟨p, _, rfl⟩ := List.mem_map.1 hm
    unfold undoP
    split
    · rename_i j hj
      exact hz.2 j (servedN_lt _ _ _ _ _ hj)
    · exact ⟨by simp, fun i hi => by simp at hi⟩
/-- what is asked of SameWorld -/
def SameWorldOk (E : Env) : Prop := ∀ (H : Hp) (va vb : Value) (wa wb : WorldD), WorldAt H va wa → WorldAt H vb wb → (wa.hosts = wb.hosts ∧ wa.aname = wb.aname ∧ wa.atype = wb.atype ∧ wa.alife = wb.alife ∧ wa.adata = wb.adata ∧ wa.hints = wb.hints) →
  wa.zones.length = wb.zones.length → SmallW wb →
  (∀ i, i < wa.zones.length → ∀ j, j < wb.zones.length → (wa.zones.getD i default).key = (wb.zones.getD j default).key → wa.zones.getD i default = wb.zones.getD j default) →
  (∀ i, i < wa.zones.length → ∃ j, j < wb.zones.length ∧ wa.zones.getD i default = wb.zones.getD j default) → FnP E 5 [va, vb] H (.bool true)
theorem few16_len {w : WorldD} (h : few16 w = true) : w.zones.length ≤ 20 := by
  simp only [few16, Bool.and_eq_true, decide_eq_true_eq] at h; omega
theorem fewS_len {ps : List PlacedD} (h : fewS ps = true) : ps.length ≤ 20 := by
  simp only [fewS, Bool.and_eq_true, decide_eq_true_eq] at h; omega
theorem i10 : ((1 : Int) != 0) = true := rfl
theorem i20 : ((2 : Int) != 0) = true := rfl
theorem i00 : (((0 : Nat) : Int) == 0) = true := rfl
theorem i01 : ((0 : Int) == 1) = false := rfl
theorem i22 : ((2 : Int) == 2) = true := rfl
set_option maxHeartbeats 2000000 in
set_option maxRecDepth 100000 in
theorem fn7 (hE : Codes E) (h0 : ∀ H, Base E H → FnP E 0 [] H (.bool true)) (h5 : SameWorldOk E) (hB : Base E H) {v vp : Value} {w : WorldD} {ps : List PlacedD} (hw : WorldAt H v w) (hp : PutsAt H vp ps) : FnP E 7 [v, .agg #[vp]] H (.bool true) := by
  have hw0 := hw
  obtain ⟨vh, vz, vd, vi, rfl, h1, h2, h3, h4⟩ := hw
  have hh1 := SlAt.one h1
  have hd1 := SlAt.one h3
  have hi1 := SlAt.one h4
  have hz1 := PutsAt.one h2
  have hp1 := PutsAt.one hp
  refine Fn.of_vks hE.c7 (by simp [c_law40_RollbackUndo]) ?_
  simp only [c_law40_RollbackUndo, c_law40_RollbackUndo_r0, c_law40_RollbackUndo_r1, c_law40_RollbackUndo_r2, c_law40_RollbackUndo_r3, c_law40_RollbackUndo_r4, c_law40_RollbackUndo_r5, c_law40_RollbackUndo_r6, c_law40_RollbackUndo_r7, c_law40_RollbackUndo_r8, c_law40_RollbackUndo_r9, c_law40_RollbackUndo_r10, c_law40_RollbackUndo_r11, c_law40_RollbackUndo_r12]
  simp only [go_sem, Nat.reduceEqDiff, Nat.reduceBEq, reduceCtorEq]
  refine vks_callp _ ?_ (fun _ => ⟨?_, h0 H hB⟩) ?_ <;> simp only [go_sem, Nat.reduceEqDiff, Nat.reduceBEq, Nat.reduceAdd]
  refine vks_callp _ ?_ (fun _ => ⟨?_, fn1 hE hw0⟩) ?_ <;> simp only [go_sem, Nat.reduceEqDiff, Nat.reduceBEq]
  refine vks_callp _ ?_ (fun hg => ⟨?_, fn2 hE hp⟩) ?_ <;> simp only [go_sem, Nat.reduceEqDiff, Nat.reduceBEq, Nat.reduceAdd]
  · simp only [go_sem, Nat.reduceEqDiff] at hg ⊢; exact hg
  intro hfew
  have hf : few16 w = true ∧ fewS ps = true := by
    cases hx : few16 w <;> cases hy : fewS ps <;> simp_all
  have hsw := few16_small hf.1
  have hsp := fewS_small hf.2
  refine vks_call ?_ (fn3 hE hB hw0 hp hsw hsp) ?_
  · simp only [go_sem, Nat.reduceEqDiff]
  rintro u H1 ⟨vu, e, rfl, hle1, hu1, hu2⟩
  by_cases hx : worldE w ps = 1
  · have e1 := (hu1 hx).1
    have e2 := (hu1 hx).2
    subst e1 e2
    simp only [i10, i00, go_sem, Nat.reduceLT, Nat.reduceEqDiff, Nat.reduceBEq, Nat.reduceAdd, binO]
    exact hle1
  have e1 := (hu2 hx).1
  have hput := (hu2 hx).2
  subst e1
  have hvu : ∃ a n c, vu = .slice a n c := by obtain ⟨z, ⟨a, c, rfl, _⟩, _⟩ := hput; exact ⟨_, _, _, rfl⟩
  obtain ⟨au, nu, cu, rfl⟩ := hvu
  simp only [bne_self_eq_false, go_sem, Nat.reduceLT, Nat.reduceEqDiff, Nat.reduceBEq, Nat.reduceAdd, binO]
  refine vks_call ?_ (fn4 hE (hB.mono hle1) (hw0.mono hle1) (hp.mono hle1) hsw hsp) ?_
  · simp only [go_sem, Nat.reduceEqDiff]
  rintro u2 H2 ⟨vw, rfl, hle2, hwv, hw7⟩
  have hE2 : worldE w ps = 0 ∨ worldE w ps = 2 := by
    unfold worldE at hx ⊢
    split at hx
    · rename_i hc
      rw [if_pos hc]
      split <;> simp
    · exact absurd rfl hx
  rcases hE2 with h0' | h2'
  · have hwb := hwv h0'
    have hwb0 := hwb
    obtain ⟨xh, xz, xd, xi, rfl, g1, g2, g3, g4⟩ := hwb
    have k1 := SlAt.one g1
    have k2 := PutsAt.one g2
    have k3 := SlAt.one g3
    have k4 := SlAt.one g4
    simp only [h0', k1, k2, k3, k4, bne_self_eq_false, go_sem, Nat.reduceLT, Nat.reduceEqDiff, Nat.reduceBEq, Nat.reduceAdd, binO]
    have hcond : worldValid w = true ∧ stageOKB ps w.hosts.length = true ∧ tooManyB (afterL w.zones ps) = false := by
      unfold worldE at h0'
      split at h0'
      · rename_i hc
        simp only [Bool.and_eq_true] at hc
        refine ⟨hc.1, hc.2, ?_⟩
        split at h0'
        · simp at h0'
        · rename_i ht; simpa using ht
      · simp at h0'
    have law := undo_law hcond.1 hcond.2.1 hcond.2.2
    have hsu : SmallP (undoL w.zones ps) := small_undo hsw.1 hsp
    have hl1 := few16_len hf.1
    have hl2 := fewS_len hf.2
    have hsb : SmallW (worldOf w ps) := ⟨small_after hsw.1 hsp (by omega) (by omega), hsw.2⟩
    refine vks_call ?_ (fn4 hE (hB.mono (hle1.trans hle2)) hwb0 (hput.mono hle2) hsb hsu) ?_
    · simp only [go_sem, Nat.reduceEqDiff]
    rintro u3 H3 ⟨vw3, rfl, hle3, hwv3, _⟩
    have hwa := hwv3 law.1
    have hwa0 := hwa
    obtain ⟨yh, yz, yd, yi, rfl, r1, r2, r3, r4⟩ := hwa
    have j1 := SlAt.one r1
    have j2 := PutsAt.one r2
    have j3 := SlAt.one r3
    have j4 := SlAt.one r4
    simp only [law.1, j1, j2, j3, j4, go_sem, Nat.reduceLT, Nat.reduceEqDiff, Nat.reduceBEq, Nat.reduceAdd]
    refine vks_call ?_ (fn3 hE (hB.mono ((hle1.trans hle2).trans hle3)) (hwb0.mono hle3) (hput.mono (hle2.trans hle3)) hsb hsu) ?_
    · simp only [go_sem, Nat.reduceEqDiff]
    rintro u4 H4 ⟨vu4, e4, rfl, hle4, _, hu4⟩
    have hu4' := hu4 (by rw [law.1]; decide)
    have q1 := hu4'.1
    have q2 : PutsAt H4 vu4 ps := by have := hu4'.2; rw [show (worldOf w ps).zones = afterL w.zones ps from rfl, law.2.2.2] at this; exact this
    subst q1
    have hvu4 : ∃ a n c, vu4 = .slice a n c := by obtain ⟨z, ⟨a, c, rfl, _⟩, _⟩ := q2; exact ⟨_, _, _, rfl⟩
    obtain ⟨a4, n4, c4, rfl⟩ := hvu4
    simp only [go_sem, Nat.reduceLT, Nat.reduceEqDiff, Nat.reduceBEq, Nat.reduceAdd, binO]
    have hleA : H.le H4 := ((hle1.trans hle2).trans hle3).trans hle4
    have hnod : (keys w.zones).Nodup := by
      have := hcond.1
      simp only [worldValid, Bool.and_eq_true] at this
      exact (copies_iff.1 this.1.2).nodup
    have hmem : ∀ i, i < (worldOf (worldOf w ps) (undoL w.zones ps)).zones.length → (worldOf (worldOf w ps) (undoL w.zones ps)).zones.getD i default ∈ w.zones := fun i hi => law.2.2.1 _ (getD_mem hi)
    have hc5 := h5 H4 _ _ _ _ (hwa0.mono hle4) (hw0.mono hleA) ⟨rfl, rfl, rfl, rfl, rfl, rfl⟩ law.2.1 hsw
      (fun i hi j hj hk => key_inj hnod (hmem i hi) (getD_mem hj) hk) (fun i hi => by
        obtain ⟨j, hj, ej⟩ := mem_getD default (hmem i hi)
        exact ⟨j, hj, ej.symm⟩)
    refine vks_callp (.bool true) ?_ (fun _ => ⟨?_, hc5⟩) ?_ <;> simp only [go_sem, Nat.reduceEqDiff, Nat.reduceBEq]
    refine vks_callp (.bool true) ?_ (fun _ => ⟨?_, fn6 hE q2 (hp.mono hleA) hsp⟩) ?_ <;> simp only [go_sem, Nat.reduceEqDiff, Nat.reduceBEq]
    exact hleA
  · obtain ⟨cs, rfl, hl7, hall⟩ := hw7
    obtain ⟨c0, c1, c2, c3, c4, c5, c6, rfl⟩ : ∃ c0 c1 c2 c3 c4 c5 c6, cs = [c0, c1, c2, c3, c4, c5, c6] := by
      match cs, hl7 with
      | [c0, c1, c2, c3, c4, c5, c6], _ => exact ⟨_, _, _, _, _, _, _, rfl⟩
    simp only [List.all_cons, List.all_nil, Bool.and_eq_true] at hall
    obtain ⟨l0, l1, l2, l3, l4, l5, l6, _⟩ := hall
    simp only [h2', l0, l1, l2, l3, l4, l5, l6, i20, i22, go_sem, Nat.reduceLT, Nat.reduceEqDiff, Nat.reduceBEq, Nat.reduceAdd, binO]
    exact hle1.trans hle2
end Go.SL

/- Contracts: the example's zones. -/
namespace Go.SL
open Go
variable {E : Env} {H : Hp}

theorem SlAt.lit {H : Hp} {b n cap sz c : Nat} {vs : List Value} {wr : Bool} {row : Nat → List Value} (hb : H b = some (.row vs c wr)) (h : ∀ i, i < n → i * sz + sz ≤ vs.length ∧ (vs.drop (i * sz)).take sz = row i) :
    SlAt H sz (.slice (some ⟨b, 0, none⟩) n cap) n row :=
  ⟨_, _, rfl, (fun h => by cases h), fun _ => ⟨b, 0, vs, c, wr, rfl, hb, fun i hi => by rw [Nat.zero_add]; exact h i hi⟩⟩
theorem fn107 (h2 : Codes2 E) (kd n m : Int) (t : Bs) : Fn E.P (E.fn 107) [.int .i64 kd, .agg #[S t, .int .i64 n, .int .i64 m]] H
    (fun u H' => ∃ b, H b = none ∧ u = .agg #[S [120], .int .i64 kd, .int .i64 9, .slice (some ⟨b, 0, none⟩) 1 1, .slice none 0 0] ∧ H' = H.put b (.row [S t, .int .i64 n, .int .i64 m] 3 true)) := by
  refine Fn.of_vks h2.c107 (by simp [c_law40_example_1_1]) ?_
  simp only [c_law40_example_1_1, c_law40_example_1_1_r0, c_law40_example_1_1_r1]
  simp only [go_sem, Nat.reduceLeDiff, Nat.reduceEqDiff, Nat.reduceBEq, Nat.reduceAdd, reduceCtorEq]
  intro b hb
  exact ⟨b, hb, rfl, rfl⟩
def setsX (n : Int) : List SignedD := [⟨[120], 2, 9, [⟨[98], 0, 0⟩], []⟩, ⟨[120], 4, 9, [⟨[], n, 0⟩], []⟩]
theorem fn26 (h2 : Codes2 E) (n : Int) : Fn E.P (E.fn 26) [.int .i64 n] H (fun u H' => ∃ v, u = .agg #[S [120], v] ∧ H.le H' ∧ SetsAt H' v (setsX n)) := by
  refine Fn.of_vks h2.c26 (by simp [c_law40_example_1]) ?_
  simp only [c_law40_example_1, c_law40_example_1_r0, c_law40_example_1_r1, c_law40_example_1_r2]
  simp only [go_sem, Nat.reduceLeDiff, Nat.reduceEqDiff, Nat.reduceBEq, Nat.reduceAdd, reduceCtorEq]
  refine vks_callv ?_ ?_ (FnV_of_Fn h2.e107 (fn107 h2 2 0 0 [98])) ?_
  · simp only [go_sem, Nat.reduceEqDiff, reduceCtorEq]
  · simp only [go_sem, Nat.reduceEqDiff, reduceCtorEq]
  rintro u1 H1 ⟨b1, hb1, rfl, rfl⟩
  simp only [go_sem, Nat.reduceLeDiff, Nat.reduceEqDiff, Nat.reduceBEq, Nat.reduceAdd, reduceCtorEq]
  refine vks_callv ?_ ?_ (FnV_of_Fn h2.e107 (fn107 h2 4 n 0 [])) ?_
  · simp only [go_sem, Nat.reduceEqDiff, reduceCtorEq]
  · simp only [go_sem, Nat.reduceEqDiff, reduceCtorEq]
  rintro u2 H2 ⟨b2, hb2, rfl, rfl⟩
  simp only [go_sem, Nat.reduceLeDiff, Nat.reduceEqDiff, Nat.reduceBEq, Nat.reduceAdd, reduceCtorEq]
  intro b3 hb3
  have hn12 : b1 ≠ b2 := by rintro rfl; rw [Hp.put_same] at hb2; cases hb2
  have hn13 : b1 ≠ b3 := by rintro rfl; rw [Hp.put_ne _ _ hn12, Hp.put_same] at hb3; cases hb3
  have hn23 : b2 ≠ b3 := by rintro rfl; rw [Hp.put_same] at hb3; cases hb3
  have hle : H.le (((H.put b1 (.row [S [98], .int .i64 0, .int .i64 0] 3 true)).put b2 (.row [S [], .int .i64 n, .int .i64 0] 3 true))) := (le_put hb1 _).trans (le_put hb2 _)
  refine ⟨_, rfl, hle.trans (le_put hb3 _), (fun i => if i = 0 then .slice (some ⟨b1, 0, none⟩) 1 1 else .slice (some ⟨b2, 0, none⟩) 1 1), fun _ => .slice none 0 0, SlAt.lit (Hp.put_same ..) ?_, ?_⟩
  · intro i hi
    match i, hi with
    | 0, _ => exact ⟨by simp, rfl⟩
    | 1, _ => exact ⟨by simp, rfl⟩
  · intro i hi
    match i, hi with
    | 0, _ =>
      refine ⟨SlAt.lit (c := 3) (wr := true) (vs := [S [98], .int .i64 0, .int .i64 0]) (by rw [Hp.put_ne _ _ hn13, Hp.put_ne _ _ hn12, Hp.put_same]) ?_, SlAt.nil⟩
      intro i hi
      match i, hi with
      | 0, _ => exact ⟨by simp, rfl⟩
    | 1, _ =>
      refine ⟨SlAt.lit (c := 3) (wr := true) (vs := [S [], .int .i64 n, .int .i64 0]) (by rw [Hp.put_ne _ _ hn23, Hp.put_same]) ?_, SlAt.nil⟩
      intro i hi
      match i, hi with
      | 0, _ => exact ⟨by simp, rfl⟩
end Go.SL

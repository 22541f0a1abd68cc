/- Contracts: comparing equal data. -/
import Derived.Test.YtilkdjdnhkchpaaGreatDoorNplO
import Derived.Test.YtilkdjdnhkchpaaGreatDoorNplT20
namespace Go.SL
open Go
variable {E : Env} {H : Hp}

theorem fn46 (hE : Codes E) (n : Bs) (t l : Int) {va vb : Value} {ds : List DatumD} (ha : DataAt H va ds) (hb : DataAt H vb ds) (hn : ds.length ≤ 1099511627775) : FnP E 46 [.agg #[S n, .int .i64 t, .int .i64 l, va], .agg #[S n, .int .i64 t, .int .i64 l, vb]] H (.bool true) := by
  obtain ⟨aa, ca, rfl, _, hra⟩ := ha
  obtain ⟨ab, cb, rfl, _, hrb⟩ := hb
  refine Fn.of_vks hE.c46 (by simp [c_ref02_Same]) ?_
  simp only [c_ref02_Same, c_ref02_Same_r0, c_ref02_Same_r1, c_ref02_Same_r2, c_ref02_Same_r3, c_ref02_Same_r4, c_ref02_Same_r6, c_ref02_Same_r7, c_ref02_Same_r5, c_ref02_Same_r8]
  simp only [go_sem, Nat.reduceLeDiff, Nat.reduceEqDiff, Nat.reduceBEq, Nat.reduceAdd, reduceCtorEq, binO, bne_self_eq_false]
  refine vks_loopN ds.length 0 (fun k => [(2, ⟨true, .box [S n, .int .i64 t, .int .i64 l, .slice aa ds.length ca]⟩), (3, ⟨true, .box [S n, .int .i64 t, .int .i64 l, .slice ab ds.length cb]⟩), (5, ⟨true, .val (.int .i64 k)⟩)]) (fun _ => True) (Nat.zero_le _) rfl trivial ?_
  intro k hk _
  by_cases hlt : k < ds.length
  · have hd : decide ((k : Int) < (ds.length : Int)) = true := by simpa using hlt
    have hrA' := hra (by omega)
    obtain ⟨bA, oA, vsA, cA, wrA, haA, hbA, hiA⟩ := hrA'
    subst haA
    have hiA1 := (hiA k hlt).1
    have hiA2 := (hiA k hlt).2
    have hrB' := hrb (by omega)
    obtain ⟨bB, oB, vsB, cB, wrB, haB, hbB, hiB⟩ := hrB'
    subst haB
    have hiB1 := (hiB k hlt).1
    have hiB2 := (hiB k hlt).2
    simp only [hd, hbA, hbB, hiA2, hiB2, rDatum, aggEq, allEq, scalEq, Bool.xor_true, go_sem, Nat.reduceEqDiff, Nat.reduceBEq, Nat.reduceAdd, binO]
    exact ⟨⟨by omega, by omega⟩, hiA1, ⟨by omega, by omega⟩, hiB1, hlt, wrapS (by omega)⟩
  · have hd : decide ((k : Int) < (ds.length : Int)) = false := by simpa using hlt
    simp only [hd, go_sem, Nat.reduceEqDiff, Nat.reduceBEq, Nat.reduceAdd, binO]
theorem fn47 (hE : Codes E) (n : Bs) (t l : Int) {va vb wa wb : Value} {ds : List DatumD} {gs : List SigD} (ha : DataAt H va ds) (hb : DataAt H vb ds) (ga : SigsAt H wa gs) (gb : SigsAt H wb gs) (hn : ds.length ≤ 1099511627775) (hm : gs.length ≤ 1099511627775) : FnP E 47 [.agg #[S n, .int .i64 t, .int .i64 l, va, wa], .agg #[S n, .int .i64 t, .int .i64 l, vb, wb]] H (.bool true) := by
  obtain ⟨aa, ca, rfl, _, hra⟩ := ga
  obtain ⟨ab, cb, rfl, _, hrb⟩ := gb
  refine Fn.of_vks hE.c47 (by simp [c_ref02_SameSigned]) ?_
  simp only [c_ref02_SameSigned, c_ref02_SameSigned_r0, c_ref02_SameSigned_r1, c_ref02_SameSigned_r2, c_ref02_SameSigned_r3, c_ref02_SameSigned_r4, c_ref02_SameSigned_r6, c_ref02_SameSigned_r7, c_ref02_SameSigned_r5, c_ref02_SameSigned_r8]
  simp only [go_sem, Nat.reduceLeDiff, Nat.reduceEqDiff, Nat.reduceBEq, Nat.reduceAdd, reduceCtorEq]
  refine vks_callp _ ?_ (fun _ => ⟨?_, fn46 hE n t l ha hb hn⟩) ?_ <;> simp only [go_sem, Nat.reduceEqDiff, Nat.reduceBEq, Nat.reduceAdd, binO, bne_self_eq_false]
  refine vks_loopN gs.length 0 (fun k => [(2, ⟨true, .box [S n, .int .i64 t, .int .i64 l, va, .slice aa gs.length ca]⟩), (3, ⟨true, .box [S n, .int .i64 t, .int .i64 l, vb, .slice ab gs.length cb]⟩), (5, ⟨true, .val (.int .i64 k)⟩)]) (fun _ => True) (Nat.zero_le _) rfl trivial ?_
  intro k hk _
  by_cases hlt : k < gs.length
  · have hd : decide ((k : Int) < (gs.length : Int)) = true := by simpa using hlt
    have hrA' := hra (by omega)
    obtain ⟨bA, oA, vsA, cA, wrA, haA, hbA, hiA⟩ := hrA'
    subst haA
    have hiA1 := (hiA k hlt).1
    have hiA2 := (hiA k hlt).2
    have hrB' := hrb (by omega)
    obtain ⟨bB, oB, vsB, cB, wrB, haB, hbB, hiB⟩ := hrB'
    subst haB
    have hiB1 := (hiB k hlt).1
    have hiB2 := (hiB k hlt).2
    simp only [hd, hbA, hbB, hiA2, hiB2, rSig, aggEq, allEq, scalEq, Bool.xor_true, go_sem, Nat.reduceEqDiff, Nat.reduceBEq, Nat.reduceAdd, binO]
    exact ⟨⟨by omega, by omega⟩, hiA1, ⟨by omega, by omega⟩, hiB1, hlt, wrapS (by omega)⟩
  · have hd : decide ((k : Int) < (gs.length : Int)) = false := by simpa using hlt
    simp only [hd, go_sem, Nat.reduceEqDiff, Nat.reduceBEq, Nat.reduceAdd, binO]
theorem fn27 (hE : Codes E) {va vb : Value} {ss : List SignedD} (ha : SetsAt H va ss) (hb : SetsAt H vb ss) (hsm : SmallS ss) : FnP E 27 [va, vb] H (.bool true) := by
  obtain ⟨da, ga, ⟨aa, ca, rfl, _, hra⟩, hda⟩ := ha
  obtain ⟨db, gb, ⟨ab, cb, rfl, _, hrb⟩, hdb⟩ := hb
  have hn := hsm.1
  refine Fn.of_vks hE.c27 (by simp [c_ref02_SameList]) ?_
  simp only [c_ref02_SameList, c_ref02_SameList_r0, c_ref02_SameList_r1, c_ref02_SameList_r2, c_ref02_SameList_r3, c_ref02_SameList_r4, c_ref02_SameList_r6, c_ref02_SameList_r7, c_ref02_SameList_r5, c_ref02_SameList_r8]
  simp only [go_sem, Nat.reduceEqDiff, Nat.reduceBEq, reduceCtorEq, binO, bne_self_eq_false]
  refine vks_loopN ss.length 0 (fun k => [(0, ⟨true, .val (.slice aa ss.length ca)⟩), (1, ⟨true, .val (.slice ab ss.length cb)⟩), (5, ⟨true, .val (.int .i64 k)⟩)]) (fun _ => True) (Nat.zero_le _) rfl trivial ?_
  intro k hk _
  by_cases hlt : k < ss.length
  · have hd : decide ((k : Int) < (ss.length : Int)) = true := by simpa using hlt
    have hrA' := hra (by omega)
    obtain ⟨bA, oA, vsA, cA, wrA, haA, hbA, hiA⟩ := hrA'
    subst haA
    have hiA1 := (hiA k hlt).1
    have hiA2 := (hiA k hlt).2
    have hrB' := hrb (by omega)
    obtain ⟨bB, oB, vsB, cB, wrB, haB, hbB, hiB⟩ := hrB'
    subst haB
    have hiB1 := (hiB k hlt).1
    have hiB2 := (hiB k hlt).2
    simp only [hd, hbA, hbB, hiA2, hiB2, rSigned, go_sem, Nat.reduceEqDiff, Nat.reduceBEq, reduceCtorEq, binO]
    refine ⟨⟨by omega, by omega⟩, hiA1, ⟨by omega, by omega⟩, hiB1, ?_⟩
    have hs2 := hsm.2 k hlt
    refine vks_dcallp _ ?_ (fun _ => ⟨?_, fn47 hE (ss.getD k default).name (ss.getD k default).type (ss.getD k default).life (hda k hlt).1 (hdb k hlt).1 (hda k hlt).2 (hdb k hlt).2 (by omega) (by omega)⟩) ?_ ?_ <;> simp only [go_sem, Nat.reduceEqDiff, Nat.reduceBEq, reduceCtorEq, binO]
    exact ⟨hlt, wrapS (by omega)⟩
  · have hd : decide ((k : Int) < (ss.length : Int)) = false := by simpa using hlt
    simp only [hd, go_sem, Nat.reduceEqDiff, Nat.reduceBEq, reduceCtorEq, binO]
theorem fn9 (hE : Codes E) (apex : Bs) {va vb : Value} {ss : List SignedD} (ha : SetsAt H va ss) (hb : SetsAt H vb ss) (hsm : SmallS ss) : FnP E 9 [.agg #[S apex, va], .agg #[S apex, vb]] H (.bool true) := by
  refine Fn.of_vks hE.c9 (by simp [c_ref02_SameZone]) ?_
  simp only [c_ref02_SameZone, c_ref02_SameZone_r0, c_ref02_SameZone_r1]
  simp only [go_sem, Nat.reduceLeDiff, Nat.reduceEqDiff, Nat.reduceBEq, Nat.reduceAdd, reduceCtorEq, binO]
  refine vks_callp _ ?_ (fun hg => ⟨?_, fn27 hE ha hb hsm⟩) ?_ <;> simp only [go_sem, Nat.reduceEqDiff, Nat.reduceBEq]
theorem fn25 (hE : Codes E) (p q : PlacedD) (za zb : Value) : FnP E 25 [.agg #[.int .i64 p.host, S p.apex, za], .agg #[.int .i64 q.host, S q.apex, zb]] H (.bool (p.key == q.key)) := by
  refine Fn.of_vks hE.c25 (by simp [c_ref35_same]) ?_
  simp only [c_ref35_same, c_ref35_same_r0, c_ref35_same_r1]
  simp only [go_sem, Nat.reduceLeDiff, Nat.reduceEqDiff, Nat.reduceBEq, Nat.reduceAdd, reduceCtorEq, binO]
  exact ⟨fun h => ⟨h, h⟩, rfl⟩
theorem fn6 (hE : Codes E) {va vb : Value} {ps : List PlacedD} (ha : PutsAt H va ps) (hb : PutsAt H vb ps) (hsp : SmallP ps) : FnP E 6 [.agg #[va], .agg #[vb]] H (.bool true) := by
  obtain ⟨xa, ⟨aa, ca, rfl, _, hra⟩, hda⟩ := ha
  obtain ⟨xb, ⟨ab, cb, rfl, _, hrb⟩, hdb⟩ := hb
  have hn := hsp.1
  refine Fn.of_vks hE.c6 (by simp [c_ref35_SameStage]) ?_
  simp only [c_ref35_SameStage, c_ref35_SameStage_r0, c_ref35_SameStage_r1, c_ref35_SameStage_r2, c_ref35_SameStage_r3, c_ref35_SameStage_r4, c_ref35_SameStage_r6, c_ref35_SameStage_r7, c_ref35_SameStage_r5, c_ref35_SameStage_r8]
  simp only [go_sem, Nat.reduceEqDiff, Nat.reduceBEq, reduceCtorEq, binO, bne_self_eq_false]
  refine vks_loopN ps.length 0 (fun k => [(2, ⟨true, .box [.slice aa ps.length ca]⟩), (3, ⟨true, .box [.slice ab ps.length cb]⟩), (5, ⟨true, .val (.int .i64 k)⟩)]) (fun _ => True) (Nat.zero_le _) rfl trivial ?_
  intro k hk _
  by_cases hlt : k < ps.length
  · have hd : decide ((k : Int) < (ps.length : Int)) = true := by simpa using hlt
    have hrA' := hra (by omega)
    obtain ⟨bA, oA, vsA, cA, wrA, haA, hbA, hiA⟩ := hrA'
    subst haA
    have hiA1 := (hiA k hlt).1
    have hiA2 := (hiA k hlt).2
    have hrB' := hrb (by omega)
    obtain ⟨bB, oB, vsB, cB, wrB, haB, hbB, hiB⟩ := hrB'
    subst haB
    have hiB1 := (hiB k hlt).1
    have hiB2 := (hiB k hlt).2
    have hjA := getD_of_take hiA2 (j := 0) (by omega)
    have hjB := getD_of_take hiB2 (j := 0) (by omega)
    have hkA := take_of_take hiA2 1 2 (by omega)
    have hkB := take_of_take hiB2 1 2 (by omega)
    simp only [Nat.add_zero] at hjA hjB
    simp only [hd, hbA, hbB, hjA, hjB, hkA, hkB, rPlaced, go_sem, Nat.reduceEqDiff, Nat.reduceBEq, binO, bne_self_eq_false]
    refine ⟨⟨by omega, by omega⟩, by omega, ⟨by omega, by omega⟩, by omega, ⟨by omega, by omega⟩, by omega, ⟨by omega, by omega⟩, by omega, ?_⟩
    refine vks_dcallp _ ?_ (fun _ => ⟨?_, fn9 hE (ps.getD k default).apex (hda k hlt) (hdb k hlt) (hsp.2 k hlt)⟩) ?_ ?_ <;> simp only [go_sem, Nat.reduceEqDiff, Nat.reduceBEq, binO]
    exact ⟨hlt, wrapS (by omega)⟩
  · have hd : decide ((k : Int) < (ps.length : Int)) = false := by simpa using hlt
    simp only [hd, go_sem, Nat.reduceEqDiff, Nat.reduceBEq, binO]
end Go.SL

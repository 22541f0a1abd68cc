/- Contracts: comparing worlds. -/
import Derived.Test.YtilkdjdnhkchpaaGreatDoorNplO
import Derived.Test.YtilkdjdnhkchpaaGreatDoorNplT22
namespace Go.SL
open Go
variable {E : Env} {H : Hp}

set_option maxHeartbeats 1000000 in
theorem fn24 (hE : Codes E) (an : Bs) (ay al : Int) {va vb za zb da db ia ib : Value} {hs : List HostD} {ds : List DatumD} {ns : List Int} (ha : HostsAt H va hs) (hb : HostsAt H vb hs) (hda : DataAt H da ds) (hdb : DataAt H db ds) (hia : IntsAt H ia ns) (hib : IntsAt H ib ns)
    (h1 : hs.length ≤ 1099511627775) (h2 : ds.length ≤ 1099511627775) (h3 : ns.length ≤ 1099511627775) : FnP E 24 [.agg #[va, za, S an, .int .i64 ay, .int .i64 al, da, ia], .agg #[vb, zb, S an, .int .i64 ay, .int .i64 al, db, ib]] H (.bool true) := by
  obtain ⟨aa, ca, rfl, _, hra⟩ := ha
  obtain ⟨ab, cb, rfl, _, hrb⟩ := hb
  obtain ⟨pa, qa, rfl, _, hia'⟩ := hia
  obtain ⟨pb, qb, rfl, _, hib'⟩ := hib
  refine Fn.of_vks hE.c24 (by simp [c_ref35_hosts]) ?_
  simp only [c_ref35_hosts, c_ref35_hosts_r0, c_ref35_hosts_r1, c_ref35_hosts_r2, c_ref35_hosts_r3, c_ref35_hosts_r4, c_ref35_hosts_r6, c_ref35_hosts_r7, c_ref35_hosts_r5, c_ref35_hosts_r8, c_ref35_hosts_r9, c_ref35_hosts_r11, c_ref35_hosts_r12, c_ref35_hosts_r10, c_ref35_hosts_r13]
  simp only [go_sem, Nat.reduceLeDiff, Nat.reduceEqDiff, Nat.reduceBEq, Nat.reduceAdd, reduceCtorEq, binO, bne_self_eq_false]
  refine vks_callp _ ?_ (fun hg => ⟨?_, fn46 hE an ay al hda hdb h2⟩) ?_ <;> simp only [go_sem, Nat.reduceEqDiff, Nat.reduceBEq]
  refine vks_loopN hs.length 0 (fun k => [(2, ⟨true, .box [.slice aa hs.length ca, za, S an, .int .i64 ay, .int .i64 al, da, .slice pa ns.length qa]⟩), (3, ⟨true, .box [.slice ab hs.length cb, zb, S an, .int .i64 ay, .int .i64 al, db, .slice pb ns.length qb]⟩), (5, ⟨true, .val (.int .i64 k)⟩)]) (fun _ => True) (Nat.zero_le _) rfl trivial ?_
  intro k hk _
  by_cases hlt : k < hs.length
  · have hd : decide ((k : Int) < (hs.length : Int)) = true := by simpa using hlt
    have hrA' := hra (by omega)
    obtain ⟨bA, oA, vsA, cA, wrA, haA, hbA, hiA⟩ := hrA'
    subst haA
    have hiA1 := (hiA k hlt).1
    have hiA2 := (hiA k hlt).2
    have hrB' := hrb (by omega)
    obtain ⟨bB, oB, vsB, cB, wrB, haB, hbB, hiB⟩ := hrB'
    subst haB
    have hiB1 := (hiB k hlt).1
    have hiB2 := (hiB k hlt).2
    simp only [hd, hbA, hbB, hiA2, hiB2, rHost, aggEq, allEq, scalEq, Bool.xor_true, go_sem, Nat.reduceLeDiff, Nat.reduceEqDiff, Nat.reduceBEq, Nat.reduceAdd, binO]
    exact ⟨⟨by omega, by omega⟩, hiA1, ⟨by omega, by omega⟩, hiB1, hlt, wrapS (by omega)⟩
  · have hd : decide ((k : Int) < (hs.length : Int)) = false := by simpa using hlt
    simp only [hd, go_sem, Nat.reduceLeDiff, Nat.reduceEqDiff, Nat.reduceBEq, Nat.reduceAdd, binO]
    refine vks_loopN ns.length 0 (fun k => [(2, ⟨true, .box [.slice aa hs.length ca, za, S an, .int .i64 ay, .int .i64 al, da, .slice pa ns.length qa]⟩), (3, ⟨true, .box [.slice ab hs.length cb, zb, S an, .int .i64 ay, .int .i64 al, db, .slice pb ns.length qb]⟩), (6, ⟨true, .val (.int .i64 k)⟩)]) (fun _ => True) (Nat.zero_le _) rfl trivial ?_
    intro k hk _
    by_cases hlt : k < ns.length
    · have hd : decide ((k : Int) < (ns.length : Int)) = true := by simpa using hlt
      have hrC' := hia' (by omega)
      obtain ⟨bC, oC, vsC, cC, wrC, haC, hbC, hiC⟩ := hrC'
      subst haC
      have hiC1 := (hiC k hlt).1
      have hiC2 := (hiC k hlt).2
      have hrD' := hib' (by omega)
      obtain ⟨bD, oD, vsD, cD, wrD, haD, hbD, hiD⟩ := hrD'
      subst haD
      have hiD1 := (hiD k hlt).1
      have hiD2 := (hiD k hlt).2
      have hjC := getD_of_take hiC2 (j := 0) (by omega)
      have hjD := getD_of_take hiD2 (j := 0) (by omega)
      simp only [Nat.mul_one, Nat.add_zero] at hjC hjD hiC1 hiD1
      simp only [hd, hbC, hbD, hjC, hjD, rInt, go_sem, Nat.reduceEqDiff, Nat.reduceBEq, Nat.reduceAdd, binO, bne_self_eq_false, Nat.mul_one]
      exact ⟨⟨by omega, by omega⟩, hiC1, ⟨by omega, by omega⟩, hiD1, hlt, wrapS (by omega)⟩
    · have hd : decide ((k : Int) < (ns.length : Int)) = false := by simpa using hlt
      simp only [hd, go_sem, Nat.reduceEqDiff, Nat.reduceBEq, Nat.reduceAdd, binO]
set_option maxHeartbeats 2000000 in
set_option maxRecDepth 100000 in
theorem fn5 (hE : Codes E) {va vb : Value} {wa wb : WorldD} (ha : WorldAt H va wa) (hb : WorldAt H vb wb) (he : wa.hosts = wb.hosts ∧ wa.aname = wb.aname ∧ wa.atype = wb.atype ∧ wa.alife = wb.alife ∧ wa.adata = wb.adata ∧ wa.hints = wb.hints) (hl : wa.zones.length = wb.zones.length) (hsw : SmallW wb)
    (hk : ∀ i, i < wa.zones.length → ∀ j, j < wb.zones.length → (wa.zones.getD i default).key = (wb.zones.getD j default).key → wa.zones.getD i default = wb.zones.getD j default)
    (hf : ∀ i, i < wa.zones.length → ∃ j, j < wb.zones.length ∧ wa.zones.getD i default = wb.zones.getD j default) : FnP E 5 [va, vb] H (.bool true) := by
  obtain ⟨ha1, za, da, ia, rfl, a1, a2, a3, a4⟩ := ha
  obtain ⟨hb1, zb, db, ib, rfl, b1, b2, b3, b4⟩ := hb
  obtain ⟨e1, e2, e3, e4, e5, e6⟩ := he
  rw [e1] at a1
  rw [e5] at a3
  rw [e6] at a4
  rw [e2, e3, e4]
  obtain ⟨xa, ⟨aa, ca, rfl, _, hra⟩, hda⟩ := a2
  obtain ⟨xb, ⟨ab, cb, rfl, _, hrb⟩, hdb⟩ := b2
  rw [hl] at hra hk hf hda
  obtain ⟨n, hn⟩ : ∃ n, wb.zones.length = n := ⟨_, rfl⟩
  have hbn := hsw.1.1
  have hbh := hsw.2
  rw [hl, hn]
  rw [hn] at hra hrb hk hf hda hdb hbn
  refine Fn.of_vks hE.c5 (by simp [c_ref35_SameWorld]) ?_
  simp only [c_ref35_SameWorld, c_ref35_SameWorld_r0, c_ref35_SameWorld_r1, c_ref35_SameWorld_r2, c_ref35_SameWorld_r3, c_ref35_SameWorld_r4, c_ref35_SameWorld_r6, c_ref35_SameWorld_r7, c_ref35_SameWorld_r8, c_ref35_SameWorld_r10, c_ref35_SameWorld_r9, c_ref35_SameWorld_r11, c_ref35_SameWorld_r12, c_ref35_SameWorld_r5, c_ref35_SameWorld_r13]
  simp only [go_sem, Nat.reduceEqDiff, Nat.reduceBEq, Nat.reduceAdd, reduceCtorEq]
  refine vks_callp _ ?_ (fun hg => ⟨?_, fn24 hE wb.aname wb.atype wb.alife a1 b1 a3 b3 a4 b4 (by omega) (by omega) (by omega)⟩) ?_ <;> simp only [go_sem, Nat.reduceLeDiff, Nat.reduceEqDiff, Nat.reduceBEq, Nat.reduceAdd, binO, bne_self_eq_false]
  have hbx : ∀ k, k < n → SmallS (wb.zones.getD k default).sets := fun k hk => hsw.1.2 k (by omega)
  obtain ⟨FA, hFA⟩ : ∃ x, x = PV.box [ha1, .slice aa n ca, S wb.aname, .int .i64 wb.atype, .int .i64 wb.alife, da, ia] := ⟨_, rfl⟩
  refine vks_loopN n 0 (fun k => [(2, ⟨true, .box [ha1, .slice aa n ca, S wb.aname, .int .i64 wb.atype, .int .i64 wb.alife, da, ia]⟩), (3, ⟨true, .box [hb1, .slice ab n cb, S wb.aname, .int .i64 wb.atype, .int .i64 wb.alife, db, ib]⟩), (5, ⟨true, .val (.int .i64 k)⟩)]) (fun _ => True) (Nat.zero_le _) rfl trivial ?_
  intro i hi _
  by_cases hlt : i < n
  · have hd : decide ((i : Int) < (n : Int)) = true := by simpa using hlt
    have hrA' := hra (by omega)
    obtain ⟨bA, oA, vsA, cA, wrA, haA, hbA, hiA⟩ := hrA'
    subst haA
    have hrB' := hrb (by omega)
    obtain ⟨bB, oB, vsB, cB, wrB, haB, hbB, hiB⟩ := hrB'
    subst haB
    have hiA1 := (hiA i hlt).1
    have hiA2 := (hiA i hlt).2
    have hjA := take_of_take hiA2 1 2 (by omega)
    simp only [hd, go_sem, Nat.reduceLeDiff, Nat.reduceEqDiff, Nat.reduceBEq, Nat.reduceAdd, binO]
    refine vks_loopN n 0 (fun j => [(2, ⟨true, .box [ha1, .slice (some ⟨bA, oA, none⟩) n ca, S wb.aname, .int .i64 wb.atype, .int .i64 wb.alife, da, ia]⟩), (3, ⟨true, .box [hb1, .slice (some ⟨bB, oB, none⟩) n cb, S wb.aname, .int .i64 wb.atype, .int .i64 wb.alife, db, ib]⟩), (5, ⟨true, .val (.int .i64 i)⟩), (6, ⟨true, .val (.bool (anyN (fun j => (wa.zones.getD i default).key == (wb.zones.getD j default).key) j))⟩), (7, ⟨true, .val (.int .i64 j)⟩)]) (fun _ => True) (Nat.zero_le _) rfl trivial ?_
    intro j hj _
    by_cases hlj : j < n
    · have hdj : decide ((j : Int) < (n : Int)) = true := by simpa using hlj
      have hiB1 := (hiB j hlj).1
      have hiB2 := (hiB j hlj).2
      have hjB := take_of_take hiB2 1 2 (by omega)
      obtain ⟨fo, hfo⟩ : ∃ x, anyN (fun j => (wa.zones.getD i default).key == (wb.zones.getD j default).key) j = x := ⟨_, rfl⟩
      simp only [hfo, hdj, hbA, hbB, hiA2, hiB2, rPlaced, go_sem, Nat.reduceLeDiff, Nat.reduceEqDiff, Nat.reduceBEq, Nat.reduceAdd, reduceCtorEq, binO]
      refine ⟨fun h => ⟨h, h, by omega, by omega⟩, fun h => ⟨h, hiA1⟩, fun h => ⟨h, h, by omega, by omega⟩, fun h => ⟨h, hiB1⟩, ?_⟩
      refine vks_dcallp _ ?_ (fun hg => ⟨?_, fn25 hE (wa.zones.getD i default) (wb.zones.getD j default) (xa i) (xb j)⟩) ?_ ?_ <;> simp only [hbA, hbB, hjA, hjB, rPlaced, go_sem, Nat.reduceLeDiff, Nat.reduceEqDiff, Nat.reduceBEq, Nat.reduceAdd]
      · simp only [go_sem, Nat.reduceEqDiff] at hg ⊢; exact ⟨hg, hg⟩
      have h9 : ((wa.zones.getD i default).key == (wb.zones.getD j default).key) = true → FnP E 9 [.agg #[S (wa.zones.getD i default).apex, xa i], .agg #[S (wb.zones.getD j default).apex, xb j]] H (.bool true) := by
        intro hx
        have hp := hk i hlt j hlj (by simpa using hx)
        have h0 := hda i hlt
        rw [hp] at h0 ⊢
        exact fn9 hE (wb.zones.getD j default).apex h0 (hdb j hlj) (hbx j hlj)
      refine ⟨fun h => ⟨h, h, by omega, by omega⟩, fun h => ⟨h, by omega⟩, fun h => ⟨h, h, by omega, by omega⟩, fun h => ⟨h, by omega⟩, ?_⟩
      refine vks_dcallp (.bool true) ?_ (fun hg => ⟨?_, h9 (by simp only [go_sem, Nat.reduceEqDiff] at hg; simp only [Bool.and_eq_true] at hg; exact hg.2)⟩) ?_ ?_ <;> simp only [go_sem, Nat.reduceLeDiff, Nat.reduceEqDiff, Nat.reduceBEq, Nat.reduceAdd, binO]
      · simp only [go_sem, Nat.reduceEqDiff] at hg ⊢; exact ⟨hg, hg⟩
      · exact ⟨fun h => ⟨h, fun hx => by rw [h, hx]; rfl⟩, hlj, by rw [← hfo]; rfl, wrapS (by omega)⟩
    · have hdj : decide ((j : Int) < (n : Int)) = false := by simpa using hlj
      have hjn : j = n := by omega
      have hany : anyN (fun j => (wa.zones.getD i default).key == (wb.zones.getD j default).key) j = true := by
        obtain ⟨m, hm, em⟩ := hf i hlt
        exact anyN_true (k := m) (by omega) (by rw [em]; simp)
      simp only [hdj, hany, go_sem, Nat.reduceLeDiff, Nat.reduceEqDiff, Nat.reduceBEq, Nat.reduceAdd, reduceCtorEq, binO]
      exact ⟨hlt, wrapS (by omega)⟩
  · have hd : decide ((i : Int) < (n : Int)) = false := by simpa using hlt
    simp only [hd, go_sem, Nat.reduceLeDiff, Nat.reduceEqDiff, Nat.reduceBEq, Nat.reduceAdd, binO]
end Go.SL

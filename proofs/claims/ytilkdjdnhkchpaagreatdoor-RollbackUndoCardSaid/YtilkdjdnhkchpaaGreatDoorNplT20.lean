/- Contracts: rollback.Undo$1 and what it calls. -/
import Derived.Test.YtilkdjdnhkchpaaGreatDoorNplO
import Derived.Test.YtilkdjdnhkchpaaGreatDoorNplT19
import Derived.Test.YtilkdjdnhkchpaaGreatDoorNplT17
namespace Go.SL
open Go
variable {E : Env} {H : Hp}

theorem fn35 (hE : Codes E) (h : Int) (a : Bs) (z : Value) (_hz : one1 z = true) (kh : Int) (ka : Bs) {b c : Nat} {wr : Bool} (hb : H b = some (.row [.int .i64 kh, S ka] c wr)) : FnP E 35 [.agg #[.int .i64 h, S a, z], .pointer (some ⟨b, 0, none⟩)] H (.bool ((h, a) == (kh, ka))) := by
  refine Fn.of_vks hE.c35 (by simp [c_rollback_Undo_1_1]) ?_
  simp only [c_rollback_Undo_1_1, c_rollback_Undo_1_1_r0, c_rollback_Undo_1_1_r1]
  simp only [hb, aggEq, allEq, scalEq, go_sem, Nat.reduceLeDiff, Nat.reduceEqDiff, Nat.reduceBEq, Nat.reduceAdd, reduceCtorEq]
  simp
  rfl
theorem fn37 (hE : Codes E) {f v : Value} {zs : List PlacedD} {z : Nat → Value} (P : Nat → Bool) (h : SlAt H 3 v zs.length (rPlaced zs z)) (hf : ∀ i, i < zs.length → FnV E f [.agg #[.int .i64 (zs.getD i default).host, S (zs.getD i default).apex, z i]] H (fun u H' => u = .bool (P i) ∧ H' = H)) (hn : zs.length ≤ 1099511627775) :
    FnP E 37 [v, f] H (.int .i64 (firstN P zs.length)) := by
  obtain ⟨a, cap, rfl, hs, hr⟩ := h
  refine Fn.of_vks hE.c37 (by simp [c_slices_IndexFunc_Placed]) ?_
  simp only [c_slices_IndexFunc_Placed, c_slices_IndexFunc_Placed_r0, c_slices_IndexFunc_Placed_r1, c_slices_IndexFunc_Placed_r2, c_slices_IndexFunc_Placed_r3, c_slices_IndexFunc_Placed_r4, c_slices_IndexFunc_Placed_r5, c_slices_IndexFunc_Placed_r6, c_slices_IndexFunc_Placed_r7]
  simp only [go_sem, Nat.reduceEqDiff, Nat.reduceBEq, reduceCtorEq]
  refine vks_loopN zs.length 0 (fun k => [(0, ⟨true, .val (.slice a zs.length cap)⟩), (1, ⟨true, .val f⟩), (7, ⟨true, .val (.int .i64 zs.length)⟩), (8, ⟨true, .val (.int .i64 k)⟩)]) (fun k => firstN P k = -1) (Nat.zero_le _) rfl rfl ?_
  intro k hk hP
  by_cases hlt : k < zs.length
  · have hd : decide ((k : Int) < (zs.length : Int)) = true := by simpa using hlt
    have hr' := hr (by omega)
    obtain ⟨b, o, vs, c, wr, ha, hb, hi⟩ := hr'
    subst ha
    have hi1 := (hi k hlt).1
    have hi2 := (hi k hlt).2
    simp only [hd, hb, hi2, rPlaced, go_sem, Nat.reduceEqDiff, Nat.reduceBEq, reduceCtorEq, binO]
    refine ⟨⟨by omega, by omega⟩, hi1, ?_⟩
    refine vks_callv ?_ ?_ (hf k hlt) ?_
    · simp only [go_sem, Nat.reduceEqDiff, reduceCtorEq]
    · simp only [go_sem, Nat.reduceEqDiff, reduceCtorEq]
    rintro v H' ⟨rfl, rfl⟩
    simp only [go_sem, Nat.reduceEqDiff, Nat.reduceBEq, reduceCtorEq, binO]
    exact ⟨fun h1 => (firstN_stop hP h1 hlt).symm, fun h1 => ⟨hlt, wrapS (by omega), firstN_next hP h1⟩⟩
  · have hd : decide ((k : Int) < (zs.length : Int)) = false := by simpa using hlt
    have : k = zs.length := by omega
    simp only [hd, go_sem, Nat.reduceEqDiff, Nat.reduceBEq, reduceCtorEq, binO]
    rw [← this]; exact hP.symm
theorem fn36 (hE : Codes E) {f v : Value} {zs : List PlacedD} {z : Nat → Value} (P : Nat → Bool) (h : SlAt H 3 v zs.length (rPlaced zs z)) (hf : ∀ i, i < zs.length → FnV E f [.agg #[.int .i64 (zs.getD i default).host, S (zs.getD i default).apex, z i]] H (fun u H' => u = .bool (P i) ∧ H' = H)) (hn : zs.length ≤ 1099511627775) :
    FnP E 36 [v, f] H (.bool (anyN P zs.length)) := by
  refine Fn.of_vks hE.c36 (by simp [c_slices_ContainsFunc_Placed]) ?_
  simp only [c_slices_ContainsFunc_Placed, c_slices_ContainsFunc_Placed_r0, c_slices_ContainsFunc_Placed_r1]
  simp only [go_sem, Nat.reduceEqDiff, Nat.reduceBEq, reduceCtorEq]
  refine vks_callp _ ?_ (fun _ => ⟨?_, fn37 hE P h hf hn⟩) ?_ <;> simp only [go_sem, Nat.reduceEqDiff, Nat.reduceBEq, reduceCtorEq, binO]
  exact firstN_any _ _
theorem fn12 (hE : Codes E) {vp : Value} {ps : List PlacedD} (hp : PutsAt H vp ps) (hn : ps.length ≤ 1099511627775) (k : Pair) {b3 c3 : Nat} {wr : Bool} (hb3 : H b3 = some (.row [vp] c3 wr)) : FnP E 12 [encP k, .pointer (some ⟨b3, 0, none⟩)] H (.bool (anyN (fun i => (ps.getD i default).key == k) ps.length)) := by
  obtain ⟨z, hsl, hdeep⟩ := hp
  refine Fn.of_vks hE.c12 (by simp [c_rollback_Undo_1]) ?_
  simp only [c_rollback_Undo_1, c_rollback_Undo_1_r0, c_rollback_Undo_1_r1]
  simp only [go_sem, Nat.reduceEqDiff, Nat.reduceBEq, Nat.reduceAdd, reduceCtorEq]
  intro b2 hb2
  have hle : H.le (H.put b2 (.row [.int .i64 k.1, S k.2] 2 true)) := le_put hb2 _
  have hb3' := hle _ _ hb3
  have hb2' : (H.put b2 (.row [.int .i64 k.1, S k.2] 2 true)) b2 = some (.row [.int .i64 k.1, S k.2] 2 true) := Hp.put_same ..
  simp only [hb3', go_sem]
  refine vks_callp _ ?_ (fun _ => ⟨?_, fn36 hE (fun i => (ps.getD i default).key == k) (hsl.mono hle) (fun i hi => FnV_of_Fn hE.e35 (Fn.same (fn35 hE _ _ (z i) (by obtain ⟨d, g, h, _⟩ := hdeep i hi; exact SlAt.one h) k.1 k.2 hb2'))) hn⟩) ?_ <;> simp only [go_sem, Nat.reduceEqDiff, Nat.reduceBEq]
  exact hle
end Go.SL

/- Contract: rollback.Undo. -/
namespace Go.SL
open Go
variable {E : Env} {H : Hp}

/-- the first k puts of the stage that takes a stage back -/
def undoN (zs ps : List PlacedD) (k : Nat) : List PlacedD := (ps.take k).map (undoP zs ps)
theorem undoN_succ (zs ps : List PlacedD) {k : Nat} (hk : k < ps.length) : undoN zs ps (k + 1) = undoN zs ps k ++ [undoP zs ps (ps.getD k default)] := by
  have e : ps.take (k + 1) = ps.take k ++ [ps.getD k default] := by
    rw [List.take_add_one, List.getD_eq_getElem?_getD, List.getElem?_eq_getElem hk]; rfl
  simp only [undoN, e, List.map_append, List.map_cons, List.map_nil]
theorem servedN_lt (zs ps : List PlacedD) (q : Pair) : ∀ n i, mget q (servedN zs ps n) = some i → i < n
  | 0, i, h => by cases h
  | n + 1, i, h => by
    simp only [servedN] at h
    split at h
    · rw [mget_mput] at h
      split at h
      · cases h; omega
      · have := servedN_lt zs ps q n i h; omega
    · have := servedN_lt zs ps q n i h; omega
set_option maxHeartbeats 2000000 in
set_option maxRecDepth 100000 in
theorem fn3 (hE : Codes E) (hB : Base E H) {v vp : Value} {w : WorldD} {ps : List PlacedD} (hw : WorldAt H v w) (hp : PutsAt H vp ps) (hsw : SmallW w) (hsp : SmallP ps) :
    Fn E.P (E.fn 3) [v, .agg #[vp]] H (fun u H' => ∃ vu e, u = .tuple #[.agg #[vu], .int .i64 e] ∧ H.le H' ∧ (worldE w ps = 1 → e = 1 ∧ vu = .slice none 0 0) ∧ (worldE w ps ≠ 1 → e = 0 ∧ PutsAt H' vu (undoL w.zones ps))) := by
  have hw0 := hw
  obtain ⟨vh, vz, vd, vi, rfl, h1, h2, h3, h4⟩ := hw
  have hh1 := SlAt.one h1
  have hd1 := SlAt.one h3
  have hi1 := SlAt.one h4
  have hpp := hp
  obtain ⟨y, ⟨ap, cp, rfl, hspp, hrp⟩, hdp⟩ := hpp
  have hp1 : one1 (Value.slice ap ps.length cp) = true := rfl
  obtain ⟨z, ⟨az, cz, rfl, hsz, hrz⟩, hdz⟩ := h2
  refine Fn.of_vks hE.c3 (by simp [c_rollback_Undo]) ?_
  simp only [c_rollback_Undo, c_rollback_Undo_r0, c_rollback_Undo_r1, c_rollback_Undo_r2, c_rollback_Undo_r3, c_rollback_Undo_r4, c_rollback_Undo_r5, c_rollback_Undo_r6, c_rollback_Undo_r7, c_rollback_Undo_r8, c_rollback_Undo_r9, c_rollback_Undo_r10, c_rollback_Undo_r11, c_rollback_Undo_r12, c_rollback_Undo_r13, c_rollback_Undo_r14, c_rollback_Undo_r15, c_rollback_Undo_r16, c_rollback_Undo_r17, c_rollback_Undo_r18, c_rollback_Undo_r19, c_rollback_Undo_r20, c_rollback_Undo_r21, c_rollback_Undo_r22, c_rollback_Undo_r23]
  simp only [go_sem, Nat.reduceEqDiff, Nat.reduceBEq, Nat.reduceAdd, reduceCtorEq]
  intro b3 hb3
  have hle3 : H.le (H.put b3 (.row [.slice ap ps.length cp] 1 true)) := le_put hb3 _
  have hk3 : (H.put b3 (.row [.slice ap ps.length cp] 1 true)) b3 = some (.row [.slice ap ps.length cp] 1 true) := Hp.put_same ..
  simp only [hk3, go_sem]
  refine vks_call ?_ (fn4 hE (hB.mono hle3) (hw0.mono hle3) (hp.mono hle3) hsw hsp) ?_
  · simp only [go_sem, Nat.reduceEqDiff]
  rintro u H2 ⟨vw, rfl, hle2, hok, cs, rfl, hcs, hcs1⟩
  have hk3' := hle2 _ _ hk3
  simp only [hcs, hcs1, go_sem, Nat.reduceLT, Nat.reduceLeDiff, Nat.reduceEqDiff, Nat.reduceBEq, Nat.reduceAdd, binO]
  refine ⟨fun h => ?_, fun h b9 hb9 => ?_⟩
  · have h' : worldE w ps = 1 := by simpa using h
    exact ⟨_, _, rfl, hle3.trans hle2, fun _ => ⟨rfl, rfl⟩, fun hn => absurd h' hn⟩
  have hne : worldE w ps ≠ 1 := by simpa using h
  have hbz := hsw.1.1
  have hbp := hsp.1
  have hla := hle3.trans hle2
  have hpm : PutsAt H2 (.slice ap ps.length cp) ps := hp.mono hla
  have h93 : b9 ≠ b3 := (ne_of_none hk3' hb9).symm
  refine vks_loopP w.zones.length 0 (fun k fr' H' => fr' = [(3, ⟨true, .val (.pointer (some ⟨b3, 0, none⟩))⟩), (4, ⟨true, .box [.slice none 0 0]⟩), (8, ⟨true, .val (.func (.func (E.fn 12)) #[] #[.pointer (some ⟨b3, 0, none⟩)])⟩), (9, ⟨true, .val (.map (some b9))⟩), (31, ⟨true, .val (.slice az w.zones.length cz)⟩), (32, ⟨true, .val (.int .i64 w.zones.length)⟩), (33, ⟨true, .val (.int .i64 k)⟩)] ∧
      ∃ o9, H' = H2.put b9 o9 ∧ ∀ H0 : Hp, MapAt (H0.put b9 o9) b9 ((servedN w.zones ps k).map fun e => (encP e.1, .agg #[S (w.zones.getD e.2 default).apex, z e.2]))) (Nat.zero_le _) ⟨rfl, _, rfl, fun H0 => ⟨#[], 0, Hp.put_same .., rfl⟩⟩ ?_
  rintro k fr' H' hk ⟨rfl, o9, rfl, hM⟩
  have hle9 : H2.le (H2.put b9 o9) := le_put hb9 _
  by_cases hlt : k < w.zones.length
  · have hd : decide ((k : Int) < (w.zones.length : Int)) = true := by simpa using hlt
    have hr' := hrz (by omega)
    obtain ⟨b, o, vs, c, wr, ha, hb, hi⟩ := hr'
    subst ha
    have hb1 := (hla.trans hle9) _ _ hb
    have hi1' := (hi k hlt).1
    have hi2 := (hi k hlt).2
    have hzk := (hdz k hlt)
    have hz1 : one1 (z k) = true := by obtain ⟨d, g, h, _⟩ := hzk; exact SlAt.one h
    obtain ⟨x, hx⟩ : ∃ y, w.zones.getD k default = y := ⟨_, rfl⟩
    have hsv : servedN w.zones ps (k + 1) = if anyN (fun i => (ps.getD i default).key == x.key) ps.length then mput x.key k (servedN w.zones ps k) else servedN w.zones ps k := by rw [← hx]; rfl
    simp only [hd, hb1, hi2, rPlaced, hx, hz1, go_sem, Nat.reduceLeDiff, Nat.reduceEqDiff, Nat.reduceBEq, Nat.reduceAdd, binO]
    refine ⟨⟨by omega, by omega⟩, hi1', ?_⟩
    refine vks_callv ?_ ?_ (FnV_of_Fn hE.e12 (Fn.same (fn12 hE (hpm.mono hle9) (by omega) x.key (hle9 _ _ hk3')))) ?_
    · simp only [go_sem, Nat.reduceEqDiff]
    · simp only [go_sem, Nat.reduceEqDiff]
    rintro v H'' ⟨rfl, rfl⟩
    simp only [go_sem, Nat.reduceEqDiff, Nat.reduceBEq, Nat.reduceAdd, binO]
    refine ⟨fun hm => ?_, fun hm => ?_⟩
    · refine vks_upd (enc := encP) (encv := fun i => .agg #[S (w.zones.getD i default).apex, z i]) (l := servedN w.zones ps k) (b := b9) x.key k keyP (keyIsP _) ?_ ?_ ?_ ?_ ?_ ?_ (hM H2) ?_
      · simp only [go_sem, Nat.reduceEqDiff]
      · simp only [go_sem, Nat.reduceEqDiff]
      · simp only [go_sem, Nat.reduceEqDiff]
      · simp only [go_sem, Nat.reduceEqDiff]
      · simp only [go_sem, Nat.reduceEqDiff]; rfl
      · simp only [hx, go_sem, Nat.reduceEqDiff]
      intro o' hM'
      simp only [go_sem, Nat.reduceEqDiff, Nat.reduceBEq, binO]
      exact ⟨hlt, wrapS (by omega), o', rfl, fun H0 => by rw [hsv, hm]; exact hM' H0⟩
    · exact ⟨hlt, wrapS (by omega), o9, rfl, fun H0 => by rw [hsv, hm]; exact hM H0⟩
  · have hd : decide ((k : Int) < (w.zones.length : Int)) = false := by simpa using hlt
    have hkn : k = w.zones.length := by omega
    subst hkn
    have hk3'' := hle9 _ _ hk3'
    obtain ⟨H4, hH4⟩ : ∃ x, x = H2.put b9 o9 := ⟨_, rfl⟩
    have hM4 : MapAt H4 b9 ((servedN w.zones ps w.zones.length).map fun e => (encP e.1, .agg #[S (w.zones.getD e.2 default).apex, z e.2])) := by rw [hH4]; exact hM H2
    rw [← hH4] at hle9 hk3'' ⊢
    simp only [hd, hk3'', go_sem, Nat.reduceLeDiff, Nat.reduceEqDiff, Nat.reduceBEq, Nat.reduceAdd, binO]
    refine vks_loopP ps.length 0 (fun k fr' H' => ∃ v7, fr' = [(4, ⟨true, .box [.slice none 0 0]⟩), (9, ⟨true, .val (.map (some b9))⟩), (13, ⟨true, .box [v7]⟩), (52, ⟨true, .val (.slice ap ps.length cp)⟩), (53, ⟨true, .val (.int .i64 ps.length)⟩), (54, ⟨true, .val (.int .i64 k)⟩)] ∧
      Bld H4 H' v7 (undoN w.zones ps k)) (Nat.zero_le _) ⟨_, rfl, H4, z, Hp.le.refl _, Hp.le.refl _, (fun i hi => by simp [undoN] at hi), .inl ⟨rfl, rfl⟩⟩ ?_
    rintro k fr' H' hk ⟨v7, rfl, hBl⟩
    have hle1 := hBl.mono0
    have hMk : MapAt H' b9 ((servedN w.zones ps w.zones.length).map fun e => (encP e.1, .agg #[S (w.zones.getD e.2 default).apex, z e.2])) := by
      obtain ⟨es, cl, e1, e2⟩ := hM4
      exact ⟨es, cl, hle1 _ _ e1, e2⟩
    have hpa := hBl.puts
    obtain ⟨zz, hza, _⟩ := hpa
    obtain ⟨a7, c7, hv7, _⟩ := hza
    subst hv7
    have hlN : (undoN w.zones ps k).length ≤ ps.length := by simp [undoN]; omega
    by_cases hlt : k < ps.length
    · have hd : decide ((k : Int) < (ps.length : Int)) = true := by simpa using hlt
      have hr' := hrp (by omega)
      obtain ⟨b, o, vs, c, wr, ha, hb, hi⟩ := hr'
      subst ha
      have hb1 := ((hla.trans hle9).trans hle1) _ _ hb
      have hi1' := (hi k hlt).1
      have hi2 := (hi k hlt).2
      have hz1 : one1 (y k) = true := by obtain ⟨d, g, h, _⟩ := hdp k hlt; exact SlAt.one h
      have hus := undoN_succ w.zones ps hlt
      obtain ⟨x, hx⟩ : ∃ y, ps.getD k default = y := ⟨_, rfl⟩
      rw [hx] at hus
      simp only [hd, hb1, hi2, rPlaced, hx, hz1, go_sem, Nat.reduceLeDiff, Nat.reduceEqDiff, Nat.reduceBEq, Nat.reduceAdd, binO]
      refine ⟨⟨by omega, by omega⟩, hi1', ?_⟩
      refine vks_look (enc := encP) (encv := fun i => .agg #[S (w.zones.getD i default).apex, z i]) (l := servedN w.zones ps w.zones.length) (b := b9) x.key keyP (keyIsP _) ?_ ?_ ?_ ?_ hMk ?_
      · simp only [go_sem, Nat.reduceEqDiff]
      · simp only [go_sem, Nat.reduceEqDiff]
      · simp only [go_sem, Nat.reduceEqDiff]
      · simp only [go_sem, Nat.reduceEqDiff]; rfl
      cases hg : mget x.key (servedN w.zones ps w.zones.length) with
      | none =>
        have hup : undoP w.zones ps x = ⟨x.host, x.apex, []⟩ := by simp only [undoP, hg]
        simp only [Option.map_none, Option.isSome_none, go_sem, Nat.reduceLT, Nat.reduceEqDiff, Nat.reduceBEq, Nat.reduceAdd]
        intro bs hbs
        obtain ⟨G, hG⟩ := hBl
        refine vks_pushG (H0 := H4) (G := G) (bs := bs) (L := undoN w.zones ps k) (zv := .slice none 0 0) (v := .slice a7 (undoN w.zones ps k).length c7) (undoP w.zones ps x) ?_ ?_ ?_ ?_ ?_ ?_ (BldG.put hG hbs) (by omega) ?_
        · simp only [go_sem, Nat.reduceEqDiff]
        · simp only [go_sem, Nat.reduceEqDiff]
        · simp only [go_sem, Nat.reduceEqDiff]
        · simp only [go_sem, Nat.reduceEqDiff]
        · rw [hup]; exact Hp.put_same ..
        · rw [hup]; exact ⟨z, z, SlAt.nil, fun i hi => by simp at hi⟩
        rintro v' H5 hB'
        have hpa := hB'.puts
        obtain ⟨zz', hza, _⟩ := hpa
        obtain ⟨a8, c8, hv8, _⟩ := hza
        subst hv8
        simp only [go_sem, Nat.reduceEqDiff, Nat.reduceBEq, binO]
        exact ⟨hlt, _, ⟨rfl, wrapS (by omega)⟩, by rw [hus]; exact hB'⟩
      | some j =>
        have hup : undoP w.zones ps x = ⟨x.host, (w.zones.getD j default).apex, (w.zones.getD j default).sets⟩ := by simp only [undoP, hg]
        have hj := servedN_lt _ _ _ _ _ hg
        have hzj1 : one1 (z j) = true := by obtain ⟨d, g, h, _⟩ := hdz j hj; exact SlAt.one h
        simp only [Option.map_some, hzj1, go_sem, Nat.reduceLT, Nat.reduceEqDiff, Nat.reduceBEq, Nat.reduceAdd]
        obtain ⟨G, hG⟩ := hBl
        have hG0 := hG
        obtain ⟨zg, g1, g2, _⟩ := hG0
        refine vks_call ?_ (Fn.frame (fn13 hE (w.zones.getD j default).apex ((hdz j hj).mono ((hla.trans hle9).trans g1)) (hsw.1.2 j hj)) g2) ?_
        · simp only [go_sem, Nat.reduceEqDiff]
        rintro u H'' ⟨Hx, ⟨z', rfl, hlex, hset⟩, hlex2, hkeep⟩
        have hG2 : BldG H4 Hx H'' _ _ := BldG.frame hG hlex hlex2 hkeep
        have hz1' : one1 z' = true := by obtain ⟨d, g, h, _⟩ := hset; exact SlAt.one h
        simp only [hz1', go_sem, Nat.reduceEqDiff, Nat.reduceBEq, Nat.reduceAdd]
        intro bs hbs
        refine vks_pushG (H0 := H4) (G := Hx) (bs := bs) (L := undoN w.zones ps k) (zv := z') (v := .slice a7 (undoN w.zones ps k).length c7) (undoP w.zones ps x) ?_ ?_ ?_ ?_ ?_ ?_ (BldG.put hG2 hbs) (by omega) ?_
        · simp only [go_sem, Nat.reduceEqDiff]
        · simp only [go_sem, Nat.reduceEqDiff]
        · simp only [go_sem, Nat.reduceEqDiff]
        · simp only [go_sem, Nat.reduceEqDiff]
        · rw [hup]; exact Hp.put_same ..
        · rw [hup]; exact hset
        rintro v' H5 hB'
        have hpa := hB'.puts
        obtain ⟨zz', hza, _⟩ := hpa
        obtain ⟨a8, c8, hv8, _⟩ := hza
        subst hv8
        simp only [go_sem, Nat.reduceEqDiff, Nat.reduceBEq, binO]
        exact ⟨hlt, _, ⟨rfl, wrapS (by omega)⟩, by rw [hus]; exact hB'⟩
    · have hd : decide ((k : Int) < (ps.length : Int)) = false := by simpa using hlt
      have hkn : k = ps.length := by omega
      simp only [hd, go_sem, Nat.reduceLeDiff, Nat.reduceEqDiff, Nat.reduceBEq, Nat.reduceAdd, binO]
      refine ⟨_, _, rfl, (hla.trans hle9).trans hle1, fun h1 => absurd h1 hne, fun _ => ⟨rfl, ?_⟩⟩
      have hu : undoN w.zones ps k = undoL w.zones ps := by rw [hkn]; simp [undoN, undoL]
      have := hBl.puts
      rw [hu] at this ⊢
      exact this
end Go.SL

/- Contract: head returns true. -/
import Derived.Test.YtilkdjdnhkchpaaGreatDoorNplO
import Derived.Test.YtilkdjdnhkchpaaGreatDoorNplT31
namespace Go.SL
open Go
variable {E : Env} {H : Hp}

theorem smallExW : SmallW exW := by
  refine ⟨⟨by simp [exW], fun i hi => ?_⟩, by simp [exW], by simp [exW], by simp [exW]⟩
  match i, hi with
  | 0, _ => exact smallX 1
theorem smallExP : SmallP exP := by
  refine ⟨by simp [exP], fun i hi => ?_⟩
  match i, hi with
  | 0, _ => exact smallX 2
  | 1, _ => exact smallX 2
theorem smallEx3 : SmallP [⟨3, [120], setsX 2⟩] := by
  refine ⟨by simp, fun i hi => ?_⟩
  match i, hi with
  | 0, _ => exact smallX 2
theorem c2N : ((2 : Nat) : Int) = 2 := rfl
theorem c3N : ((3 : Nat) : Int) = 3 := rfl
theorem exa1 : exW.aname = [46] := rfl
theorem exa2 : exW.atype = 6 := rfl
theorem exa3 : exW.alife = 0 := rfl
/-- one element of a slice of copies -/
theorem rows_at {G : Hp} {a : Option Addr} {n c : Nat} {ps : List PlacedD} {z : Nat → Value} (h : SlAt G 3 (.slice a n c) ps.length (rPlaced ps z)) (hn : 0 < ps.length) :
    ∃ b o vs cc wr, a = some ⟨b, o, none⟩ ∧ G b = some (.row vs cc wr) ∧ ∀ i, i < ps.length → o + i * 3 + 3 ≤ vs.length ∧ vs.getD (o + i * 3) undef = .int .i64 (ps.getD i default).host ∧ (vs.drop (o + i * 3 + 1)).take 2 = [S (ps.getD i default).apex, z i] ∧
      vs.getD (o + i * 3 + 1) undef = S (ps.getD i default).apex ∧ vs.getD (o + i * 3 + 1 + 1) undef = z i := by
  obtain ⟨a', c', hv, _, hr⟩ := h
  cases hv
  obtain ⟨b, o, vs, cc, wr, ha, hb, hi⟩ := hr hn
  refine ⟨b, o, vs, cc, wr, ha, hb, fun i h => ⟨(hi i h).1, ?_, ?_, ?_, ?_⟩⟩
  · have := getD_of_take (hi i h).2 (j := 0) (by omega)
    simpa [rPlaced] using this
  · have := take_of_take (hi i h).2 1 2 (by omega)
    simpa [rPlaced] using this
  · have := getD_of_take (hi i h).2 (j := 1) (by omega)
    simpa [rPlaced] using this
  · have := getD_of_take (hi i h).2 (j := 2) (by omega)
    simpa [rPlaced] using this
theorem backEx (hE : Codes E) (h2 : Codes2 E) {G : Hp} (hB : Base E G) {hv vp : Value} (hh : HistAt G hv exH) (hp : PutsAt G vp exP) {bl : Nat} (hbl : G bl = some (.row [.int .i64 10, vp] 2 true)) :
    Fn E.P (E.fn 10) [hv, .slice (some ⟨bl, 0, none⟩) 1 1, .int .i64 0, .int .i64 5, .int .i64 50, .slice none 0 0] G (fun u H' => u = .tuple #[.slice none 0 0, .int .i64 0] ∧ G.le H') ∧
    Fn E.P (E.fn 10) [hv, .slice (some ⟨bl, 0, none⟩) 1 1, .int .i64 1, .int .i64 10, .int .i64 50, .slice none 0 0] G (fun u H' => u = .tuple #[.slice none 0 0, .int .i64 1] ∧ G.le H') ∧
    Fn E.P (E.fn 10) [hv, .slice (some ⟨bl, 0, none⟩) 1 1, .int .i64 2, .int .i64 20, .int .i64 50, .slice none 0 0] G (fun u H' => u = .tuple #[.slice none 0 0, .int .i64 1] ∧ G.le H') := by
  have hst : StepsAt G (.slice (some ⟨bl, 0, none⟩) 1 1) [⟨10, exP⟩] := by
    refine ⟨fun _ => vp, SlAt.lit hbl ?_, ?_⟩
    · intro i hi
      match i, hi with
      | 0, _ => exact ⟨by simp, rfl⟩
    · intro i hi
      match i, hi with
      | 0, _ => exact hp
  have hs0 : StepsAt G (.slice (some ⟨bl, 0, none⟩) 0 1) [] := ⟨fun _ => undef, ⟨_, _, rfl, (fun h => by cases h), fun h => absurd h (Nat.lt_irrefl 0)⟩, fun i hi => by simp at hi⟩
  have h48 : ∀ H', G.le H' → FnP E 48 [hv] H' (.bool true) := fun H' hl =>
    fn48 hE h2 (hB.mono hl) (hh.mono hl) (c := exC) rfl (by decide) (by decide) ex4 (by decide) (by decide) ex5
  have h28 : ∀ H', G.le H' → FnP E 28 [hv, .slice (some ⟨bl, 0, none⟩) 1 1] H' (.bool true) := fun H' hl => by
    have := fn28 hE (hB.mono hl) (hh.mono hl) (hst.mono hl) (h48 H' hl)
    have e : (true && stepsOKB exH.end_ exH.hosts.length [⟨10, exP⟩]) = true := ex6
    rw [e] at this
    exact this
  have h28' : ∀ H', G.le H' → FnP E 28 [hv, .slice (some ⟨bl, 0, none⟩) 0 1] H' (.bool true) := fun H' hl => by
    have := fn28 hE (hB.mono hl) (hh.mono hl) (hs0.mono hl) (h48 H' hl)
    have e : (true && stepsOKB exH.end_ exH.hosts.length []) = true := ex7
    rw [e] at this
    exact this
  have h72 : ∀ H', G.le H' → Fn E.P (E.fn 72) [hv, .slice (some ⟨bl, 0, none⟩) 0 1] H' (fun u H'' => ∃ vw, u = .tuple #[vw, .int .i64 0] ∧ H'.le H'' ∧ W9 vw) := fun H' hl =>
    fn72 hE h2 (hh.mono hl) (c := exC) rfl (hs0.mono hl) (h28' H' hl) (smallX 1) ⟨by decide, by decide, by decide⟩
  obtain ⟨vh, vc, vd, vi, rfl, g1, g2, g3, g4⟩ := hh
  have w9 : W9 (.agg #[vh, vc, S exH.aname, .int .i64 exH.atype, .int .i64 exH.alife, vd, vi, .int .i64 exH.drift, .int .i64 exH.end_]) := by
    refine ⟨[vh, vc, S exH.aname, .int .i64 exH.atype, .int .i64 exH.alife, vd, vi, .int .i64 exH.drift, .int .i64 exH.end_], rfl, rfl, ?_⟩
    simp [SlAt.one g1, CopiesAt.one g2, SlAt.one g3, SlAt.one g4, one1_int, one1_str]
  exact ⟨fn10ok hE h2 w9 ⟨_, _, _, _, _, _, _, _, rfl⟩ rfl hbl h28 h72, fn10bad hE ⟨_, _, _, _, _, _, _, _, rfl⟩ rfl hbl h28 (.inl ⟨rfl, rfl⟩), fn10bad hE ⟨_, _, _, _, _, _, _, _, rfl⟩ rfl hbl h28 (.inr ⟨rfl, rfl⟩)⟩
set_option maxHeartbeats 1000000 in
set_option maxRecDepth 100000 in
theorem fn0 (hE : Codes E) (h2 : Codes2 E) (h8 : ExampleOk E) (hB : Base E H) : FnP E 0 [] H (.bool true) := by
  refine Fn.of_vks hE.c0 (by simp [c_law40_head]) ?_
  simp only [c_law40_head, c_law40_head_r0, c_law40_head_r1]
  simp only [go_sem]
  refine vks_call ?_ (h8 H) ?_
  · simp only [go_sem]
  rintro u H1 ⟨vw, vp, rfl, hle1, hw, hp⟩
  have hw0 := hw
  obtain ⟨vh, vz, vd, vi, rfl, g1, g2, g3, g4⟩ := hw
  have hvh : ∃ a c, vh = .slice a 3 c := SlAt.sl g1
  obtain ⟨ah, ch, rfl⟩ := hvh
  have hvd : ∃ a c, vd = .slice a 1 c := SlAt.sl g3
  obtain ⟨ad, cd, rfl⟩ := hvd
  have hvi : ∃ a c, vi = .slice a 1 c := SlAt.sl g4
  obtain ⟨ai, ci, rfl⟩ := hvi
  have g2' := g2
  obtain ⟨zz, hzz, hzd⟩ := g2'
  have hvz : ∃ a c, vz = .slice a 1 c := SlAt.sl hzz
  obtain ⟨az, cz, rfl⟩ := hvz
  have hp' := hp
  obtain ⟨zp, hzp, hpd⟩ := hp'
  have hvp : ∃ a c, vp = .slice a 2 c := SlAt.sl hzp
  obtain ⟨ap, cp, rfl⟩ := hvp
  have hw1 : WorldAt H1 (.agg #[.slice ah 3 ch, .slice az 1 cz, S [46], .int .i64 6, .int .i64 0, .slice ad 1 cd, .slice ai 1 ci]) exW := hw0
  simp only [c_law40_head_r2, exa1, exa2, exa3, go_sem, Nat.reduceLT, Nat.reduceEqDiff, Nat.reduceBEq, Nat.reduceAdd]
  refine vks_call ?_ (fn3 hE (hB.mono hle1) hw1 hp smallExW smallExP) ?_
  · simp only [go_sem, Nat.reduceEqDiff]
  rintro u2 H2 ⟨vu, e, rfl, hle2, _, hu⟩
  have hu' := hu (by rw [ex1]; decide)
  have he := hu'.1
  subst he
  have hput := hu'.2
  rw [ex2] at hput
  obtain ⟨zu, hzu, hud⟩ := hput
  have hvu : ∃ a c, vu = .slice a 2 c := SlAt.sl hzu
  obtain ⟨au, cu, rfl⟩ := hvu
  have hru := rows_at hzu (by simp)
  obtain ⟨bu, ou, vu, ccu, wru, hau, hbu, hiu⟩ := hru
  subst hau
  have a0 := hiu 0 (by simp)
  have a1 := hiu 1 (by simp)
  simp only [List.getD_cons_zero, List.getD_cons_succ, Nat.zero_mul, Nat.add_zero, Nat.one_mul] at a0 a1
  have hrz := rows_at hzz (by simp [exW])
  obtain ⟨bz, oz, vz, ccz, wrz, haz, hbz, hiz⟩ := hrz
  subst haz
  have d0 := hiz 0 (by simp [exW])
  have exz : exW.zones.getD 0 default = ⟨1, [120], setsX 1⟩ := rfl
  simp only [exz, Nat.zero_mul, Nat.add_zero] at d0
  have hbz2 := hle2 _ _ hbz
  have hs0 : SetsAt H2 (zu 0) (setsX 1) := hud 0 (by simp)
  have hs1 : SetsAt H2 (zu 1) [] := hud 1 (by simp)
  have hsz : SetsAt H2 (zz 0) (setsX 1) := (hzd 0 (by simp [exW])).mono hle2
  have hzu1 : ∃ a c, zu 1 = .slice a 0 c := by obtain ⟨d, g, h, _⟩ := hs1; exact SlAt.sl h
  obtain ⟨x1, y1, hzu1⟩ := hzu1
  have o0 : one1 (zu 0) = true := by obtain ⟨d, g, h, _⟩ := hs0; exact SlAt.one h
  have oz0 : one1 (zz 0) = true := by obtain ⟨d, g, h, _⟩ := hsz; exact SlAt.one h
  have a10 := a1.2.2.2.2
  rw [hzu1] at a10
  have x5 : ((0 : Int) != 0) = false := rfl
  have x6 : ((2 : Int) != 2) = false := rfl
  have x7 : ((1 : Int) != 1) = false := rfl
  simp only [c_law40_head_r3, hbu, hbz2, a0.2.1, a0.2.2.1, a1.2.1, d0.2.2.1, c2N, c1N, x5, x6, x7, go_sem, Nat.reduceLT, Nat.reduceLeDiff, Nat.reduceEqDiff, Nat.reduceBEq, Nat.reduceAdd, Nat.reduceMul, Int.reduceToNat, Int.reduceLE, Int.reduceLT, binO]
  have la0 := a0.1
  have la1 := a1.1
  have ld0 := d0.1
  refine ⟨by omega, by omega, by omega, by omega, ?_⟩
  refine vks_dcallp (.bool true) ?_ (fun _ => ⟨?_, fn9 hE [120] hs0 hsz (smallX 1)⟩) ?_ ?_ <;> simp only [hbu, a1.2.2.2.1, a10, c2N, c1N, c0N, x5, x6, x7, go_sem, Nat.reduceLeDiff, Nat.reduceEqDiff, Nat.reduceBEq, Nat.reduceAdd, Nat.reduceMul, Int.reduceToNat, Int.reduceLE, Int.reduceLT, binO]
  refine ⟨by omega, by omega, ?_⟩
  simp only [c_law40_head_r5, hbz2, d0.2.2.1, c1N, vks_dmksl, vks_dst, go_sem, Nat.reduceLeDiff, Nat.reduceEqDiff, Nat.reduceBEq, Nat.reduceAdd, Int.reduceToNat, Int.reduceLE, Int.reduceEq, Int.reduceLT]
  refine ⟨by omega, ?_⟩
  intro bh hbh
  obtain ⟨H3, hH3⟩ : ∃ x, x = H2.put bh (.row [.int .i64 1, .int .i64 0, .int .i64 100, S [120], zz 0] 5 true) := ⟨_, rfl⟩
  rw [← hH3]
  have kh : H3 bh = some (.row [.int .i64 1, .int .i64 0, .int .i64 100, S [120], zz 0] 5 true) := by rw [hH3, Hp.put_same]
  have hle3 : H2.le H3 := by rw [hH3]; exact le_put hbh _
  have hle13 : H1.le H3 := hle2.trans hle3
  have hist : HistAt H3 (.agg #[.slice ah 3 ch, .slice (some ⟨bh, 0, none⟩) 1 1, S [46], .int .i64 6, .int .i64 0, .slice ad 1 cd, .slice ai 1 ci, .int .i64 0, .int .i64 100]) exH := by
    refine ⟨_, _, _, _, rfl, HostsAt.mono g1 hle13, ?_, DataAt.mono g3 hle13, IntsAt.mono g4 hle13⟩
    refine ⟨fun _ => zz 0, SlAt.lit kh ?_, ?_⟩
    · intro i hi
      match i, hi with
      | 0, _ => exact ⟨by simp, rfl⟩
    · intro i hi
      match i, hi with
      | 0, _ => exact hsz.mono hle3
  have hp3 : PutsAt H3 (.slice ap 2 cp) exP := hp.mono hle13
  have hB3 : Base E H3 := hB.mono (hle1.trans hle13)
  simp only [c_law40_head_r6, go_sem, Nat.reduceLeDiff, Nat.reduceEqDiff, Nat.reduceBEq, Nat.reduceAdd]
  intro bl hbl
  have e1 := le_put hbl (.row [.int .i64 10, .slice ap 2 cp] 2 true)
  refine vks_call ?_ (backEx hE h2 (hB3.mono e1) (hist.mono e1) (hp3.mono e1) (Hp.put_same ..)).1 ?_
  · simp only [go_sem, Nat.reduceEqDiff]
  rintro u4 H4 ⟨rfl, hle4⟩
  have f4 : H3.le H4 := e1.trans hle4
  simp only [c_law40_head_r7, go_sem, Nat.reduceLT, Nat.reduceLeDiff, Nat.reduceEqDiff, Nat.reduceBEq, Nat.reduceAdd]
  intro bl2 hbl2
  have e2 := f4.trans (le_put hbl2 (.row [.int .i64 10, .slice ap 2 cp] 2 true))
  refine vks_call ?_ (backEx hE h2 (hB3.mono e2) (hist.mono e2) (hp3.mono e2) (Hp.put_same ..)).2.1 ?_
  · simp only [go_sem, Nat.reduceEqDiff]
  rintro u5 H5 ⟨rfl, hle5⟩
  have f5 : H3.le H5 := e2.trans hle5
  simp only [c_law40_head_r8, go_sem, Nat.reduceLT, Nat.reduceLeDiff, Nat.reduceEqDiff, Nat.reduceBEq, Nat.reduceAdd]
  intro bl3 hbl3
  have e3 := f5.trans (le_put hbl3 (.row [.int .i64 10, .slice ap 2 cp] 2 true))
  refine vks_call ?_ (backEx hE h2 (hB3.mono e3) (hist.mono e3) (hp3.mono e3) (Hp.put_same ..)).2.2 ?_
  · simp only [go_sem, Nat.reduceEqDiff]
  rintro u6 H6 ⟨rfl, hle6⟩
  have f6 : H3.le H6 := e3.trans hle6
  have hrp := rows_at hzp (by simp [exP])
  obtain ⟨bp, op, vps, ccp, wrp, hap, hbp, hip⟩ := hrp
  subst hap
  have p0 := hip 0 (by simp [exP])
  have exp0 : exP.getD 0 default = ⟨1, [120], setsX 2⟩ := rfl
  simp only [exp0, Nat.zero_mul, Nat.add_zero] at p0
  have hbp6 := f6 _ _ (hle13 _ _ hbp)
  have hsp : SetsAt H6 (zp 0) (setsX 2) := ((hpd 0 (by simp [exP])).mono hle13).mono f6
  have op0 : one1 (zp 0) = true := by obtain ⟨d, g, h, _⟩ := hsp; exact SlAt.one h
  have lp0 := p0.1
  simp only [c_law40_head_r9, hbp6, p0.2.2.1, c2N, vks_dmksl, go_sem, Nat.reduceLT, Nat.reduceLeDiff, Nat.reduceEqDiff, Nat.reduceBEq, Nat.reduceAdd, Int.reduceToNat, Int.reduceLE, Int.reduceLT]
  refine ⟨by omega, ?_⟩
  intro bq hbq
  have e7 := le_put hbq (.row [.int .i64 3, S [120], zp 0] 3 true)
  have hpq : PutsAt (H6.put bq (.row [.int .i64 3, S [120], zp 0] 3 true)) (.slice (some ⟨bq, 0, none⟩) 1 1) [⟨3, [120], setsX 2⟩] := by
    refine ⟨fun _ => zp 0, SlAt.lit (Hp.put_same ..) ?_, ?_⟩
    · intro i hi
      match i, hi with
      | 0, _ => exact ⟨by simp, rfl⟩
    · intro i hi
      match i, hi with
      | 0, _ => exact hsp.mono e7
  have hle17 := (hle13.trans f6).trans e7
  refine vks_dcall ?_ (fn3 hE (hB.mono (hle1.trans hle17)) (hw1.mono hle17) hpq smallExW smallEx3) ?_
  · simp only [go_sem, Nat.reduceEqDiff]
  rintro u7 H7 ⟨vu7, e8, rfl, hle7, hbad, _⟩
  have hbad' := hbad ex3
  have hb1 := hbad'.1
  have hb2 := hbad'.2
  subst hb1 hb2
  have i00' : ((0 : Int) == 0) = true := rfl
  have i11 : ((1 : Int) == 1) = true := rfl
  simp only [c_law40_head_r10, c0N, i00', i11, vks_dst, go_sem, Nat.reduceLT, Nat.reduceLeDiff, Nat.reduceEqDiff, Nat.reduceBEq, Nat.reduceAdd, reduceCtorEq, Int.reduceToNat, Int.reduceLE, binO]
  exact (hle1.trans hle17).trans hle7
end Go.SL

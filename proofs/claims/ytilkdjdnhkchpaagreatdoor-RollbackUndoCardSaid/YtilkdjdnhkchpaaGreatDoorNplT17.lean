/- Contracts: steps.cloned. -/
import Derived.Test.YtilkdjdnhkchpaaGreatDoorNplO
import Derived.Test.YtilkdjdnhkchpaaGreatDoorNplT15
import Derived.Test.YtilkdjdnhkchpaaGreatDoorNplO4
namespace Go.SL
open Go
variable {E : Env} {H : Hp}

/-- sets with few data and signatures -/
def SmallS (ss : List SignedD) : Prop := ss.length ≤ 1099511627 ∧ ∀ i, i < ss.length → (ss.getD i default).data.length ≤ 1099511627 ∧ (ss.getD i default).sigs.length ≤ 1099511627
set_option maxHeartbeats 1000000 in
set_option maxRecDepth 100000 in
theorem fn20 (hE : Codes E) (apex : Bs) {v : Value} {ss : List SignedD} (hss : SetsAt H v ss) (hsm : SmallS ss) :
    Fn E.P (E.fn 20) [.agg #[S apex, v]] H (fun u H' => ∃ v', u = .agg #[S apex, v'] ∧ H.le H' ∧ SetsAt H' v' ss) := by
  obtain ⟨d, g, hsl, hdeep⟩ := hss
  have hv1 := SlAt.one hsl
  have hrl : ∀ (d g : Nat → Value) i, i < ss.length → (rSigned ss d g i).length = 5 := fun d g i _ => rfl
  refine Fn.of_vks hE.c20 (by simp [c_steps_cloned]) ?_
  simp only [c_steps_cloned, c_steps_cloned_r0, c_steps_cloned_r1, c_steps_cloned_r2, c_steps_cloned_r3, c_steps_cloned_r4, c_steps_cloned_r5, c_steps_cloned_r6, c_steps_cloned_r7, c_steps_cloned_r8]
  simp only [go_sem, Nat.reduceEqDiff, Nat.reduceBEq, Nat.reduceAdd, reduceCtorEq]
  refine vks_call ?_ (fn38 hE hsl (fun i hi => by simp [rSigned, one1_str, one1_int, SlAt.one (hdeep i hi).1, SlAt.one (hdeep i hi).2]) hsm.1) ?_
  · simp only [go_sem, Nat.reduceEqDiff]
  rintro u H1 hcl
  rcases hcl with ⟨rfl, hn0, rfl⟩ | ⟨b, cap, hb, rfl, rfl⟩
  · simp only [go_sem, Nat.reduceEqDiff, Nat.reduceBEq, Nat.reduceAdd]
    refine vks_loopN 0 0 (fun k => [(1, ⟨true, .box [S apex, .slice none 0 0]⟩), (2, ⟨true, .box [S [], .slice none 0 0]⟩), (10, ⟨true, .val (.int .i64 ((0 : Nat) : Int))⟩), (11, ⟨true, .val (.int .i64 k)⟩)]) (fun _ => True) (Nat.zero_le _) rfl trivial ?_
    intro k hk _
    have hk0 : k = 0 := by omega
    have hd : decide ((k : Int) < ((0 : Nat) : Int)) = false := by rw [decide_eq_false_iff_not]; omega
    simp only [hd, go_sem, Nat.reduceEqDiff, Nat.reduceBEq, Nat.reduceAdd, binO]
    refine ⟨_, rfl, d, g, ?_, fun i hi => by omega⟩
    rw [hn0]; exact SlAt.nil
  · simp only [go_sem, Nat.reduceEqDiff, Nat.reduceBEq, Nat.reduceAdd]
    refine vks_loopP ss.length 0 (fun k fr' H' => fr' = [(1, ⟨true, .box [S apex, .slice (some ⟨b, 0, none⟩) ss.length cap]⟩), (2, ⟨true, .box [S [], .slice none 0 0]⟩), (10, ⟨true, .val (.int .i64 ss.length)⟩), (11, ⟨true, .val (.int .i64 k)⟩)] ∧
      ∃ d' g', H.le (H'.del b) ∧ H' b = some (.row (flat ss.length (rSigned ss d' g')) (cap * 5) true) ∧ ∀ i, i < ss.length → DataAt (H'.del b) (d' i) (ss.getD i default).data ∧ SigsAt (H'.del b) (g' i) (ss.getD i default).sigs) (Nat.zero_le _)
      ⟨rfl, d, g, le_del hb (le_put hb _), Hp.put_same .., fun i hi => ⟨(hdeep i hi).1.mono (le_del hb (le_put hb _)), (hdeep i hi).2.mono (le_del hb (le_put hb _))⟩⟩ ?_
    rintro k fr' H' hk ⟨rfl, d', g', hle, hbr, hdp⟩
    by_cases hlt : k < ss.length
    · have hd : decide ((k : Int) < (ss.length : Int)) = true := by simpa using hlt
      have hfl := flat_len (hrl d' g')
      have hx3 := flat_getD (hrl d' g') hlt (j := 3) (by omega)
      have hkl : k * 5 + 5 ≤ ss.length * 5 := by omega
      simp only [hd, hbr, hx3, rSigned, go_sem, Nat.reduceEqDiff, Nat.reduceBEq, Nat.reduceAdd, binO]
      refine ⟨⟨by omega, by omega⟩, by omega, ?_⟩
      refine vks_dcall ?_ (fn22 hE ((hdp k hlt).1.mono (del_le _ _)) (hsm.2 k hlt).1) ?_
      · simp only [go_sem, Nat.reduceEqDiff]
      rintro u2 H2 hcl2
      have hu2 : DataAt (H2.del b) u2 (ss.getD k default).data := Cloned.atDel (row := rDatum (ss.getD k default).data) (sz := 3) (fun _ _ => rfl) hcl2 hbr
      have hue := hu2
      obtain ⟨au, cu, hue, _⟩ := hue
      subst hue
      have hle2 := Cloned.le hcl2
      have hbr2 := hle2 _ _ hbr
      obtain ⟨u2, hu2e⟩ : ∃ x, x = Value.slice au (ss.getD k default).data.length cu := ⟨_, rfl⟩
      have hs3 := (flat_splice (hrl d' g') hlt (j := 3) (by omega) (Value.slice au (ss.getD k default).data.length cu)).trans (rSigned_upd3 ss d' g' k ss.length (Value.slice au (ss.getD k default).data.length cu))
      rw [← hu2e] at hs3
      have hfl2 := flat_len (hrl (upd1 d' k u2) g')
      have hx4 := flat_getD (hrl (upd1 d' k u2) g') hlt (j := 4) (by omega)
      rw [hu2e] at hs3 hfl2 hx4
      simp only [hbr2, hfl, hs3, hfl2, hx4, rSigned, vks_dst, put_get, go_sem, Nat.reduceEqDiff, Nat.reduceBEq, Nat.reduceAdd]
      refine ⟨⟨by omega, by omega⟩, by omega, ⟨by omega, by omega⟩, by omega, ?_⟩
      rw [← hu2e]
      rw [← hu2e] at hu2
      have hdel : (H2.put b (AObj.row (flat ss.length (rSigned ss (upd1 d' k u2) g')) (cap * 5) true)).del b = H2.del b := put_del _ _ _
      have hg2 : SigsAt (H2.put b (AObj.row (flat ss.length (rSigned ss (upd1 d' k u2) g')) (cap * 5) true)) (g' k) (ss.getD k default).sigs := by
        refine ((hdp k hlt).2.mono (del_mono b hle2)).mono ?_
        rw [← hdel]; exact del_le _ _
      refine vks_dcall ?_ (fn39 hE hg2 (hsm.2 k hlt).2) ?_
      · simp only [go_sem, Nat.reduceEqDiff]
      rintro u3 H3 hcl3
      have hbr3 : (H2.put b (AObj.row (flat ss.length (rSigned ss (upd1 d' k u2) g')) (cap * 5) true)) b = some (AObj.row (flat ss.length (rSigned ss (upd1 d' k u2) g')) (cap * 5) true) := Hp.put_same ..
      have hu3 : SigsAt (H3.del b) u3 (ss.getD k default).sigs := Cloned.atDel (row := rSig (ss.getD k default).sigs) (sz := 6) (fun _ _ => rfl) hcl3 hbr3
      have hue := hu3
      obtain ⟨av, cv, hue, _⟩ := hue
      subst hue
      have hle3 := Cloned.le hcl3
      have hbr4 := hle3 _ _ hbr3
      have hs4 := (flat_splice (hrl (upd1 d' k u2) g') hlt (j := 4) (by omega) (Value.slice av (ss.getD k default).sigs.length cv)).trans (rSigned_upd4 ss (upd1 d' k u2) g' k ss.length (Value.slice av (ss.getD k default).sigs.length cv))
      have hfl3 := flat_len (hrl (upd1 d' k u2) g')
      simp only [hbr4, hfl3, hs4, vks_dst, go_sem, Nat.reduceEqDiff, Nat.reduceBEq, Nat.reduceAdd, binO]
      have hm3 : (H2.del b).le (H3.del b) := by rw [← hdel]; exact del_mono b hle3
      have hm2 := del_mono b hle2
      refine ⟨⟨by omega, by omega⟩, by omega, hlt, wrapS (by have := hsm.1; omega), _, _, ?_, Hp.put_same .., fun i hi => ?_⟩
      · rw [put_del]; exact (hle.trans hm2).trans hm3
      · rw [put_del]
        by_cases e : i = k
        · subst e
          simp only [upd1, if_true]
          exact ⟨hu2.mono hm3, hu3⟩
        · simp only [upd1, if_neg e]
          exact ⟨(hdp i hi).1.mono (hm2.trans hm3), (hdp i hi).2.mono (hm2.trans hm3)⟩
    · have hd : decide ((k : Int) < (ss.length : Int)) = false := by simpa using hlt
      simp only [hd, go_sem, Nat.reduceEqDiff, Nat.reduceBEq, Nat.reduceAdd, binO]
      exact ⟨_, rfl, hle.trans (del_le _ _), d', g', SlAt.ofRow (hrl d' g') hbr, fun i hi => ⟨(hdp i hi).1.mono (del_le _ _), (hdp i hi).2.mono (del_le _ _)⟩⟩
end Go.SL

/- Contract: rollback.copyZone. -/
namespace Go.SL
open Go
variable {E : Env} {H : Hp}

set_option maxHeartbeats 1000000 in
set_option maxRecDepth 100000 in
theorem fn13 (hE : Codes E) (apex : Bs) {v : Value} {ss : List SignedD} (hss : SetsAt H v ss) (hsm : SmallS ss) :
    Fn E.P (E.fn 13) [.agg #[S apex, v]] H (fun u H' => ∃ v', u = .agg #[S apex, v'] ∧ H.le H' ∧ SetsAt H' v' ss) := by
  obtain ⟨d, g, hsl, hdeep⟩ := hss
  have hv1 := SlAt.one hsl
  have hrl : ∀ (d g : Nat → Value) i, i < ss.length → (rSigned ss d g i).length = 5 := fun d g i _ => rfl
  refine Fn.of_vks hE.c13 (by simp [c_rollback_copyZone]) ?_
  simp only [c_rollback_copyZone, c_rollback_copyZone_r0, c_rollback_copyZone_r1, c_rollback_copyZone_r2, c_rollback_copyZone_r3, c_rollback_copyZone_r4, c_rollback_copyZone_r5, c_rollback_copyZone_r6, c_rollback_copyZone_r7, c_rollback_copyZone_r8, c_rollback_copyZone_r9]
  simp only [go_sem, Nat.reduceEqDiff, Nat.reduceBEq, Nat.reduceAdd, reduceCtorEq]
  refine vks_call ?_ (fn38 hE hsl (fun i hi => by simp [rSigned, one1_str, one1_int, SlAt.one (hdeep i hi).1, SlAt.one (hdeep i hi).2]) hsm.1) ?_
  · simp only [go_sem, Nat.reduceEqDiff]
  rintro u H1 hcl
  rcases hcl with ⟨rfl, hn0, rfl⟩ | ⟨b, cap, hb, rfl, rfl⟩
  · simp only [go_sem, Nat.reduceEqDiff, Nat.reduceBEq, Nat.reduceAdd]
    refine vks_loopN 0 0 (fun k => [(1, ⟨true, .box [S apex, .slice none 0 0]⟩), (2, ⟨true, .box [S [], .slice none 0 0]⟩), (11, ⟨true, .val (.int .i64 ((0 : Nat) : Int))⟩), (12, ⟨true, .val (.int .i64 k)⟩)]) (fun _ => True) (Nat.zero_le _) rfl trivial ?_
    intro k hk _
    have hk0 : k = 0 := by omega
    have hd : decide ((k : Int) < ((0 : Nat) : Int)) = false := by rw [decide_eq_false_iff_not]; omega
    simp only [hd, go_sem, Nat.reduceEqDiff, Nat.reduceBEq, Nat.reduceAdd, binO]
    refine ⟨_, rfl, d, g, ?_, fun i hi => by omega⟩
    rw [hn0]; exact SlAt.nil
  · simp only [go_sem, Nat.reduceEqDiff, Nat.reduceBEq, Nat.reduceAdd]
    refine vks_loopP ss.length 0 (fun k fr' H' => fr' = [(1, ⟨true, .box [S apex, .slice (some ⟨b, 0, none⟩) ss.length cap]⟩), (2, ⟨true, .box [S [], .slice none 0 0]⟩), (11, ⟨true, .val (.int .i64 ss.length)⟩), (12, ⟨true, .val (.int .i64 k)⟩)] ∧
      ∃ d' g', H.le (H'.del b) ∧ H' b = some (.row (flat ss.length (rSigned ss d' g')) (cap * 5) true) ∧ ∀ i, i < ss.length → DataAt (H'.del b) (d' i) (ss.getD i default).data ∧ SigsAt (H'.del b) (g' i) (ss.getD i default).sigs) (Nat.zero_le _)
      ⟨rfl, d, g, le_del hb (le_put hb _), Hp.put_same .., fun i hi => ⟨(hdeep i hi).1.mono (le_del hb (le_put hb _)), (hdeep i hi).2.mono (le_del hb (le_put hb _))⟩⟩ ?_
    rintro k fr' H' hk ⟨rfl, d', g', hle, hbr, hdp⟩
    by_cases hlt : k < ss.length
    · have hd : decide ((k : Int) < (ss.length : Int)) = true := by simpa using hlt
      have hfl := flat_len (hrl d' g')
      have hx3 := flat_getD (hrl d' g') hlt (j := 3) (by omega)
      have hkl : k * 5 + 5 ≤ ss.length * 5 := by omega
      simp only [hd, hbr, hx3, rSigned, go_sem, Nat.reduceEqDiff, Nat.reduceBEq, Nat.reduceAdd, binO]
      refine ⟨⟨by omega, by omega⟩, by omega, ?_⟩
      refine vks_call ?_ (fn22 hE ((hdp k hlt).1.mono (del_le _ _)) (hsm.2 k hlt).1) ?_
      · simp only [go_sem, Nat.reduceEqDiff]
      rintro u2 H2 hcl2
      have hu2 : DataAt (H2.del b) u2 (ss.getD k default).data := Cloned.atDel (row := rDatum (ss.getD k default).data) (sz := 3) (fun _ _ => rfl) hcl2 hbr
      have hue := hu2
      obtain ⟨au, cu, hue, _⟩ := hue
      subst hue
      have hle2 := Cloned.le hcl2
      have hbr2 := hle2 _ _ hbr
      obtain ⟨u2, hu2e⟩ : ∃ x, x = Value.slice au (ss.getD k default).data.length cu := ⟨_, rfl⟩
      have hs3 := (flat_splice (hrl d' g') hlt (j := 3) (by omega) (Value.slice au (ss.getD k default).data.length cu)).trans (rSigned_upd3 ss d' g' k ss.length (Value.slice au (ss.getD k default).data.length cu))
      rw [← hu2e] at hs3
      have hfl2 := flat_len (hrl (upd1 d' k u2) g')
      have hx4 := flat_getD (hrl (upd1 d' k u2) g') hlt (j := 4) (by omega)
      rw [hu2e] at hs3 hfl2 hx4
      simp only [hbr2, hfl, hs3, hfl2, hx4, rSigned, put_get, go_sem, Nat.reduceEqDiff, Nat.reduceBEq]
      refine ⟨by omega, by omega, ?_⟩
      rw [← hu2e]
      rw [← hu2e] at hu2
      have hdel : (H2.put b (AObj.row (flat ss.length (rSigned ss (upd1 d' k u2) g')) (cap * 5) true)).del b = H2.del b := put_del _ _ _
      have hg2 : SigsAt (H2.put b (AObj.row (flat ss.length (rSigned ss (upd1 d' k u2) g')) (cap * 5) true)) (g' k) (ss.getD k default).sigs := by
        refine ((hdp k hlt).2.mono (del_mono b hle2)).mono ?_
        rw [← hdel]; exact del_le _ _
      refine vks_call ?_ (fn39 hE hg2 (hsm.2 k hlt).2) ?_
      · simp only [go_sem, Nat.reduceEqDiff]
      rintro u3 H3 hcl3
      have hbr3 : (H2.put b (AObj.row (flat ss.length (rSigned ss (upd1 d' k u2) g')) (cap * 5) true)) b = some (AObj.row (flat ss.length (rSigned ss (upd1 d' k u2) g')) (cap * 5) true) := Hp.put_same ..
      have hu3 : SigsAt (H3.del b) u3 (ss.getD k default).sigs := Cloned.atDel (row := rSig (ss.getD k default).sigs) (sz := 6) (fun _ _ => rfl) hcl3 hbr3
      have hue := hu3
      obtain ⟨av, cv, hue, _⟩ := hue
      subst hue
      have hle3 := Cloned.le hcl3
      have hbr4 := hle3 _ _ hbr3
      have hs4 := (flat_splice (hrl (upd1 d' k u2) g') hlt (j := 4) (by omega) (Value.slice av (ss.getD k default).sigs.length cv)).trans (rSigned_upd4 ss (upd1 d' k u2) g' k ss.length (Value.slice av (ss.getD k default).sigs.length cv))
      have hfl3 := flat_len (hrl (upd1 d' k u2) g')
      simp only [hbr4, hfl3, hs4, go_sem, Nat.reduceEqDiff, Nat.reduceBEq, binO]
      have hm3 : (H2.del b).le (H3.del b) := by rw [← hdel]; exact del_mono b hle3
      have hm2 := del_mono b hle2
      refine ⟨by omega, hlt, wrapS (by have := hsm.1; omega), _, _, ?_, Hp.put_same .., fun i hi => ?_⟩
      · rw [put_del]; exact (hle.trans hm2).trans hm3
      · rw [put_del]
        by_cases e : i = k
        · subst e
          simp only [upd1, if_true]
          exact ⟨hu2.mono hm3, hu3⟩
        · simp only [upd1, if_neg e]
          exact ⟨(hdp i hi).1.mono (hm2.trans hm3), (hdp i hi).2.mono (hm2.trans hm3)⟩
    · have hd : decide ((k : Int) < (ss.length : Int)) = false := by simpa using hlt
      simp only [hd, go_sem, Nat.reduceEqDiff, Nat.reduceBEq, Nat.reduceAdd, binO]
      exact ⟨_, rfl, hle.trans (del_le _ _), d', g', SlAt.ofRow (hrl d' g') hbr, fun i hi => ⟨(hdp i hi).1.mono (del_le _ _), (hdp i hi).2.mono (del_le _ _)⟩⟩
end Go.SL

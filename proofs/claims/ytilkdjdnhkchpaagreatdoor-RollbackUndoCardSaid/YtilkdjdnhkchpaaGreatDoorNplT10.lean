/- Contract of zone.lay. -/
import Derived.Test.YtilkdjdnhkchpaaGreatDoorNplO
import Derived.Test.YtilkdjdnhkchpaaGreatDoorNplT5
import Derived.Test.YtilkdjdnhkchpaaGreatDoorNplT8
namespace Go.SL
open Go
variable {E : Env} {H : Hp}

def behRow (apex : Bs) (ss : List SignedD) (k : Nat) : List Value := (List.range ss.length).map fun i => if i < k then S (behind apex ss i) else S []
theorem behRow_zero (apex : Bs) (ss : List SignedD) : behRow apex ss 0 = rep [S []] ss.length := by
  apply List.ext_getElem?
  intro i
  rw [rep_getElem?]
  simp only [behRow, List.getElem?_map]
  by_cases h : i < ss.length <;> simp [h]
theorem behRow_len (apex : Bs) (ss : List SignedD) (k : Nat) : (behRow apex ss k).length = ss.length := by simp [behRow]
theorem behRow_succ (apex : Bs) (ss : List SignedD) {k : Nat} (hk : k < ss.length) : (behRow apex ss k).take k ++ S (behind apex ss k) :: (behRow apex ss k).drop (k + 1) = behRow apex ss (k + 1) := by
  apply List.ext_getElem?
  intro i
  simp only [behRow]
  rcases Nat.lt_trichotomy i k with h | h | h
  · rw [List.getElem?_append_left (by simp; omega)]
    have hl : i < ss.length := by omega
    simp [h, show i < k + 1 by omega, hl]
  · subst h
    rw [List.getElem?_append_right (by simp; omega)]
    simp [Nat.min_eq_left (Nat.le_of_lt hk), hk]
  · rw [List.getElem?_append_right (by simp; omega)]
    simp only [List.length_take, List.length_map, List.length_range, Nat.min_eq_left (Nat.le_of_lt hk)]
    obtain ⟨j, rfl⟩ : ∃ j, i = k + 1 + j := ⟨i - (k + 1), by omega⟩
    have e : k + 1 + j - k = j + 1 := by omega
    rw [e, List.getElem?_cons_succ, List.getElem?_drop]
    by_cases hl : k + 1 + j < ss.length <;> simp [hl, show ¬ (k + 1 + j < k) by omega, show ¬ (k + 1 + j < k + 1) by omega]
abbrev eS (e : Bs × Bool) : Value × Value := (S e.1, .bool e.2)
set_option maxHeartbeats 1000000 in
set_option maxRecDepth 100000 in
theorem fn59 (hE : Codes E) (apex : Bs) {v : Value} {ss : List SignedD} (hss : SetsAt H v ss) (hn : ss.length ≤ 1099511627775) :
    Fn E.P (E.fn 59) [.agg #[S apex, v]] H (fun u H' => ∃ w, u = .agg #[S apex, v, w] ∧ H.le H' ∧ BehAt H' w ss.length (behind apex ss)) := by
  obtain ⟨d, g, ⟨a, cap, rfl, hs, hr⟩, hdeep⟩ := hss
  refine Fn.of_vks hE.c59 (by simp [c_zone_lay]) ?_
  simp only [c_zone_lay, c_zone_lay_r0, c_zone_lay_r1, c_zone_lay_r2, c_zone_lay_r3, c_zone_lay_r4, c_zone_lay_r5, c_zone_lay_r6, c_zone_lay_r7, c_zone_lay_r8, c_zone_lay_r9, c_zone_lay_r10, c_zone_lay_r11, c_zone_lay_r12, c_zone_lay_r13, c_zone_lay_r14, c_zone_lay_r15, c_zone_lay_r16, c_zone_lay_r17, c_zone_lay_r18, c_zone_lay_r19, c_zone_lay_r20, c_zone_lay_r21, c_zone_lay_r22]
  simp only [go_sem, Nat.reduceEqDiff, Nat.reduceBEq, Nat.reduceAdd, reduceCtorEq]
  intro b3 hb3
  refine vks_loopP ss.length 0 (fun k fr' H' => fr' = [(1, ⟨true, .box [S apex, .slice a ss.length cap]⟩), (2, ⟨true, .box [S [], .slice none 0 0, .slice none 0 0]⟩), (3, ⟨true, .val (.map (some b3))⟩), (16, ⟨true, .val (.slice a ss.length cap)⟩), (17, ⟨true, .val (.int .i64 ss.length)⟩), (18, ⟨true, .val (.int .i64 k)⟩)] ∧
      ∃ o, H' = H.put b3 o ∧ ∀ H0 : Hp, MapAt (H0.put b3 o) b3 ((cutsN apex ss k).map fun e => (S e.1, .bool e.2))) (Nat.zero_le _) ⟨rfl, _, rfl, fun H0 => ⟨#[], 0, Hp.put_same .., rfl⟩⟩ ?_
  rintro k fr' H' hk ⟨rfl, om, rfl, hM⟩
  by_cases hlt : k < ss.length
  · have hd : decide ((k : Int) < (ss.length : Int)) = true := by simpa using hlt
    have hr' := hr (by omega)
    obtain ⟨b, o, vs, c, wr, ha, hb, hi⟩ := hr'
    subst ha
    have hb1 : (H.put b3 om) b = some (.row vs c wr) := le_put hb3 _ _ _ hb
    have hi1 := (hi k hlt).1
    have hi2 := (hi k hlt).2
    have hd1 := SlAt.one (hdeep k hlt).1
    have hg1 := SlAt.one (hdeep k hlt).2
    obtain ⟨sk, hsk⟩ : ∃ x, ss.getD k default = x := ⟨_, rfl⟩
    have hsk' : sAt ss k = sk := hsk
    simp only [hd, hb1, hi2, rSigned, hsk, hd1, hg1, go_sem, Nat.reduceLeDiff, Nat.reduceEqDiff, Nat.reduceBEq, Nat.reduceAdd, binO]
    have hcs : cutsN apex ss (k + 1) = if sk.type = 2 ∧ sk.name ≠ apex then mput sk.name true (cutsN apex ss k) else cutsN apex ss k := by simp only [cutsN, hsk']
    refine ⟨⟨by omega, by omega⟩, hi1, fun h => ⟨h, h⟩, fun h => ?_, fun h => ?_⟩
    · have hc : sk.type = 2 ∧ sk.name ≠ apex := by simpa using h
      refine vks_upd (enc := fun x => S x) (encv := fun b => .bool b) (l := cutsN apex ss k) (b := b3) sk.name true keyS trivial ?_ ?_ ?_ ?_ ?_ ?_ (hM H) ?_
      · simp only [go_sem, Nat.reduceEqDiff]
      · simp only [go_sem, Nat.reduceEqDiff]
      · simp only [go_sem]
      · simp only [go_sem, Nat.reduceEqDiff]
      · simp only [go_sem, Nat.reduceEqDiff]
      · simp only [go_sem]
      · intro o' hM'
        simp only [go_sem, Nat.reduceEqDiff, Nat.reduceBEq, binO]
        refine ⟨hlt, wrapS (by omega), o', rfl, fun H0 => ?_⟩
        rw [hcs, if_pos hc]; exact hM' H0
    · have hc : ¬ (sk.type = 2 ∧ sk.name ≠ apex) := by simpa using h
      exact ⟨hlt, wrapS (by omega), om, rfl, fun H0 => by rw [hcs, if_neg hc]; exact hM H0⟩
  · have hd : decide ((k : Int) < (ss.length : Int)) = false := by simpa using hlt
    have hkn : k = ss.length := by omega
    subst hkn
    simp only [hd, vks_dmk, vks_dst, go_sem, Nat.reduceLeDiff, Nat.reduceEqDiff, Nat.reduceBEq, Nat.reduceAdd, binO]
    refine ⟨by omega, by omega, by omega, by omega, fun b5 hb5 => ?_⟩
    have h53 : b5 ≠ b3 := by rintro rfl; simp [put_get] at hb5
    have hb50 : H b5 = none := by simpa [put_get, h53] using hb5
    have hHeq : ((H.put b3 om).put b5 (AObj.row (rep [Value.string { data := #[] }] ss.length) (ss.length * 1) true)) = ((H.put b3 om).put b5 (AObj.row (behRow apex ss 0) (ss.length * 1) true)) := by rw [behRow_zero]
    rw [hHeq]
    refine vks_loopP ss.length 0 (fun k fr' H' => fr' = [(2, ⟨true, .box [S [], .slice none 0 0, .slice none 0 0]⟩), (3, ⟨true, .val (.map (some b3))⟩), (6, ⟨true, .box [S apex, .slice a ss.length cap, .slice (some ⟨b5, 0, none⟩) ss.length ss.length]⟩), (7, ⟨true, .val (S (cutN apex ss k))⟩), (49, ⟨true, .val (.slice a ss.length cap)⟩), (50, ⟨true, .val (.int .i64 ss.length)⟩), (51, ⟨true, .val (.int .i64 k)⟩)] ∧
      H' = (H.put b3 om).put b5 (AObj.row (behRow apex ss k) (ss.length * 1) true)) (Nat.zero_le _) ⟨rfl, rfl⟩ ?_
    rintro k fr' H' hk ⟨rfl, rfl⟩
    have hle3 : H.le ((H.put b3 om).put b5 (AObj.row (behRow apex ss k) (ss.length * 1) true)) := le_put_of_le (le_put hb3 _) hb50 _
    have hkb : ((H.put b3 om).put b5 (AObj.row (behRow apex ss k) (ss.length * 1) true)) b5 = some (AObj.row (behRow apex ss k) (ss.length * 1) true) := Hp.put_same ..
    by_cases hlt : k < ss.length
    · have hd : decide ((k : Int) < (ss.length : Int)) = true := by simpa using hlt
      have hr' := hr (by omega)
      obtain ⟨b, o, vs, c, wr, ha, hb, hi⟩ := hr'
      subst ha
      have hb1 := hle3 _ _ hb
      have hi1 := (hi k hlt).1
      have hi2 := (hi k hlt).2
      have hd1 := SlAt.one (hdeep k hlt).1
      have hg1 := SlAt.one (hdeep k hlt).2
      have hrl := behRow_len apex ss k
      have hsu := behRow_succ apex ss hlt
      have hMk : MapAt ((H.put b3 om).put b5 (AObj.row (behRow apex ss k) (ss.length * 1) true)) b3 ((cutsN apex ss ss.length).map fun e => (S e.1, .bool e.2)) := by
        obtain ⟨es, cl, h1, h2⟩ := hM H
        exact ⟨es, cl, by rw [put_get, if_neg h53.symm]; exact h1, h2⟩
      obtain ⟨sk, hsk⟩ : ∃ x, ss.getD k default = x := ⟨_, rfl⟩
      have hsk' : sAt ss k = sk := hsk
      have hcs : cutN apex ss (k + 1) = cutStep (cutsN apex ss ss.length) (cutN apex ss k) sk.name := by simp only [cutN, hsk']
      have hbe : behind apex ss k = cutN apex ss (k + 1) := rfl
      rw [hbe] at hsu
      obtain ⟨cu, hcu⟩ : ∃ x, cutN apex ss k = x := ⟨_, rfl⟩
      obtain ⟨cn, hcn⟩ : ∃ x, cutN apex ss (k + 1) = x := ⟨_, rfl⟩
      rw [hcu, hcn] at hcs
      rw [hcn] at hsu
      rw [hcu]
      have hv : ((mget sk.name (cutsN apex ss ss.length)).map (fun b => Value.bool b)).getD (.bool false) = .bool ((mget sk.name (cutsN apex ss ss.length)).getD false) := by
        cases mget sk.name (cutsN apex ss ss.length) <;> rfl
      have fin : ∀ x : Bs, x = cn → ((0 : Int) ≤ (k : Int) ∧ (k : Int) < (ss.length : Int)) ∧ (match ((H.put b3 om).put b5 (AObj.row (behRow apex ss k) ss.length true)) b5 with
          | some (AObj.row vs cap true) => k + 1 ≤ vs.length ∧ k < ss.length ∧ (S x = S cn ∧ IntKind.i64.wrap ((k : Int) + 1) = ((k + 1 : Nat) : Int)) ∧
              (H.put b3 om).put b5 (AObj.row (List.take k vs ++ [S x] ++ List.drop (k + 1) vs) cap true) = (H.put b3 om).put b5 (AObj.row (behRow apex ss (k + 1)) ss.length true)
          | _ => False) := by
        intro x hx
        subst hx
        refine ⟨⟨by omega, by omega⟩, ?_⟩
        rw [Hp.put_same]
        refine ⟨by omega, hlt, ⟨rfl, wrapS (by omega)⟩, ?_⟩
        rw [← hsu, List.append_assoc]; rfl
      by_cases hc0 : cu = []
      · subst hc0
        simp only [hd, hb1, hi2, rSigned, hsk, hd1, hg1, go_sem, Nat.reduceLeDiff, Nat.reduceEqDiff, Nat.reduceBEq, Nat.reduceAdd, binO]
        refine ⟨⟨by omega, by omega⟩, hi1, ?_⟩
        refine vks_useB (by intro x h; cases h) (by intro f a h; cases h) ?_ ?_ ?_
        · simp only [go_sem, Nat.reduceEqDiff]
        · simp only [go_sem, Nat.reduceEqDiff]
        refine vks_look (enc := fun x => S x) (encv := fun b => .bool b) (l := cutsN apex ss ss.length) (b := b3) sk.name keyS trivial ?_ ?_ ?_ ?_ hMk ?_
        · simp only [go_sem, Nat.reduceEqDiff]
        · simp only [go_sem, Nat.reduceEqDiff]
        · simp only [go_sem, Nat.reduceEqDiff]
        · simp only [go_sem, Nat.reduceEqDiff]
        rw [hv]
        simp only [hcn, go_sem, Nat.reduceEqDiff, Nat.reduceBEq, Nat.reduceAdd, binO, Nat.mul_one]
        exact ⟨fun hm => fin _ (by rw [hcs]; simp [cutStep, hm]), fun hm => fin _ (by rw [hcs]; simp [cutStep, hm])⟩
      · have hcb : (cu == []) = false := by simpa using hc0
        simp only [hd, hb1, hi2, rSigned, hsk, hd1, hg1, hcb, go_sem, Nat.reduceLeDiff, Nat.reduceEqDiff, Nat.reduceBEq, Nat.reduceAdd, binO]
        refine ⟨⟨by omega, by omega⟩, hi1, ?_⟩
        refine vks_callp _ ?_ (fun _ => ⟨?_, fn80 hE sk.name cu⟩) ?_ <;> simp only [hcb, go_sem, Nat.reduceLT, Nat.reduceEqDiff, Nat.reduceBEq, Nat.reduceAdd, binO]
        refine ⟨fun hu => ?_, fun hu => ?_⟩
        · refine vks_useB (by intro x h; cases h) (by intro f a h; cases h) ?_ ?_ ?_
          · simp only [go_sem, Nat.reduceEqDiff]
          · simp only [go_sem, Nat.reduceEqDiff]
          refine vks_look (enc := fun x => S x) (encv := fun b => .bool b) (l := cutsN apex ss ss.length) (b := b3) sk.name keyS trivial ?_ ?_ ?_ ?_ hMk ?_
          · simp only [go_sem, Nat.reduceEqDiff]
          · simp only [go_sem, Nat.reduceEqDiff]
          · simp only [go_sem, Nat.reduceEqDiff]
          · simp only [go_sem, Nat.reduceEqDiff]
          rw [hv]
          simp only [hcn, go_sem, Nat.reduceEqDiff, Nat.reduceBEq, Nat.reduceAdd, binO, Nat.mul_one]
          exact ⟨fun hm => fin _ (by rw [hcs]; simp [cutStep, hm, hc0, hu]), fun hm => fin [] (by rw [hcs]; simp [cutStep, hm, hc0, hu])⟩
        · refine vks_skipB (by intro x h; cases h) (by intro f a h; cases h) ?_ ?_ ?_
          · simp only [go_sem, Nat.reduceEqDiff]
          · simp only [go_sem, Nat.reduceEqDiff]
          simp only [hcn, go_sem, Nat.reduceEqDiff, Nat.reduceBEq, Nat.reduceAdd, binO, Nat.mul_one, ↓simT_pick_f]
          exact fin _ (by rw [hcs]; simp [cutStep, hc0, hu])
    · have hd : decide ((k : Int) < (ss.length : Int)) = false := by simpa using hlt
      have hkn : k = ss.length := by omega
      simp only [hd, go_sem, Nat.reduceEqDiff, Nat.reduceBEq, Nat.reduceAdd, reduceCtorEq, binO]
      refine ⟨_, rfl, hle3, ?_⟩
      refine ⟨_, _, rfl, (fun h => by cases h), fun _ => ⟨b5, 0, _, _, _, rfl, hkb, fun i hi => ?_⟩⟩
      have hrl := behRow_len apex ss k
      refine ⟨by omega, ?_⟩
      rw [hkn]
      apply List.ext_getElem?
      intro j
      simp only [behRow, List.getElem?_take, List.getElem?_drop]
      cases j with
      | zero => simp [hi]
      | succ j => simp
end Go.SL

/- Contract of zone.Valid. -/
namespace Go.SL
open Go
variable {E : Env} {H : Hp}

theorem ordered_len {apex : Bs} {ss : List SignedD} (h : orderedB apex ss = true) : ss.length ≤ 20000 := by
  simp only [orderedB, Bool.and_eq_true, Bool.not_eq_true', Bool.or_eq_false_iff, decide_eq_false_iff_not] at h
  omega
set_option maxHeartbeats 1000000 in
theorem fn43 (hE : Codes E) (hB : Base E H) (apex : Bs) {v : Value} {ss : List SignedD} (hss : SetsAt H v ss) : FnP E 43 [.agg #[S apex, v]] H (.bool (zoneValid apex ss)) := by
  have ho1 : one1 v = true := by obtain ⟨d, g, h, _⟩ := hss; exact SlAt.one h
  refine Fn.of_vks hE.c43 (by simp [c_zone_Valid]) ?_
  simp only [c_zone_Valid, c_zone_Valid_r0, c_zone_Valid_r1, c_zone_Valid_r2, c_zone_Valid_r3, c_zone_Valid_r4, c_zone_Valid_r5]
  simp only [ho1, go_sem, Nat.reduceEqDiff, Nat.reduceBEq, Nat.reduceAdd, reduceCtorEq]
  refine vks_callp _ ?_ (fun _ => ⟨?_, fn57 hE hB apex hss⟩) ?_ <;> simp only [go_sem, Nat.reduceEqDiff, Nat.reduceBEq, Nat.reduceAdd]
  refine vks_callp (.bool (apexHoldsB apex ss)) ?_ (fun hg => ⟨?_, ?_⟩) ?_
  · simp only [go_sem, Nat.reduceEqDiff]
  · simp only [go_sem, Nat.reduceEqDiff] at hg ⊢; exact hg
  · simp only [go_sem, Nat.reduceEqDiff] at hg
    exact fn58 hE apex hss (by have := ordered_len hg; omega)
  simp only [go_sem, Nat.reduceEqDiff, Nat.reduceBEq, Nat.reduceAdd]
  refine ⟨fun h => ?_, fun h => ?_⟩
  · have : (orderedB apex ss && apexHoldsB apex ss) = false := by
      cases hx : orderedB apex ss <;> cases hy : apexHoldsB apex ss <;> simp_all
    simp only [zoneValid, this, Bool.false_and]
  have h' : orderedB apex ss = true ∧ apexHoldsB apex ss = true := by
    cases hx : orderedB apex ss <;> cases hy : apexHoldsB apex ss <;> simp_all
  have hn := ordered_len h'.1
  refine vks_call ?_ (fn59 hE apex hss (by omega)) ?_
  · simp only [go_sem, Nat.reduceEqDiff]
  rintro u H' ⟨w, rfl, hle, hw⟩
  have hss' := hss.mono hle
  have ho2 : one1 w = true := SlAt.one hw
  simp only [ho1, ho2, go_sem, Nat.reduceEqDiff, Nat.reduceBEq, Nat.reduceAdd]
  have hz : zoneValid apex ss = (aliasesB ss && cutsB apex ss && sigsB apex ss && formB apex ss) := by simp only [zoneValid, h'.1, h'.2, Bool.true_and]
  rw [hz]
  refine vks_callp _ ?_ (fun _ => ⟨?_, fn60 hE apex hss' hw (by omega)⟩) ?_ <;> simp only [go_sem, Nat.reduceEqDiff, Nat.reduceBEq, Nat.reduceAdd]
  refine vks_callp _ ?_ (fun hg => ⟨?_, fn61 hE apex hss' hw (by omega)⟩) ?_ <;> simp only [go_sem, Nat.reduceEqDiff, Nat.reduceBEq, Nat.reduceAdd]
  · simp only [go_sem, Nat.reduceEqDiff] at hg ⊢; exact hg
  refine vks_callp _ ?_ (fun hg => ⟨?_, fn62 hE apex hss' hw (by omega)⟩) ?_ <;> simp only [go_sem, Nat.reduceEqDiff, Nat.reduceBEq, Nat.reduceAdd]
  · simp only [go_sem, Nat.reduceEqDiff] at hg ⊢; exact hg
  refine vks_callp _ ?_ (fun hg => ⟨?_, fn63 hE apex hss' hw (by omega)⟩) ?_ <;> simp only [go_sem, Nat.reduceEqDiff, Nat.reduceBEq]
  · simp only [go_sem, Nat.reduceEqDiff] at hg ⊢; exact hg
  exact hle
end Go.SL

/- Contracts of package name. -/
import Derived.Test.YtilkdjdnhkchpaaGreatDoorNplO
import Derived.Test.YtilkdjdnhkchpaaGreatDoorNplT1
namespace Go.SL
open Go
variable {E : Env} {H : Hp}

def nx : Option Nat → Nat
  | none => 0
  | some i => i + 1
theorem it65 (hE : Codes E) (G : Hp) (l : Bs) (hl : l.length ≤ 60) : Iter E (.func (.func (E.fn 65)) #[S l] #[]) G (fun xs => xs = (labs l).map (fun x => [S x])) := by
  intro y Inv Stop H hG hy h0
  refine FnV_of_Fn hE.e65 ?_
  show Fn E.P (E.fn 65) [S l, y] H _
  refine Fn.of_vks hE.c65 (by simp [c_name_text_backwards]) ?_
  simp only [c_name_text_backwards, c_name_text_backwards_r0, c_name_text_backwards_r1, c_name_text_backwards_r2, c_name_text_backwards_r3, c_name_text_backwards_r4]
  simp only [go_sem, Nat.reduceEqDiff, Nat.reduceBEq, reduceCtorEq, binO]
  refine ⟨fun h => ?_, fun h => ?_⟩
  · have : l = [46] := by simpa using h
    exact .inl ⟨_, rfl, by simpa [labs, this] using h0⟩
  · have hne : l ≠ [46] := by simpa using h
    refine vks_loop (fun m fr' H' => ∃ rest pre, fr' = [(1, ⟨true, .val y⟩), (4, ⟨true, .val (S rest)⟩)] ∧ rest.length + 1 ≤ m ∧ rest.length ≤ 60 ∧ labs l = pre ++ labF m rest ∧ Inv (pre.map (fun x => [S x])) H') (l.length + 1) ⟨l, [], rfl, Nat.le_refl _, hl, by simp [labs, hne], h0⟩ ?_
    rintro m fr' H' ⟨rest, pre, rfl, hm, hr, hlab, hinv⟩
    simp only [go_sem, Nat.reduceEqDiff, Nat.reduceBEq]
    refine vks_callp _ ?_ (fun _ => ⟨?_, fn90 hE rest hr⟩) ?_ <;> simp only [go_sem, Nat.reduceEqDiff, Nat.reduceBEq, binO]
    obtain ⟨m, rfl⟩ : ∃ m', m = m' + 1 := ⟨m - 1, by omega⟩
    have hlb : labF (m + 1) rest = rest.drop (nx (lastIx 46 rest)) :: (match lastIx 46 rest with | none => [] | some i => labF m (rest.take i)) := by
      simp only [labF]
      cases lastIx 46 rest <;> simp [nx]
    have hnx : nx (lastIx 46 rest) ≤ rest.length := by
      cases hx : lastIx 46 rest with
      | none => simp [nx]
      | some i => have := lastIx_lt hx; simp [nx]; omega
    have e1 : IntKind.i64.wrap (ixI (lastIx 46 rest) + 1) = ((nx (lastIx 46 rest) : Nat) : Int) := by
      cases hx : lastIx 46 rest with
      | none => rw [wrapI] <;> simp [ixI, nx]
      | some i => have := lastIx_lt hx; simp only [ixI, nx]; rw [wrapI] <;> omega
    have e2 : List.take (rest.length - nx (lastIx 46 rest)) (rest.drop (nx (lastIx 46 rest))) = rest.drop (nx (lastIx 46 rest)) := List.take_of_length_le (by simp)
    rw [hlb] at hlab
    simp only [e1, toNat_ofNat', e2]
    refine ⟨⟨by omega, by omega⟩, ?_⟩
    refine vks_callv ?_ ?_ (hy (pre.map (fun x => [S x])) [S (rest.drop (nx (lastIx 46 rest)))] H' ⟨(match lastIx 46 rest with | none => [] | some i => labF m (rest.take i)).map (fun x => [S x]), by simp [hlab]⟩ hinv) ?_
    · simp only [go_sem, Nat.reduceEqDiff]
    · simp only [go_sem, Nat.reduceEqDiff]
    · rintro v H'' (⟨rfl, hi⟩ | ⟨rfl, hs⟩)
      · simp only [go_sem, Nat.reduceEqDiff, Nat.reduceBEq, binO]
        refine ⟨fun h => ?_, fun h => ?_⟩
        · cases hx : lastIx 46 rest with
          | none =>
            refine .inl ⟨_, rfl, ?_⟩
            rw [hlab, hx]
            rw [hx] at hi
            simpa using hi
          | some i => exact absurd h (by simp [hx, ixI])
        · cases hx : lastIx 46 rest with
          | none => rw [hx] at h; simp [ixI] at h
          | some i =>
            have hlt := lastIx_lt hx
            rw [hx] at hlab hi
            simp only [ixI, toNat_ofNat']
            refine ⟨⟨by omega, by omega⟩, m, by omega, rest.take i, pre ++ [rest.drop (i + 1)], rfl, by rw [List.length_take]; omega, by rw [List.length_take]; omega, ?_, ?_⟩
            · rw [hlab]; simp [nx]
            · simpa [nx] using hi
      · simp only [go_sem, Nat.reduceEqDiff, Nat.reduceBEq, binO]
        exact .inr ⟨_, hs⟩
theorem fn50 (hE : Codes E) (l : Bs) : FnP E 50 [S l] H (.bool (nameValid l)) := by
  refine Fn.of_vks hE.c50 (by simp [c_name_text_valid]) ?_
  simp only [c_name_text_valid, c_name_text_valid_r0, c_name_text_valid_r1, c_name_text_valid_r2, c_name_text_valid_r3, c_name_text_valid_r4, c_name_text_valid_r5, c_name_text_valid_r6, c_name_text_valid_r7, c_name_text_valid_r8, c_name_text_valid_r9, c_name_text_valid_r10, c_name_text_valid_r11, c_name_text_valid_r12, c_name_text_valid_r13, c_name_text_valid_r14]
  simp only [go_sem, Nat.reduceEqDiff, Nat.reduceBEq, reduceCtorEq, binO, put_get]
  intro b2 hb2
  refine ⟨fun h => ?_, fun h => ?_⟩
  · refine ⟨?_, le_put hb2 _⟩
    simp [nameValid, h]
  · refine ⟨fun h1 => ⟨?_, le_put hb2 _⟩, fun h1 => ?_⟩
    · have : ¬ l.length ≤ 60 := by simp at h1; omega
      simp [nameValid, h, this]
    · have h60 : l.length ≤ 60 := by simp at h1; omega
      have hnv : nameValid l = validGo (labs l) 0 false := by simp [nameValid, h, h60]
      intro b3 hb3 b4 hb4
      have h32 : b3 ≠ b2 := by rintro rfl; simp at hb3
      have h42 : b4 ≠ b2 := by rintro rfl; simp [h32.symm] at hb4
      have h43 : b4 ≠ b3 := by rintro rfl; simp at hb4
      simp only [h32, h42, h43, if_false] at hb3 hb4
      simp only [h43, h43.symm, go_sem]
      refine vks_rangeF H (fun xs => xs = (labs l).map (fun x => [S x])) (fun pre H' => H.le H' ∧ H' b2 = some (.row [.bool false] 1 true) ∧ H' b3 = some (.row [.int .i64 pre.length] 1 true) ∧ ∃ star, H' b4 = some (.row [.bool star] 1 true) ∧ pre.length ≤ 8 ∧ validGo (labs l) 0 false = validGo ((labs l).drop pre.length) pre.length star)
        (by simp only [go_sem, Nat.reduceEqDiff]) (by simp only [go_sem, Nat.reduceEqDiff, isFn]) (it65 hE H l h60) (by rintro xs rfl x hx; simp at hx; obtain ⟨a, _, rfl⟩ := hx; rfl) ?_ (fun pre H' h => h.1) ?_ ?_
      · refine ⟨?_, by simp [put_get, h32.symm, h42.symm], by simp [put_get, h43.symm], false, by simp [put_get], by simp, rfl⟩
        exact le_put_of_le (le_put_of_le (le_put_of_le (le_put_of_le (le_put hb2 _) hb3 _) hb4 _) hb3 _) hb4 _
      · rintro pre x H' ⟨suf, hsuf⟩ ⟨hle, k2, k3, star, k4, h8, hgo⟩
        obtain ⟨hlt, rfl, hdrop⟩ := at_pre hsuf
        rw [hdrop] at hgo
        generalize hy : (labs l).getD pre.length [] = y at *
        simp only [h43, h32.symm, k2, k3, k4, go_sem, Nat.reduceEqDiff, Nat.reduceBEq, binO, put_get]
        rw [wrapS (by omega)]
        have hLb2 : H.le ((H'.put b3 (AObj.row [Value.int IntKind.i64 ((pre.length + 1 : Nat) : Int)] 1 true)).put b4 (AObj.row [Value.bool (y == [42])] 1 true)) := le_put_of_le (le_put_of_le hle hb3 _) hb4 _
        refine ⟨fun hc => ⟨?_, le_put_of_le (le_put_of_le hle hb3 _) hb2 _⟩, fun hc => ?_⟩
        · have : (star || decide (pre.length + 1 > 8)) = true := by cases star <;> simp at hc ⊢ <;> omega
          rw [hnv, hgo]; simp only [validGo, this, if_true]
        · have hc' : (star || decide (pre.length + 1 > 8)) = false := by cases star <;> simp at hc ⊢ <;> omega
          simp only [validGo, hc', Bool.false_eq_true, if_false] at hgo
          refine vks_callp _ ?_ (fun hg => ⟨?_, fn66 hE y⟩) ?_ <;> simp only [h43, h32.symm, h42.symm, h43.symm, k2, k3, k4, go_sem, Nat.reduceEqDiff, Nat.reduceBEq, put_get]
          · simp only [go_sem, Nat.reduceEqDiff] at hg ⊢; exact hg
          · refine ⟨fun hb => ⟨?_, le_put_of_le hLb2 hb2 _⟩, fun hb => ⟨hLb2, ?_, ?_⟩⟩
            · rw [hnv, hgo]; simp only [hb, if_true]
            · simp
            · refine ⟨_, rfl, ?_, ?_⟩
              · simp at hc' ⊢; omega
              · rw [hgo]; simp only [hb, Bool.false_eq_true, if_false]; simp
      · rintro xs H' rfl ⟨hle, k2, k3, star, k4, h8, hgo⟩
        simp only [k2, go_sem, Nat.reduceEqDiff, put_get]
        refine ⟨?_, le_put_of_le hle hb2 _⟩
        rw [hnv, hgo]; simp [validGo]
theorem fn45 (hE : Codes E) (l : Bs) : FnP E 45 [S l] H (.bool (nameValid l)) := by
  refine Fn.of_vks hE.c45 (by simp [c_name_Valid]) ?_
  simp only [c_name_Valid, c_name_Valid_r0, c_name_Valid_r1]
  simp only [go_sem, Nat.reduceBEq, reduceCtorEq]
  refine vks_callp _ ?_ (fun _ => ⟨?_, fn50 hE l⟩) ?_ <;> simp only [go_sem, Nat.reduceEqDiff, Nat.reduceBEq, reduceCtorEq]
theorem nameValid_len {l : Bs} (h : nameValid l = true) : l.length ≤ 60 := by
  simp only [nameValid, Bool.or_eq_true, beq_iff_eq, Bool.and_eq_true, decide_eq_true_eq] at h
  rcases h with rfl | h
  · simp
  · exact h.1
theorem fn80 (hE : Codes E) (s z : Bs) : FnP E 80 [S s, S z] H (.tuple #[.bool (underB s z), .int .i64 (underE s z)]) := by
  refine Fn.of_vks hE.c80 (by simp [c_name_Under]) ?_
  simp only [c_name_Under, c_name_Under_r0, c_name_Under_r1, c_name_Under_r2, c_name_Under_r3, c_name_Under_r4, c_name_Under_r5]
  simp only [go_sem, Nat.reduceEqDiff, Nat.reduceBEq, reduceCtorEq]
  refine vks_callp _ ?_ (fun _ => ⟨?_, fn50 hE s⟩) ?_ <;> simp only [go_sem, Nat.reduceEqDiff, Nat.reduceBEq, reduceCtorEq]
  refine vks_callp _ ?_ (fun hg => ⟨?_, fn50 hE z⟩) ?_ <;> simp only [go_sem, Nat.reduceEqDiff, Nat.reduceBEq, reduceCtorEq, binO]
  · simp only [go_sem, Nat.reduceEqDiff, reduceCtorEq] at hg ⊢; exact hg
  · refine ⟨fun h => ?_, fun h => ⟨fun h2 => ?_, fun h2 => ?_⟩⟩
    · have : (nameValid s && nameValid z) = false := by cases hs : nameValid s <;> simp_all
      simp [underB, underE, this]
    · have h' : nameValid s = true ∧ nameValid z = true := by simpa using h
      simp [underB, underE, h', h2]
    · have h' : nameValid s = true ∧ nameValid z = true := by simpa using h
      have l1 := nameValid_len h'.1
      have l2 := nameValid_len h'.2
      have e : z.length < s.length → IntKind.i64.wrap (IntKind.i64.wrap ((s.length : Int) - (z.length : Int)) - 1) = ((s.length - z.length - 1 : Nat) : Int) := fun h => by
        rw [wrapI (n := (s.length : Int) - (z.length : Int)) (by omega), wrapI (by omega)]; omega
      refine vks_callp _ ?_ (fun hg => ⟨?_, fn94 hE s z (by omega)⟩) ?_ <;> simp only [go_sem, Nat.reduceEqDiff, Nat.reduceBEq, reduceCtorEq, binO]
      · simp only [go_sem, Nat.reduceEqDiff, reduceCtorEq] at hg ⊢; exact ⟨hg, hg⟩
      · have hu : underB s z = (decide (z.length < s.length) && hasSuf s z && bI s (s.length - z.length - 1) == 46) := by simp [underB, h', h2]
        have hc : decide ((s.length : Int) > (z.length : Int)) = decide (z.length < s.length) := by simp
        have he : underE s z = 0 := by simp [underE, h']
        simp only [hc, hu, he]
        by_cases hz : z.length < s.length
        · have hlt : ((s.length - z.length - 1 : Nat) : Int) < (s.length : Int) := by omega
          have hge : (0 : Int) ≤ ((s.length - z.length - 1 : Nat) : Int) := by omega
          simp only [hz, e hz, toNat_ofNat', decide_true, hlt, hge]
          simp
        · simp [hz]
def ptr (b : Nat) : Value := .pointer (some ⟨b, 0, none⟩)
theorem fn102 (hE : Codes E) (l : Bs) : Fn E.P (E.fn 102) [S l] H (fun v H' => ∃ bm br, v = .func (.func (E.fn 104)) #[] #[.pointer (some ⟨bm, 0, none⟩), .pointer (some ⟨br, 0, none⟩)] ∧ H bm = none ∧ H br = none ∧ bm ≠ br ∧ H.le H' ∧ H' bm = some (.row [.bool (!(l == [46]))] 1 true) ∧ H' br = some (.row [S l] 1 true)) := by
  refine Fn.of_vks hE.c102 (by simp [c_name_text_puller]) ?_
  simp only [c_name_text_puller, c_name_text_puller_r0, c_name_text_puller_r1, c_name_text_puller_r2]
  simp only [go_sem, Nat.reduceEqDiff, Nat.reduceBEq, reduceCtorEq, binO, put_get]
  intro b3 hb3 b4 hb4
  have h43 : b4 ≠ b3 := by rintro rfl; simp at hb4
  simp only [h43, if_false] at hb4
  simp only [h43, h43.symm, go_sem]
  refine ⟨b4, b3, rfl, hb4, hb3, h43, le_put_of_le (le_put_of_le (le_put_of_le (le_put hb3 _) hb4 _) hb3 _) hb4 _, ?_, ?_⟩
  · simp []
  · simp [h43.symm]
/-- what a puller will give -/
def Pull (H : Hp) (bm br : Nat) (L : List Bs) : Prop := ∃ more rest m, H bm = some (.row [.bool more] 1 true) ∧ H br = some (.row [S rest] 1 true) ∧ rest.length ≤ 60 ∧ rest.length < m ∧ L = if more then labF m rest else []
def pulled : List Bs → Value
  | [] => .tuple #[S [], .bool false]
  | x :: _ => .tuple #[S x, .bool true]
theorem Pull.congr {H H' : Hp} {bm br : Nat} {L : List Bs} (h : Pull H bm br L) (h1 : H' bm = H bm) (h2 : H' br = H br) : Pull H' bm br L := by
  obtain ⟨more, rest, m, k1, k2, k3⟩ := h
  exact ⟨more, rest, m, h1.trans k1, h2.trans k2, k3⟩
theorem fn104 (hE : Codes E) {bm br : Nat} {L : List Bs} (hne : bm ≠ br) (hp : Pull H bm br L) : Fn E.P (E.fn 104) [.pointer (some ⟨bm, 0, none⟩), .pointer (some ⟨br, 0, none⟩)] H (fun v H' => (∀ c, c ≠ bm → c ≠ br → H' c = H c) ∧ Pull H' bm br L.tail ∧
    v = pulled L) := by
  obtain ⟨more, rest, m, k1, k2, h60, hm, rfl⟩ := hp
  refine Fn.of_vks hE.c104 (by simp [c_name_text_puller_1]) ?_
  simp only [c_name_text_puller_1, c_name_text_puller_1_r0, c_name_text_puller_1_r1, c_name_text_puller_1_r2, c_name_text_puller_1_r3, c_name_text_puller_1_r4, c_name_text_puller_1_r5, c_name_text_puller_1_r6, c_name_text_puller_1_r7, c_name_text_puller_1_r8]
  simp only [k1, k2, go_sem, Nat.reduceEqDiff, Nat.reduceBEq, reduceCtorEq]
  refine ⟨fun h => ?_, fun h => ?_⟩
  · subst h
    exact ⟨⟨false, rest, m, k1, k2, h60, hm, by simp⟩, by simp [pulled]⟩
  · subst h
    refine vks_callp _ ?_ (fun _ => ⟨?_, fn90 hE rest h60⟩) ?_ <;> simp only [k1, k2, go_sem, Nat.reduceEqDiff, Nat.reduceBEq, reduceCtorEq, binO, put_get]
    obtain ⟨m, rfl⟩ : ∃ m', m = m' + 1 := ⟨m - 1, by omega⟩
    have hlb : labF (m + 1) rest = rest.drop (nx (lastIx 46 rest)) :: (match lastIx 46 rest with | none => [] | some i => labF m (rest.take i)) := by
      simp only [labF]
      cases lastIx 46 rest <;> simp [nx]
    have hnx : nx (lastIx 46 rest) ≤ rest.length := by
      cases hx : lastIx 46 rest with
      | none => simp [nx]
      | some i => have := lastIx_lt hx; simp [nx]; omega
    have e1 : IntKind.i64.wrap (ixI (lastIx 46 rest) + 1) = ((nx (lastIx 46 rest) : Nat) : Int) := by
      cases hx : lastIx 46 rest with
      | none => rw [wrapI] <;> simp [ixI, nx]
      | some i => have := lastIx_lt hx; simp only [ixI, nx]; rw [wrapI] <;> omega
    have e2 : List.take (rest.length - nx (lastIx 46 rest)) (rest.drop (nx (lastIx 46 rest))) = rest.drop (nx (lastIx 46 rest)) := List.take_of_length_le (by simp)
    simp only [e1, toNat_ofNat', e2, hlb]
    refine ⟨⟨by omega, by omega⟩, fun h => ?_, fun h => ?_⟩
    · cases hx : lastIx 46 rest with
      | none =>
        refine ⟨fun c h1 _ => by simp [h1], ⟨false, rest, m + 1, by simp [put_get], by simp [put_get, hne.symm, k2], h60, hm, by simp⟩, by simp [nx, pulled]⟩
      | some i => exact absurd h (by simp [hx, ixI])
    · cases hx : lastIx 46 rest with
      | none => exact absurd h (by simp [hx, ixI])
      | some i =>
        have hlt := lastIx_lt hx
        simp only [ixI, toNat_ofNat']
        refine ⟨⟨by omega, by omega⟩, fun c _ h1 => by simp [h1], ⟨true, rest.take i, m, by simp [put_get, hne, k1], by simp [put_get], by rw [List.length_take]; omega, by rw [List.length_take]; omega, by simp⟩, by simp [nx, pulled]⟩
theorem fn95 (hE : Codes E) (a b : Bs) : FnP E 95 [S a, S b] H (.tuple #[.int .i64 (nameCmp a b), .int .i64 (nameCmpE a b)]) := by
  refine Fn.of_vks hE.c95 (by simp [c_name_Compare]) ?_
  simp only [c_name_Compare, c_name_Compare_r0, c_name_Compare_r1, c_name_Compare_r2, c_name_Compare_r3, c_name_Compare_r4, c_name_Compare_r5, c_name_Compare_r6, c_name_Compare_r7, c_name_Compare_r8, c_name_Compare_r9, c_name_Compare_r10, c_name_Compare_r11, c_name_Compare_r12, c_name_Compare_r13, c_name_Compare_r14, c_name_Compare_r15, c_name_Compare_r16]
  simp only [go_sem, Nat.reduceEqDiff, Nat.reduceBEq, reduceCtorEq, put_get]
  intro b4 hb4 b5 hb5
  have h54 : b5 ≠ b4 := by rintro rfl; simp at hb5
  simp only [h54, if_false] at hb5
  refine vks_callp _ ?_ (fun _ => ⟨?_, fn50 hE a⟩) ?_ <;> simp only [go_sem, Nat.reduceEqDiff, Nat.reduceBEq]
  refine vks_callp _ ?_ (fun hg => ⟨?_, fn50 hE b⟩) ?_ <;> simp only [h54, h54.symm, go_sem, Nat.reduceEqDiff, Nat.reduceBEq, binO, put_get]
  · simp only [go_sem, Nat.reduceEqDiff] at hg ⊢; exact hg
  · refine ⟨fun h => ?_, fun h => ⟨fun h2 => ?_, fun h2 => ?_⟩⟩
    · have : (nameValid a && nameValid b) = false := by cases hs : nameValid a <;> simp_all
      refine ⟨by simp [nameCmp, nameCmpE, this], ?_⟩
      exact le_put_of_le (le_put_of_le (le_put_of_le (le_put hb4 _) hb5 _) hb4 _) hb5 _
    · have h' : nameValid a = true ∧ nameValid b = true := by simpa using h
      have h2' : a = b := by simpa using h2
      refine ⟨by simp [nameCmp, nameCmpE, h', h2'], ?_⟩
      exact le_put_of_le (le_put_of_le (le_put_of_le (le_put hb4 _) hb5 _) hb4 _) hb5 _
    · have h' : nameValid a = true ∧ nameValid b = true := by simpa using h
      have l1 := nameValid_len h'.1
      have l2 := nameValid_len h'.2
      have h2' : a ≠ b := by simpa using h2
      have hr : nameCmp a b = cmpL (labs a) (labs b) := by simp [nameCmp, h', h2']
      have hr' : nameCmpE a b = 0 := by simp [nameCmpE, h']
      rw [hr, hr']
      refine vks_call ?_ (fn102 hE b) ?_
      · simp only [go_sem, Nat.reduceEqDiff]
      · rintro v H1 ⟨bm, br, rfl, hbm, hbr, hmr, hle1, km, kr⟩
        have k4 : H1 b4 = some (.row [.int .i64 0] 1 true) := hle1 _ _ (by simp [put_get, h54.symm])
        have k5 : H1 b5 = some (.row [.int .i64 0] 1 true) := hle1 _ _ (by simp [put_get])
        have hmb4 : bm ≠ b4 := by rintro rfl; simp [put_get, h54.symm] at hbm
        have hmb5 : bm ≠ b5 := by rintro rfl; simp [put_get] at hbm
        have hrb4 : br ≠ b4 := by rintro rfl; simp [put_get, h54.symm] at hbr
        have hrb5 : br ≠ b5 := by rintro rfl; simp [put_get] at hbr
        have hbm0 : H bm = none := by simpa [put_get, hmb4, hmb5] using hbm
        have hbr0 : H br = none := by simpa [put_get, hrb4, hrb5] using hbr
        have hle0 : H.le H1 := (le_put_of_le (le_put hb4 _) hb5 _).trans hle1
        simp only [go_sem, Nat.reduceEqDiff, Nat.reduceBEq, put_get]
        intro b8 hb8
        have h84 : b8 ≠ b4 := (ne_of_none k4 hb8).symm
        have h85 : b8 ≠ b5 := (ne_of_none k5 hb8).symm
        have h8m : b8 ≠ bm := (ne_of_none km hb8).symm
        have h8r : b8 ≠ br := (ne_of_none kr hb8).symm
        have hb80 : H b8 = none := by
          cases hx : H b8 with
          | none => rfl
          | some o => rw [hle0 _ _ hx] at hb8; cases hb8
        have hPull : Pull H1 bm br (labs b) := by
          by_cases hd : b = [46]
          · exact ⟨false, b, b.length + 1, by rw [km]; simp [hd], kr, l2, by omega, by simp [labs, hd]⟩
          · exact ⟨true, b, b.length + 1, by rw [km]; simp [hd], kr, l2, by omega, by simp [labs, hd]⟩
        refine vks_rangeF H (fun xs => xs = (labs a).map (fun x => [S x])) (fun pre H' => H.le H' ∧ H' b4 = some (.row [.int .i64 0] 1 true) ∧ H' b5 = some (.row [.int .i64 0] 1 true) ∧ H' b8 = some (.row [.func (.func (E.fn 104)) #[] #[.pointer (some ⟨bm, 0, none⟩), .pointer (some ⟨br, 0, none⟩)]] 1 true) ∧
            Pull H' bm br ((labs b).drop pre.length) ∧ cmpL (labs a) (labs b) = cmpL ((labs a).drop pre.length) ((labs b).drop pre.length))
          (by simp only [go_sem, Nat.reduceEqDiff]) (by simp only [go_sem, Nat.reduceEqDiff, isFn]) (it65 hE H a l1) (by rintro xs rfl x hx; simp at hx; obtain ⟨a, _, rfl⟩ := hx; rfl) ?_ (fun pre H' h => h.1) ?_ ?_
        · refine ⟨le_put_of_le hle0 hb80 _, by simp [put_get, h84.symm, k4], by simp [put_get, h85.symm, k5], by simp [put_get], ?_, rfl⟩
          exact hPull.congr (by simp [put_get, h8m.symm]) (by simp [put_get, h8r.symm])
        · rintro pre x H' ⟨suf, hsuf⟩ ⟨hle, k4, k5, k8, hpl, hgo⟩
          obtain ⟨hlt, rfl, hdrop⟩ := at_pre hsuf
          rw [hdrop] at hgo
          generalize hy : (labs a).getD pre.length [] = y at *
          simp only [k8, go_sem, Nat.reduceEqDiff, Nat.reduceBEq]
          refine vks_callv ?_ ?_ (FnV_of_Fn hE.e104 (fn104 hE hmr hpl)) ?_
          · simp only [go_sem, Nat.reduceEqDiff]
          · simp only [go_sem]
          · rintro v H2 ⟨hoth, hp2, rfl⟩
            have k4' : H2 b4 = some (.row [.int .i64 0] 1 true) := (hoth _ hmb4.symm hrb4.symm).trans k4
            have k5' : H2 b5 = some (.row [.int .i64 0] 1 true) := (hoth _ hmb5.symm hrb5.symm).trans k5
            have k8' := (hoth _ h8m h8r).trans k8
            have hle2 : H.le H2 := fun c o hc => by
              rw [hoth c (ne_of_none hc hbm0) (ne_of_none hc hbr0)]; exact hle c o hc
            cases hL : (labs b).drop pre.length with
            | nil =>
              rw [hL] at hgo
              simp only [pulled, h54, h54.symm, k4', k5', go_sem, Nat.reduceLT, Nat.reduceEqDiff, Nat.reduceBEq, Nat.reduceAdd, put_get]
              refine ⟨?_, le_put_of_le (le_put_of_le hle2 hb4 _) hb5 _⟩
              rw [hgo]; simp [cmpL]
            | cons x L' =>
              rw [hL] at hgo hp2
              simp only [pulled, h54, h54.symm, k4', k5', go_sem, Nat.reduceLT, Nat.reduceEqDiff, Nat.reduceBEq, Nat.reduceAdd, put_get]
              refine vks_callp _ ?_ (fun _ => ⟨?_, fn103 hE y x⟩) ?_ <;> simp only [h54, h54.symm, k4', k5', go_sem, Nat.reduceEqDiff, Nat.reduceBEq, binO, put_get]
              have hL2 : L' = (labs b).drop (pre.length + 1) := by
                have := congrArg (List.drop 1) hL
                simpa [List.drop_drop] using this.symm
              simp only [cmpL] at hgo
              refine ⟨fun hc => ⟨?_, le_put_of_le (le_put_of_le hle2 hb4 _) hb5 _⟩, fun hc => ⟨hle2, k8', ?_, ?_⟩⟩
              · have : cmpBs y x ≠ 0 := by simpa using hc
                rw [hgo]; simp [this]
              · simpa [hL2] using hp2
              · have : cmpBs y x = 0 := by simpa using hc
                rw [hgo]; simp [this, hL2]
        · rintro xs H' rfl ⟨hle, k4, k5, k8, hpl, hgo⟩
          simp only [h54, h54.symm, k4, k5, go_sem, Nat.reduceEqDiff, put_get]
          refine ⟨?_, le_put_of_le (le_put_of_le hle hb4 _) hb5 _⟩
          rw [hgo]; simp [cmpL]
end Go.SL

/- Contracts of the leaves: strings, numbers. -/
import Derived.Test.YtilkdjdnhkchpaaGreatDoorNplO
namespace Go.SL
open Go
variable {E : Env} {H : Hp}

theorem fn64 (hE : Codes E) (a b : Bs) : FnP E 64 [S a, S b] H (.bool (hasPre a b)) := by
  refine Fn.of_vks hE.c64 (by simp [c_internal_stringslite_HasPrefix]) ?_
  simp only [c_internal_stringslite_HasPrefix, c_internal_stringslite_HasPrefix_r0, c_internal_stringslite_HasPrefix_r1]
  simp only [go_sem, Nat.reduceEqDiff, Nat.reduceBEq, reduceCtorEq, binO]
  simp [hasPre]
theorem fn44 (hE : Codes E) (a b : Bs) : FnP E 44 [S a, S b] H (.bool (hasPre a b)) := by
  refine Fn.of_vks hE.c44 (by simp [c_strings_HasPrefix]) ?_
  simp only [c_strings_HasPrefix, c_strings_HasPrefix_r0, c_strings_HasPrefix_r1]
  simp only [go_sem, Nat.reduceEqDiff, Nat.reduceBEq, reduceCtorEq]
  refine vks_callp _ ?_ (fun _ => ⟨?_, fn64 hE a b⟩) ?_ <;> simp only [go_sem, Nat.reduceEqDiff, Nat.reduceBEq, reduceCtorEq]
theorem fn101 (hE : Codes E) (a b : Bs) (ha : a.length ≤ 1099511627776) : FnP E 101 [S a, S b] H (.bool (hasSuf a b)) := by
  refine Fn.of_vks hE.c101 (by simp [c_internal_stringslite_HasSuffix]) ?_
  simp only [c_internal_stringslite_HasSuffix, c_internal_stringslite_HasSuffix_r0, c_internal_stringslite_HasSuffix_r1]
  simp only [go_sem, Nat.reduceEqDiff, Nat.reduceBEq, reduceCtorEq, binO]
  have e : b.length ≤ a.length → IntKind.i64.wrap ((a.length : Int) - (b.length : Int)) = ((a.length - b.length : Nat) : Int) := fun h => by rw [wrapI] <;> omega
  refine ⟨fun h => ⟨h, h⟩, fun h => ?_, fun h => ⟨h, h⟩, ?_⟩
  · simp at h; simp [h, e h]
  · by_cases h : b.length ≤ a.length
    · simp [hasSuf, h, e h, List.take_of_length_le]
    · simp [hasSuf, h]
theorem fn94 (hE : Codes E) (a b : Bs) (ha : a.length ≤ 1099511627776) : FnP E 94 [S a, S b] H (.bool (hasSuf a b)) := by
  refine Fn.of_vks hE.c94 (by simp [c_strings_HasSuffix]) ?_
  simp only [c_strings_HasSuffix, c_strings_HasSuffix_r0, c_strings_HasSuffix_r1]
  simp only [go_sem, Nat.reduceEqDiff, Nat.reduceBEq, reduceCtorEq]
  refine vks_callp _ ?_ (fun _ => ⟨?_, fn101 hE a b ha⟩) ?_ <;> simp only [go_sem, Nat.reduceEqDiff, Nat.reduceBEq, reduceCtorEq]
theorem fn90 (hE : Codes E) (a : Bs) (ha : a.length ≤ 60) : FnP E 90 [S a, .int .u8 46] H (.int .i64 (ixI (lastIx 46 a))) := by
  refine Fn.of_vks hE.c90 (by simp [c_strings_LastIndexByte]) ?_
  simp only [c_strings_LastIndexByte, c_strings_LastIndexByte_r0, c_strings_LastIndexByte_r1]
  simp only [go_sem, Nat.reduceEqDiff, Nat.reduceBEq, reduceCtorEq]
  refine vks_callp _ ?_ (fun _ => ⟨?_, hE.lastIx H a ha⟩) ?_ <;> simp only [go_sem, Nat.reduceEqDiff, Nat.reduceBEq, reduceCtorEq]
theorem fn103 (hE : Codes E) (a b : Bs) : FnP E 103 [S a, S b] H (.int .i64 (cmpBs a b)) := by
  refine Fn.of_vks hE.c103 (by simp [c_strings_Compare]) ?_
  simp only [c_strings_Compare, c_strings_Compare_r0, c_strings_Compare_r1]
  simp only [go_sem, Nat.reduceEqDiff, Nat.reduceBEq, reduceCtorEq]
  refine vks_callp _ ?_ (fun _ => ⟨?_, hE.cmpStr H a b⟩) ?_ <;> simp only [go_sem, Nat.reduceEqDiff, Nat.reduceBEq, reduceCtorEq]
theorem fn88 (hE : Codes E) (a : Int) : FnP E 88 [.int .i64 a] H (.bool false) := by
  refine Fn.of_vks hE.c88 (by simp [c_cmp_isNaN_int]) ?_
  simp only [c_cmp_isNaN_int, c_cmp_isNaN_int_r0, c_cmp_isNaN_int_r1]
  simp only [go_sem, Nat.reduceEqDiff, Nat.reduceBEq, reduceCtorEq, binO]
  simp
theorem fn100 (hE : Codes E) (a : Bs) : FnP E 100 [S a] H (.bool false) := by
  refine Fn.of_vks hE.c100 (by simp [c_cmp_isNaN_string]) ?_
  simp only [c_cmp_isNaN_string, c_cmp_isNaN_string_r0, c_cmp_isNaN_string_r1]
  simp only [go_sem, Nat.reduceEqDiff, Nat.reduceBEq, reduceCtorEq, binO]
theorem fn89 (hE : Codes E) (a b : Int) : FnP E 89 [.int .i64 a, .int .i64 b] H (.int .i64 (cmpInt a b)) := by
  refine Fn.of_vks hE.c89 (by simp [c_cmp_Compare_int]) ?_
  simp only [c_cmp_Compare_int, c_cmp_Compare_int_r0, c_cmp_Compare_int_r1, c_cmp_Compare_int_r2, c_cmp_Compare_int_r3, c_cmp_Compare_int_r4, c_cmp_Compare_int_r5, c_cmp_Compare_int_r6, c_cmp_Compare_int_r7, c_cmp_Compare_int_r8, c_cmp_Compare_int_r9, c_cmp_Compare_int_r10, c_cmp_Compare_int_r11, c_cmp_Compare_int_r12, c_cmp_Compare_int_r13]
  simp only [go_sem, Nat.reduceEqDiff, Nat.reduceBEq, reduceCtorEq]
  refine vks_callp _ ?_ (fun _ => ⟨?_, fn88 hE a⟩) ?_ <;> simp only [go_sem, Nat.reduceEqDiff, Nat.reduceBEq, reduceCtorEq]
  refine vks_callp _ ?_ (fun _ => ⟨?_, fn88 hE b⟩) ?_ <;> simp only [go_sem, Nat.reduceEqDiff, Nat.reduceBEq, reduceCtorEq, binO]
  grind [cmpInt]
theorem fn92 (hE : Codes E) (a b : Bs) : FnP E 92 [S a, S b] H (.int .i64 (cmpBs a b)) := by
  refine Fn.of_vks hE.c92 (by simp [c_cmp_Compare_string]) ?_
  simp only [c_cmp_Compare_string, c_cmp_Compare_string_r0, c_cmp_Compare_string_r1, c_cmp_Compare_string_r2, c_cmp_Compare_string_r3, c_cmp_Compare_string_r4, c_cmp_Compare_string_r5, c_cmp_Compare_string_r6, c_cmp_Compare_string_r7, c_cmp_Compare_string_r8, c_cmp_Compare_string_r9, c_cmp_Compare_string_r10, c_cmp_Compare_string_r11, c_cmp_Compare_string_r12, c_cmp_Compare_string_r13]
  simp only [go_sem, Nat.reduceEqDiff, Nat.reduceBEq, reduceCtorEq]
  refine vks_callp _ ?_ (fun _ => ⟨?_, fn100 hE a⟩) ?_ <;> simp only [go_sem, Nat.reduceEqDiff, Nat.reduceBEq, reduceCtorEq]
  refine vks_callp _ ?_ (fun _ => ⟨?_, fn100 hE b⟩) ?_ <;> simp only [go_sem, Nat.reduceEqDiff, Nat.reduceBEq, reduceCtorEq, binO]
  grind [cmpBs]
theorem fn74 (hE : Codes E) (x a b : Int) : FnP E 74 [.int .i64 x, .int .i64 a, .int .i64 b] H (.bool (withinI x a b)) := by
  refine Fn.of_vks hE.c74 (by simp [c_record_within_int]) ?_
  simp only [c_record_within_int, c_record_within_int_r0, c_record_within_int_r1]
  simp only [go_sem, Nat.reduceEqDiff, Nat.reduceBEq, Nat.reduceAdd, reduceCtorEq, binO]
  simp [withinI]
theorem fn99 (hE : Codes E) (x a b : Int) : FnP E 99 [.int .u8 x, .int .u8 a, .int .u8 b] H (.bool (withinI x a b)) := by
  refine Fn.of_vks hE.c99 (by simp [c_record_within_byte]) ?_
  simp only [c_record_within_byte, c_record_within_byte_r0, c_record_within_byte_r1]
  simp only [go_sem, Nat.reduceEqDiff, Nat.reduceBEq, Nat.reduceAdd, reduceCtorEq, binO]
  simp [withinI]
theorem fn76 (hE : Codes E) (a : Bs) : FnP E 76 [S a] H (.bool (isWildB a)) := by
  refine Fn.of_vks hE.c76 (by simp [c_record_isWildcard]) ?_
  simp only [c_record_isWildcard, c_record_isWildcard_r0, c_record_isWildcard_r1]
  simp only [go_sem, Nat.reduceBEq, reduceCtorEq]
  refine vks_callp _ ?_ (fun _ => ⟨?_, fn44 hE a [42]⟩) ?_ <;> simp only [go_sem, Nat.reduceEqDiff, Nat.reduceBEq, reduceCtorEq]
  simp [isWildB]
theorem fn53 (hE : Codes E) (x : Int) : FnP E 53 [.int .i64 x] H (.bool (addrOk x)) := by
  refine Fn.of_vks hE.c53 (by simp [c_world_validAddr]) ?_
  simp only [c_world_validAddr, c_world_validAddr_r0, c_world_validAddr_r1]
  simp only [go_sem, Nat.reduceEqDiff, Nat.reduceBEq, reduceCtorEq, binO]
  simp [addrOk]
theorem fn83 (hE : Codes E) (t : Int) (b : Bool) : FnP E 83 [.int .i64 t, .bool b] H (.bool (fitsApexB t b)) := by
  refine Fn.of_vks hE.c83 (by simp [c_zone_fitsApex]) ?_
  simp only [c_zone_fitsApex, c_zone_fitsApex_r0, c_zone_fitsApex_r1, c_zone_fitsApex_r2, c_zone_fitsApex_r3, c_zone_fitsApex_r4, c_zone_fitsApex_r5, c_zone_fitsApex_r6, c_zone_fitsApex_r7, c_zone_fitsApex_r8]
  simp only [go_sem, Nat.reduceEqDiff, Nat.reduceBEq, reduceCtorEq, binO]
  grind [fitsApexB]
theorem bytes_bound (l : Bs) (i : Nat) : 0 ≤ bI l i ∧ bI l i < 256 := by
  unfold bI; have := (l.getD i 0).toNat_lt; omega
theorem fn66 (hE : Codes E) (a : Bs) : FnP E 66 [S a] H (.bool (isLabelB a)) := by
  refine Fn.of_vks hE.c66 (by simp [c_name_isLabel]) ?_
  simp only [c_name_isLabel, c_name_isLabel_r0, c_name_isLabel_r1, c_name_isLabel_r2, c_name_isLabel_r3, c_name_isLabel_r4, c_name_isLabel_r5, c_name_isLabel_r6, c_name_isLabel_r7, c_name_isLabel_r8, c_name_isLabel_r9, c_name_isLabel_r10]
  simp only [go_sem, Nat.reduceEqDiff, Nat.reduceBEq, reduceCtorEq, Int.reduceToNat, Int.reduceLE, binO]
  have e : 1 ≤ a.length → a.length ≤ 12 → IntKind.i64.wrap ((a.length : Int) - 1) = ((a.length - 1 : Nat) : Int) := fun h h' => by rw [wrapI] <;> omega
  refine ⟨fun h => ?_, fun h => ?_, fun h => ?_, fun h => ?_⟩
  · simp at h; simp; omega
  · simp at h; simp [h]; rw [e (by omega) (by omega)]; omega
  · by_cases h1 : 1 ≤ a.length ∧ a.length ≤ 12
    · rw [e h1.1 h1.2, Int.toNat_natCast] at h
      simp [isLabelB, h]
    · have : (decide ((a.length : Int) < 1) || decide ((a.length : Int) > 12)) = true := by simp; omega
      simp [isLabelB, this]
  · have h1 : 1 ≤ a.length ∧ a.length ≤ 12 := by simp at h; omega
    rw [e h1.1 h1.2, Int.toNat_natCast] at h
    have h2 : isLabelB a = allN (fun i => okc (bI a i)) a.length := by simp [isLabelB, h]
    refine vks_loopN a.length 0 (fun k => [(0, ⟨true, .val (S a)⟩), (27, ⟨true, .val (.int .i64 a.length)⟩), (28, ⟨true, .val (.int .i64 k)⟩)]) (fun k => allN (fun i => okc (bI a i)) k = true) (Nat.zero_le _) rfl rfl ?_
    intro k hk hP
    simp only [go_sem, Nat.reduceEqDiff, Nat.reduceBEq, reduceCtorEq, binO]
    rw [wrapS (by omega)]
    have hF : k < a.length → okc (bI a k) = false → allN (fun i => okc (bI a i)) a.length = false := fun h1 h2 => allN_false h1 h2
    have hS : okc (bI a k) = true → allN (fun i => okc (bI a i)) (k + 1) = true := fun h => allN_succ hP h
    clear e h
    grind [okc]
theorem fn91 (hE : Codes E) (a : Bs) : FnP E 91 [S a] H (.bool (isFreeB a)) := by
  refine Fn.of_vks hE.c91 (by simp [c_record_isFree]) ?_
  simp only [c_record_isFree, c_record_isFree_r0, c_record_isFree_r1, c_record_isFree_r2, c_record_isFree_r3, c_record_isFree_r4, c_record_isFree_r5, c_record_isFree_r6, c_record_isFree_r7, c_record_isFree_r8, c_record_isFree_r9, c_record_isFree_r10]
  simp only [go_sem, Nat.reduceBEq, reduceCtorEq]
  refine vks_callp _ ?_ (fun _ => ⟨?_, fn74 hE _ _ _⟩) ?_ <;> simp only [go_sem, Nat.reduceEqDiff, Nat.reduceBEq, reduceCtorEq, Int.reduceToNat, Int.reduceLE, binO]
  have e : withinI a.length 1 40 = true → IntKind.i64.wrap ((a.length : Int) - 1) = ((a.length - 1 : Nat) : Int) := fun h => by simp [withinI] at h; rw [wrapI] <;> omega
  have e' : withinI a.length 1 40 = true → 1 ≤ a.length ∧ a.length ≤ 40 := fun h => by simp [withinI] at h; omega
  refine ⟨fun h => ?_, fun h => ?_, fun h => ?_, fun h => ?_⟩
  · exact ⟨h, by have := e' h; omega⟩
  · refine ⟨h, h, ?_⟩
    simp at h; rw [e h.1]; have := e' h.1; omega
  · by_cases h1 : withinI a.length 1 40 = true
    · rw [e h1, Int.toNat_natCast] at h
      simp [isFreeB, h]
    · simp [isFreeB, h1]
  · have h1 : withinI a.length 1 40 = true := by simp at h; exact h.1.1
    rw [e h1, Int.toNat_natCast] at h
    have h2 : isFreeB a = allN (fun i => !(!withinI (bI a i) 97 122 && !withinI (bI a i) 48 57 && bI a i != 32)) a.length := by simp [isFreeB, h]
    have h3 := e' h1
    refine vks_loopN a.length 0 (fun k => [(0, ⟨true, .val (S a)⟩), (23, ⟨true, .val (.int .i64 a.length)⟩), (24, ⟨true, .val (.int .i64 k)⟩)]) (fun k => allN (fun i => !(!withinI (bI a i) 97 122 && !withinI (bI a i) 48 57 && bI a i != 32)) k = true) (Nat.zero_le _) rfl rfl ?_
    intro k hk hP
    simp only [go_sem, Nat.reduceEqDiff, Nat.reduceBEq, reduceCtorEq, binO]
    have hF : k < a.length → (!(!withinI (bI a k) 97 122 && !withinI (bI a k) 48 57 && bI a k != 32)) = false → allN (fun i => !(!withinI (bI a i) 97 122 && !withinI (bI a i) 48 57 && bI a i != 32)) a.length = false := fun h1 h2 => allN_false h1 h2
    have hS : (!(!withinI (bI a k) 97 122 && !withinI (bI a k) 48 57 && bI a k != 32)) = true → allN (fun i => !(!withinI (bI a i) 97 122 && !withinI (bI a i) 48 57 && bI a i != 32)) (k + 1) = true := fun h => allN_succ hP h
    clear e e' h
    refine ⟨fun h => ⟨by simp at h; omega, ?_⟩, by grind⟩
    refine vks_callp _ ?_ (fun _ => ⟨?_, fn99 hE (bI a k) 97 122⟩) ?_ <;> simp only [go_sem, Nat.reduceEqDiff, Nat.reduceBEq, reduceCtorEq]
    refine vks_callp _ ?_ (fun hg => ⟨?_, fn99 hE (bI a k) 48 57⟩) ?_ <;> simp only [go_sem, Nat.reduceEqDiff, Nat.reduceBEq, reduceCtorEq, binO]
    · simp only [go_sem, Nat.reduceEqDiff, reduceCtorEq] at hg; exact hg
    · rw [wrapS (by omega)]
      grind
end Go.SL

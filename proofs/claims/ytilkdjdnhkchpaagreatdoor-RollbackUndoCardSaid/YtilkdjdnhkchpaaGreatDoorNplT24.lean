/- Contract: internal/bytealg.LastIndexByteString. -/
import Derived.Test.YtilkdjdnhkchpaaGreatDoorNplO
import Derived.Test.YtilkdjdnhkchpaaGreatDoorNplM2
namespace Go.SL
open Go
variable {E : Env} {H : Hp}

theorem byte46 (x : UInt8) : ((x.toNat : Int) == 46) = decide (x = 46) := by
  rw [Bool.eq_iff_iff, beq_iff_eq, decide_eq_true_eq]
  constructor
  · intro h
    apply UInt8.toNat_inj.1
    have : x.toNat = 46 := by omega
    rw [this]; rfl
  · rintro rfl; rfl
theorem fn98 (hc : chkFunc E (E.fn 98) c_internal_bytealg_LastIndexByteString = true) (l : Bs) (hl : l.length ≤ 60) : FnP E 98 [S l, .int .u8 46] H (.int .i64 (ixI (lastIx 46 l))) := by
  refine Fn.of_vks hc (by simp [c_internal_bytealg_LastIndexByteString]) ?_
  simp only [c_internal_bytealg_LastIndexByteString, c_internal_bytealg_LastIndexByteString_r0, c_internal_bytealg_LastIndexByteString_r1, c_internal_bytealg_LastIndexByteString_r2, c_internal_bytealg_LastIndexByteString_r3, c_internal_bytealg_LastIndexByteString_r4, c_internal_bytealg_LastIndexByteString_r5, c_internal_bytealg_LastIndexByteString_r6]
  have e0 : IntKind.i64.wrap ((l.length : Int) - 1) = (l.length : Int) - 1 := wrapI (by omega)
  simp only [e0, go_sem, Nat.reduceEqDiff, Nat.reduceBEq, reduceCtorEq, binO]
  refine vks_loopM (fun m fr' H' => m ≤ l.length ∧ fr' = [(0, ⟨true, .val (S l)⟩), (1, ⟨true, .val (.int .u8 46)⟩), (5, ⟨true, .val (.int .i64 ((m : Int) - 1))⟩)] ∧ H' = H ∧ lastIx 46 l = lastIxN 46 l m) l.length ⟨Nat.le_refl _, rfl, rfl, rfl⟩ ?_
  rintro m fr' H' ⟨hm, rfl, rfl, hx⟩
  cases m with
  | zero =>
    have hd : decide (((0 : Nat) : Int) - 1 ≥ 0) = false := by decide
    simp only [hd, go_sem, Nat.reduceEqDiff, Nat.reduceBEq, reduceCtorEq, binO]
    rw [hx]; rfl
  | succ j =>
    have hd : decide (((j + 1 : Nat) : Int) - 1 ≥ 0) = true := by rw [decide_eq_true_eq]; omega
    have e1 : (((j + 1 : Nat) : Int) - 1).toNat = j := by omega
    have e2 : IntKind.i64.wrap ((((j + 1 : Nat) : Int) - 1) - 1) = (j : Int) - 1 := by rw [wrapI] <;> omega
    simp only [hd, e1, e2, go_sem, Nat.reduceEqDiff, Nat.reduceBEq, reduceCtorEq, binO]
    have hb : (bI l j == 46) = decide (l.getD j 0 = 46) := byte46 _
    simp only [lastIxN] at hx
    refine ⟨by omega, fun h => ?_, fun h => ?_⟩
    · rw [hb, decide_eq_true_eq] at h
      rw [hx, if_pos h]
      simp only [ixI]; omega
    · rw [hb, decide_eq_false_iff_not] at h
      exact ⟨j, by omega, by omega, rfl, by rw [hx, if_neg h]⟩
end Go.SL

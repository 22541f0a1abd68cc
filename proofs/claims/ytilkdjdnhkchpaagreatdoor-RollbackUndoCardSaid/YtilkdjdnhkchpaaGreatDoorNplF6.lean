/- Closed facts of the row and of the card. -/
import Derived.Test.YtilkdjdnhkchpaaGreatDoorRows
import Derived.OpenShut
import Derived.ProofKit
import Derived.SevenTiedAt
namespace Go.Proofs.YtilkdjdnhkchpaaGreatDoor.facts
open Go
set_option maxRecDepth 100000
theorem hfn : Tryz.prog.funcNamed Rows.rollbackUndoRow.func = some 3 := by kernel_rfl
theorem inst : Tryz.f3.isInstance Tryz.prog Rows.rollbackUndoRow.origin Rows.rollbackUndoRow.targs := of_decide_eq_true (by kernel_rfl)
theorem wrapper : Tryz.f3.isWrapper Tryz.prog Rows.rollbackUndoRow.wrapper Rows.rollbackUndoRow.mainSum := by
  unfold Func.isWrapper; first | (rw [if_pos (by decide +kernel)]; kernel_rfl) | (rw [if_neg (by decide +kernel)]; exact ⟨rfl, rfl⟩)
theorem wfText : Rows.rollbackUndoRow.wfByText (OpenSpec.ofChange Rows.rollbackUndoSpec) = true := by kernel_rfl
theorem mainT : Tryz.prog.mainIs = some (true, "4b1950d8c3e91f61a0f98ae7f3d40090b7f2a1c133a40b30d3d577e37f1348fe".toList) := by kernel_rfl
theorem looksT : false = Tryz.prog.looks [] := by kernel_rfl
theorem want29 : Tryz.prog.wantsStandIn 29 = false := by kernel_rfl
theorem want31 : Tryz.prog.wantsStandIn 31 = false := by kernel_rfl
end Go.Proofs.YtilkdjdnhkchpaaGreatDoor.facts

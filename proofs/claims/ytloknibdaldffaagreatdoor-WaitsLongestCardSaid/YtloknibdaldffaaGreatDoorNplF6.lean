/- Closed facts of the row and of the card. -/
import Derived.Test.YtloknibdaldffaaGreatDoorRows
import Derived.OpenShut
import Derived.ProofKit
import Derived.SevenTiedAt
namespace Go.Proofs.YtloknibdaldffaaGreatDoor.facts
open Go
set_option maxRecDepth 100000
theorem hfn : Tryz.prog.funcNamed Rows.waitsLongestRow.func = some 3 := by kernel_rfl
theorem inst : Tryz.f3.isInstance Tryz.prog Rows.waitsLongestRow.origin Rows.waitsLongestRow.targs := of_decide_eq_true (by kernel_rfl)
theorem wrapper : Tryz.f3.isWrapper Tryz.prog Rows.waitsLongestRow.wrapper Rows.waitsLongestRow.mainSum := by
 unfold Func.isWrapper; first | (rw [if_pos (by decide +kernel)]; kernel_rfl) | (rw [if_neg (by decide +kernel)]; exact ⟨rfl,rfl⟩)
theorem wfText : Rows.waitsLongestRow.wfByText (OpenSpec.ofChange Rows.waitsLongestSpec) = true := by kernel_rfl
theorem mainT : Tryz.prog.mainIs = some (true, "2d6c843e2570317de6a365ff78e2da02195126c14acb8a9a7b8f0751213392c9".toList) := by kernel_rfl
theorem looksT : false = Tryz.prog.looks [] := by kernel_rfl
theorem want0 : Tryz.prog.wantsStandIn 29 = false := by kernel_rfl
theorem want1 : Tryz.prog.wantsStandIn 9 = false := by kernel_rfl
theorem want2 : Tryz.prog.wantsStandIn 3 = false := by kernel_rfl
end Go.Proofs.YtloknibdaldffaaGreatDoor.facts

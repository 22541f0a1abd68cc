/- Closed facts of the row and of the card. -/
import Derived.Test.YthedjffolgeomaaGreatDoorRows
import Derived.OpenShut
import Derived.ProofKit
import Derived.SevenTiedAt
namespace Go.Proofs.YthedjffolgeomaaGreatDoor.facts
open Go
set_option maxRecDepth 100000
theorem hfn:Tryz.prog.funcNamed Rows.waitsAloneRow.func=some 4:=by kernel_rfl
theorem inst:Tryz.f4.isInstance Tryz.prog Rows.waitsAloneRow.origin Rows.waitsAloneRow.targs:=of_decide_eq_true (by kernel_rfl)
theorem wrapper : Tryz.f4.isWrapper Tryz.prog Rows.waitsAloneRow.wrapper Rows.waitsAloneRow.mainSum := by
 unfold Func.isWrapper; first | (rw [if_pos (by decide +kernel)]; kernel_rfl) | (rw [if_neg (by decide +kernel)]; exact⟨rfl,rfl⟩)
theorem wfText:Rows.waitsAloneRow.wfByText (OpenSpec.ofChange Rows.waitsAloneSpec)=true:=by kernel_rfl
theorem mainT : Tryz.prog.mainIs = some (true, "f900c9062af7a0b380609bb771cd60bb0f426c0455daace22d766d7b067d8054".toList) := by kernel_rfl
theorem looksT:false=Tryz.prog.looks []:=by kernel_rfl
theorem want0:Tryz.prog.wantsStandIn 29=false:=by kernel_rfl
theorem want1:Tryz.prog.wantsStandIn 9=false:=by kernel_rfl
theorem want2:Tryz.prog.wantsStandIn 3=false:=by kernel_rfl
theorem want3:Tryz.prog.wantsStandIn 52=false:=by kernel_rfl
end Go.Proofs.YthedjffolgeomaaGreatDoor.facts

/- A closed fact of the card. -/
import Derived.Test.YthedjffolgeomaaGreatDoorRows
import Derived.OpenShut
import Derived.ProofKit
import Derived.SevenTiedAt
namespace Go.Proofs.YthedjffolgeomaaGreatDoor.facts
open Go
set_option maxRecDepth 100000
theorem yWf:Tryz.prog.funcs.any Func.goes=false:=by kernel_rfl
theorem yWA (g : FuncId) : (Tryz.prog.funcs[g]?).any Func.goes = false := by
 cases hg:Tryz.prog.funcs[g]? with
 | none=>rfl
 | some fn =>
  have h:=Array.any_eq_false.1 yWf
  obtain⟨hlt,he⟩:=Array.getElem?_eq_some_iff.1 hg
  have:=h g hlt
  rw [he] at this
  simpa using this
theorem yVw (f : FuncId) : Tryz.prog.goes f = false := by
 unfold Program.goes
 rw [yWf,Bool.and_false,Bool.or_false]
 simp only [yWA]
 simp
theorem goesT : false = Rows.waitsAloneRow.goesBy Tryz.prog := by
 unfold OpenClaim.goesBy Program.goesAt Program.goesFrom
 have h:Tryz.prog.goes=fun _=>false:=funext yVw
 rw [h]
 have hs:Rows.waitsAloneRow.start = .entering:=rfl
 rw [hs]
 cases Tryz.prog.funcNamed Rows.waitsAloneRow.func<;>rfl
end Go.Proofs.YthedjffolgeomaaGreatDoor.facts

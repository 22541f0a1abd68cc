/- A closed fact of the card. -/
import Derived.Test.YtloknibdaldffaaGreatDoorRows
import Derived.OpenShut
import Derived.ProofKit
import Derived.SevenTiedAt
namespace Go.Proofs.YtloknibdaldffaaGreatDoor.facts
open Go
set_option maxRecDepth 100000
theorem noGo : Tryz.prog.funcs.any Func.goes = false := by kernel_rfl
theorem noGo1 (g : FuncId) : (Tryz.prog.funcs[g]?).any Func.goes = false := by
 cases hg : Tryz.prog.funcs[g]? with
 | none => rfl
 | some fn =>
  have h := Array.any_eq_false.1 noGo
  obtain ⟨hlt,he⟩ := Array.getElem?_eq_some_iff.1 hg
  have := h g hlt
  rw [he] at this
  simpa using this
theorem noGoes (f : FuncId) : Tryz.prog.goes f = false := by
 unfold Program.goes
 rw [noGo,Bool.and_false,Bool.or_false]
 simp only [noGo1]
 simp
theorem goesT : false = Rows.waitsLongestRow.goesBy Tryz.prog := by
 unfold OpenClaim.goesBy Program.goesAt Program.goesFrom
 have h : Tryz.prog.goes = fun _ => false := funext noGoes
 rw [h]
 have hs : Rows.waitsLongestRow.start = .entering := rfl
 rw [hs]
 cases Tryz.prog.funcNamed Rows.waitsLongestRow.func <;> rfl
end Go.Proofs.YtloknibdaldffaaGreatDoor.facts

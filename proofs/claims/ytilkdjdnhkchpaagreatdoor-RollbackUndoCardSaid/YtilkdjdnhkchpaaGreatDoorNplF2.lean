/- Closed facts of the row. -/
import Derived.Test.YtilkdjdnhkchpaaGreatDoorRows
import Derived.OpenShut
import Derived.ProofKit
namespace Go.Proofs.YtilkdjdnhkchpaaGreatDoor.facts
open Go
set_option maxRecDepth 100000
theorem unfollowed : (Rows.rollbackUndoRow.unfollowed == Tryz.prog.unfollowed 3) = true := by kernel_rfl
end Go.Proofs.YtilkdjdnhkchpaaGreatDoor.facts

/- Closed facts of the row. -/
import Derived.Test.YtloknibdaldffaaGreatDoorRows
import Derived.OpenShut
import Derived.ProofKit
namespace Go.Proofs.YtloknibdaldffaaGreatDoor.facts
open Go
set_option maxRecDepth 100000
theorem inPlace : (Rows.waitsLongestRow.inPlace == Tryz.prog.inPlace 3) = true := by kernel_rfl
end Go.Proofs.YtloknibdaldffaaGreatDoor.facts

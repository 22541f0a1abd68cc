/- Closed facts of the row, joined. -/
import Derived.Test.YtloknibdaldffaaGreatDoorNplF1
import Derived.Test.YtloknibdaldffaaGreatDoorNplF2
import Derived.Test.YtloknibdaldffaaGreatDoorNplF3
import Derived.Test.YtloknibdaldffaaGreatDoorNplF4
import Derived.Test.YtloknibdaldffaaGreatDoorNplF5
import Derived.Test.YtloknibdaldffaaGreatDoorRows
import Derived.OpenShut
import Derived.ProofKit
namespace Go.Proofs.YtloknibdaldffaaGreatDoor.facts
open Go
set_option maxRecDepth 100000
theorem joined : joinedFacts Tryz.prog 3 Tryz.f3 (OpenSpec.ofChange Rows.waitsLongestSpec).bare Rows.waitsLongestRow = true := by
 simp only [joinedFacts,Bool.and_eq_true]
 exact ⟨⟨⟨⟨⟨⟨⟨⟨⟨⟨⟨⟨⟨⟨⟨⟨⟨⟨⟨⟨⟨⟨⟨⟨⟨⟨⟨⟨⟨⟨⟨wf,laidOut⟩,mapsRowed⟩,params⟩,namedTie⟩,stops1⟩,stops2⟩,knobs1⟩,knobs2⟩,inPlace⟩,unfollowed⟩,recurses⟩,named⟩,maps⟩,ifaces⟩,mapsOut⟩,loops⟩,wideKeys⟩,vars⟩,results⟩,ifacesOut⟩,loopsOut⟩,plainKeys⟩,shortTexts⟩,stopsHeard⟩,mayEnter⟩,lifted⟩,make⟩,kinds⟩,pinned⟩,veiled⟩,veiledFits⟩
end Go.Proofs.YtloknibdaldffaaGreatDoor.facts

/- Closed facts of the row, joined. -/
import Derived.Test.YthedjffolgeomaaGreatDoorMNplF1m
import Derived.Test.YthedjffolgeomaaGreatDoorMNplF2m
import Derived.Test.YthedjffolgeomaaGreatDoorMNplF3m
import Derived.Test.YthedjffolgeomaaGreatDoorMNplF4m
import Derived.Test.YthedjffolgeomaaGreatDoorMNplF5m
import Derived.Test.YthedjffolgeomaaGreatDoorRows
import Derived.OpenShut
import Derived.ProofKit
namespace Go.Proofs.YthedjffolgeomaaGreatDoor.facts
open Go
set_option maxRecDepth 100000
theorem joined : joinedFacts Tryz.prog 3 Tryz.f3 (OpenSpec.ofChange Rows.waitsMomentsSpec).bare Rows.waitsMomentsRow = true := by
 simp only [joinedFacts,Bool.and_eq_true]
 exact⟨⟨⟨⟨⟨⟨⟨⟨⟨⟨⟨⟨⟨⟨⟨⟨⟨⟨⟨⟨⟨⟨⟨⟨⟨⟨⟨⟨⟨⟨⟨wf,laidOut⟩,mapsRowed⟩,params⟩,namedTie⟩,yVL⟩,yWt⟩,yWv⟩,yVh⟩,inPlace⟩,unfollowed⟩,recurses⟩,named⟩,maps⟩,ifaces⟩,mapsOut⟩,loops⟩,wideKeys⟩,vars⟩,results⟩,ifacesOut⟩,loopsOut⟩,plainKeys⟩,shortTexts⟩,stopsHeard⟩,mayEnter⟩,lifted⟩,make⟩,kinds⟩,pinned⟩,veiled⟩,veiledFits⟩
end Go.Proofs.YthedjffolgeomaaGreatDoor.facts

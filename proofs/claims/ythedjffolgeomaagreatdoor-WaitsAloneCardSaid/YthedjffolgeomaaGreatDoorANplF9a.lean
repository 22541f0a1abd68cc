/- Closed facts of the row, joined. -/
import Derived.Test.YthedjffolgeomaaGreatDoorANplF1a
import Derived.Test.YthedjffolgeomaaGreatDoorANplF2a
import Derived.Test.YthedjffolgeomaaGreatDoorANplF3a
import Derived.Test.YthedjffolgeomaaGreatDoorANplF4a
import Derived.Test.YthedjffolgeomaaGreatDoorANplF5a
import Derived.Test.YthedjffolgeomaaGreatDoorRows
import Derived.OpenShut
import Derived.ProofKit
namespace Go.Proofs.YthedjffolgeomaaGreatDoor.facts
open Go
set_option maxRecDepth 100000
theorem joined : joinedFacts Tryz.prog 4 Tryz.f4 (OpenSpec.ofChange Rows.waitsAloneSpec).bare Rows.waitsAloneRow = true := by
 simp only [joinedFacts,Bool.and_eq_true]
 exact⟨⟨⟨⟨⟨⟨⟨⟨⟨⟨⟨⟨⟨⟨⟨⟨⟨⟨⟨⟨⟨⟨⟨⟨⟨⟨⟨⟨⟨⟨⟨wf,laidOut⟩,mapsRowed⟩,params⟩,namedTie⟩,yWr⟩,yVp⟩,yWn⟩,yWk⟩,inPlace⟩,unfollowed⟩,recurses⟩,named⟩,maps⟩,ifaces⟩,mapsOut⟩,loops⟩,wideKeys⟩,vars⟩,results⟩,ifacesOut⟩,loopsOut⟩,plainKeys⟩,shortTexts⟩,stopsHeard⟩,mayEnter⟩,lifted⟩,make⟩,kinds⟩,pinned⟩,veiled⟩,veiledFits⟩
end Go.Proofs.YthedjffolgeomaaGreatDoor.facts

/- The seat: the contract of the law WaitsAlone. -/
import Derived.Test.YthedjffolgeomaaGreatDoorANplZ6
import Derived.Test.YthedjffolgeomaaGreatDoorANplX50
namespace Go.SL
open Go Go.Proofs
theorem yUN:zD.fn 227=4:=by kernel_rfl
theorem xBV {H : Hp} (hB : qU zD H) (hB2 : uD zD H) {v : Value} {h : yO} (hh : vV H v h) (hs : ∀ c ∈ h.copies, zBO c.sets) (zone : Bs) (t later : Int) (h0 : 0 ≤ later) (h1 : later ≤ 65535) : yB zD 227 [v, S zone, .int .i64 t, .int .u16 later] H (.bool true) :=
 yXe yQj zUN zTA yAG yUI yTp hB hB2 (yZO H hB hB2) hh hs zone t later h0 h1
end Go.SL

/- The seat: sorting; the contract of the law WaitsMoments. -/
import Derived.Test.YthedjffolgeomaaGreatDoorMNplZ6
import Derived.Test.YthedjffolgeomaaGreatDoorMNplZ8
import Derived.Test.YthedjffolgeomaaGreatDoorMNplX46
import Derived.Test.YthedjffolgeomaaGreatDoorMNplX33
import Derived.Shelf.Sort.Plain
namespace Go.SL
open Go Go.Proofs Go.Sort
theorem yUK:zD.fn 225=3:=by kernel_rfl
theorem yVx:zD.fn 160=61:=by kernel_rfl
theorem yYi : zFq zD pZ 1000000 := by
 refine yJG ?_
 rw [yVx]
 intro blk off cap zs w hH hb hs
 exact Any.slices_Sort_int Tryz.lays189 blk off cap zs w hH hb hs
theorem xBN {H : Hp} (hB : qT zD H) (hB2 : qC zD H) {v : Value} {h : yA} (hh : vS H v h) (hs : ∀ c ∈ h.copies, zBV c.sets) (t : Int) : yD zD 225 [v, .int .i64 t] H (.bool true) :=
 yXc yOs yCN zYG zWX yUj yTs yYi hB hB2 (yWw H hB hB2) hh hs t
end Go.SL

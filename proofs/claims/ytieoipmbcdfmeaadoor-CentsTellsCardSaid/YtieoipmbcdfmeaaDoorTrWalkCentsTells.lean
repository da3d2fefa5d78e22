/- CentsTells is true at every input. -/
import Derived.Test.YtieoipmbcdfmeaaDoorTrCa10
import Derived.Test.YtieoipmbcdfmeaaDoorTrWalkCentsAdds
import Derived.Test.YtieoipmbcdfmeaaDoorTrSayCentsTells
namespace Go.Proofs.YtieoipmbcdfmeaaDoor
open Go Go.RowKit
open Ab
theorem walk_CentsTells : SayCentsTells := fun c s W hJ wc ws =>
  enter_call (vals := [.int .i64 c, .string s]) Tryd.func4 (by kernel_rfl) (by kernel_rfl) (K_CentsTells c (i64_wf wc) s.data.toList) hJ (by simp [RelVs, RelV, RelD])
end Go.Proofs.YtieoipmbcdfmeaaDoor

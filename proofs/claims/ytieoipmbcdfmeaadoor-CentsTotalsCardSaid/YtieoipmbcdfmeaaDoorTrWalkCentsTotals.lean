/- CentsTotals is true at every input. -/
import Derived.Test.YtieoipmbcdfmeaaDoorTrWalkCentsAdds
import Derived.Test.YtieoipmbcdfmeaaDoorTrSayCentsTotals
namespace Go.Proofs.YtieoipmbcdfmeaaDoor
open Go Go.RowKit
open Ab
theorem walk_CentsTotals : SayCentsTotals := fun a rows cap W hJ hr => by
  obtain ⟨xs, hw, hrel⟩ := imm_of_ints hJ hr
  exact enter_call (vals := [.slice a rows.length cap]) Tryd.func3 (by kernel_rfl) (by kernel_rfl) (K_CentsTotals xs fun x hx => i64_wf (hw x hx)) hJ ⟨_, _, rfl, hrel, rfl⟩
end Go.Proofs.YtieoipmbcdfmeaaDoor

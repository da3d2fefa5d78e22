/- CentsTimes is true at every input. -/
import Derived.Test.YtieoipmbcdfmeaaDoorTrCa7
import Derived.Test.YtieoipmbcdfmeaaDoorTrWalkCentsAdds
import Derived.Test.YtieoipmbcdfmeaaDoorTrSayCentsTimes
namespace Go.Proofs.YtieoipmbcdfmeaaDoor
open Go Go.RowKit
open Ab
theorem u8_wf {n : Int} (h : (Lit.int .u8 n).wf = true) : 0 ≤ n ∧ n ≤ 255 := by
  have e1 : IntKind.u8.min = 0 := rfl
  have e2 : IntKind.u8.max = 255 := rfl
  simpa [Lit.wf, e1, e2] using h
theorem walk_CentsTimes : SayCentsTimes := fun a b W hJ wa wb =>
  enter_call (vals := [.int .i64 a, .int .u8 b]) Tryd.func6 (by kernel_rfl) (by kernel_rfl) (K_CentsTimes a b (i64_wf wa) (u8_wf wb)) hJ (by simp [RelVs, RelV, RelD])
end Go.Proofs.YtieoipmbcdfmeaaDoor

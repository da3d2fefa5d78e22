/- CentsAdds is true at every input. -/
import Derived.Test.YtieoipmbcdfmeaaDoorTrCa6
import Derived.Test.YtieoipmbcdfmeaaDoorTrEnt
import Derived.Test.YtieoipmbcdfmeaaDoorTrSayCentsAdds
namespace Go.Proofs.YtieoipmbcdfmeaaDoor
open Go Go.RowKit
open Ab
theorem i64_wf {n : Int} (h : (Lit.int .i64 n).wf = true) : I64 n := by
  have e1 : IntKind.i64.min = -9223372036854775808 := rfl
  have e2 : IntKind.i64.max = 9223372036854775807 := rfl
  simpa [Lit.wf, e1, e2, I64] using h
theorem walk_CentsAdds : SayCentsAdds := fun a b c W hJ wa wb wc =>
  enter_call (vals := [.int .i64 a, .int .i64 b, .int .i64 c]) Tryd.func7 (by kernel_rfl) (by kernel_rfl) (K_CentsAdds a b c (i64_wf wa) (i64_wf wb) (i64_wf wc)) hJ (by simp [RelVs, RelV, RelD])
end Go.Proofs.YtieoipmbcdfmeaaDoor

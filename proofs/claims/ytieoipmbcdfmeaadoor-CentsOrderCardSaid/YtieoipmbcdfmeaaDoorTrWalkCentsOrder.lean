/- CentsOrder is true at every input. -/
import Derived.Test.YtieoipmbcdfmeaaDoorTrCa8
import Derived.Test.YtieoipmbcdfmeaaDoorTrWalkCentsTimes
import Derived.Test.YtieoipmbcdfmeaaDoorTrSayCentsOrder
namespace Go.Proofs.YtieoipmbcdfmeaaDoor
open Go Go.RowKit
open Ab
theorem walk_CentsOrder : SayCentsOrder := fun a rows cap b c W hJ hr wb wc => by
  obtain ⟨xs, hw, hrel⟩ := imm_of_ints hJ hr
  have hb := u8_wf wb
  have hc := u8_wf wc
  obtain ⟨b, rfl⟩ : ∃ m : Nat, b = m := ⟨b.toNat, by omega⟩
  obtain ⟨c, rfl⟩ : ∃ m : Nat, c = m := ⟨c.toNat, by omega⟩
  exact enter_call (vals := [.slice a rows.length cap, .int .u8 b, .int .u8 c]) Tryd.func5 (by kernel_rfl) (by kernel_rfl) (K_CentsOrder xs (fun x hx => i64_wf (hw x hx)) b c (by omega) (by omega)) hJ ⟨_, _, rfl, hrel, _, _, rfl, rfl, _, _, rfl, rfl, rfl⟩
end Go.Proofs.YtieoipmbcdfmeaaDoor

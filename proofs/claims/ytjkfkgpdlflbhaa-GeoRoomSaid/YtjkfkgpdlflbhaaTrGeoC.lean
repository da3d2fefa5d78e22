/- The geometry's functions by contract. -/
import Derived.Test.YtjkfkgpdlflbhaaTrGeoGeoChecks
import Derived.Test.YtjkfkgpdlflbhaaTrHeap
namespace Go.Proofs.Ytjkfkgpdlflbhaa
open Go.RowKit Go.Sort
open PGeoChecks Tr
set_option linter.unusedVariables false
theorem C_right (a b c : Int) (w : World) : Calls Try.prog 17 #[.agg #[.int .i64 a, .int .i64 b, .int .i64 c]] w fun e w' => e = .returned (.bool (decide (Rt a b c))) ∧ Below w.heap.size w w' :=
  nand_Shape_Right.calls a b c _ w (right_eq a b c)
theorem C_right_yes (a b c : Int) (h : Rt a b c) (w : World) : Calls Try.prog 17 #[.agg #[.int .i64 a, .int .i64 b, .int .i64 c]] w fun e w' => e = .returned (.bool true) ∧ Below w.heap.size w w' := by
  have := C_right a b c w; rwa [decide_eq_true h] at this
theorem C_right_no (a b c : Int) (h : ¬ Rt a b c) (w : World) : Calls Try.prog 17 #[.agg #[.int .i64 a, .int .i64 b, .int .i64 c]] w fun e w' => e = .returned (.bool false) ∧ Below w.heap.size w w' := by
  have := C_right a b c w; rwa [decide_eq_false h] at this
theorem C_check_yes (a b c k l t v : Int) (hm : May a b c k l t v) (hk : -9223372036854775808 ≤ k ∧ k ≤ 9223372036854775807) (w : World) :
    Calls Try.prog 13 #[.agg #[.int .i64 a, .int .i64 b, .int .i64 c, .int .i64 k, .int .i64 l, .int .i64 t, .int .i64 v]] w fun e w' => e = .returned (.int .i64 0) ∧ Below w.heap.size w w' := by
  have := geo_Config_Check.calls a b c k l t v _ w (check_eq a b c k l t v hk); unfold chk at this; rwa [if_pos hm] at this
theorem C_check_no (a b c k l t v : Int) (hm : ¬ May a b c k l t v) (hk : -9223372036854775808 ≤ k ∧ k ≤ 9223372036854775807) (w : World) :
    Calls Try.prog 13 #[.agg #[.int .i64 a, .int .i64 b, .int .i64 c, .int .i64 k, .int .i64 l, .int .i64 t, .int .i64 v]] w fun e w' => e = .returned (.int .i64 2) ∧ Below w.heap.size w w' := by
  have := geo_Config_Check.calls a b c k l t v _ w (check_eq a b c k l t v hk); unfold chk at this; rwa [if_neg hm] at this
theorem C_room (a b c k : Int) (hk : -9223372036854775808 ≤ k ∧ k ≤ 9223372036854775807) (w : World) : Calls Try.prog 18 #[.agg #[.int .i64 a, .int .i64 b, .int .i64 c], .int .i64 k] w fun e w' => e = .returned (.int .i64 (room a b c k)) ∧ Below w.heap.size w w' :=
  geo_Room.calls a b c k _ w (room_eq a b c k hk)
theorem C_check (a b c k l t v : Int) (hk : -9223372036854775808 ≤ k ∧ k ≤ 9223372036854775807) (w : World) :
    Calls Try.prog 13 #[.agg #[.int .i64 a, .int .i64 b, .int .i64 c, .int .i64 k, .int .i64 l, .int .i64 t, .int .i64 v]] w fun e w' => e = .returned (.int .i64 (chk a b c k l t v)) ∧ Below w.heap.size w w' :=
  geo_Config_Check.calls a b c k l t v _ w (check_eq a b c k l t v hk)
theorem C_wakes (w : World) : Calls Try.prog 12 #[] w fun e w' => e = .returned (.bool true) ∧ Below w.heap.size w w' :=
  tillrolllaw07_wakes.calls true w wakes_eq
theorem C_of (a b c k l t v : Int) (w : World) : Calls Try.prog 11 #[.agg #[.int .i64 a, .int .i64 b, .int .i64 c, .int .i64 k, .int .i64 l, .int .i64 t, .int .i64 v]] w fun e w' =>
    e = .returned (.agg #[.int .i64 a, .int .i64 b, .int .i64 c, .int .i64 k, .int .i64 l, .int .i64 t, .int .i64 v]) ∧ Below w.heap.size w w' :=
  tillrolllaw07_of.calls a b c k l t v _ _ _ _ _ _ _ w rfl

end Go.Proofs.Ytjkfkgpdlflbhaa

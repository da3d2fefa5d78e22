/- ChartOrder is true at every input. -/
import Derived.Test.YteakfibolfapiaaTrCo2
import Derived.Test.YteakfibolfapiaaTrEnt3
import Derived.Test.YteakfibolfapiaaTrSayChartOrder
namespace Go.Proofs.Yteakfibolfapiaa
open Go Go.RowKit
open Ab
theorem code_of {r : List Value} (h : Tr.Cells [.int .u16] r) : gU (r.map dOf) := by
  obtain ⟨v0, t, rfl, ⟨a, rfl, ha⟩, rfl⟩ := h
  exact ⟨a, rfl, u16_wf ha⟩
theorem walk_ChartOrder : SayChartOrder := fun a rows cap m W hr wm => by
  refine enter_call (vals := [.slice a rows.length cap, .int .u8 m]) Try.func3 (by kernel_rfl) (by kernel_rfl) (CallE.fin (K_Order0 (rows.map fun r : List Value => r.map dOf) (fun r hr' => ?_) m (u8_wf wm))) ⟨_, _, rfl, imm_of_rows hr, _, _, rfl, rfl, rfl⟩
  obtain ⟨q, hq, rfl⟩ := List.mem_map.1 hr'
  obtain ⟨i, hi⟩ := List.getElem?_of_mem hq
  exact code_of (hr.2.2.2.1 i q hi)
end Go.Proofs.Yteakfibolfapiaa

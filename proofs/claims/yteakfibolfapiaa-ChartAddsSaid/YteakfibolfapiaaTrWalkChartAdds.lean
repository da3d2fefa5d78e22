/- ChartAdds is true at every input. -/
import Derived.Test.YteakfibolfapiaaTrCad
import Derived.Test.YteakfibolfapiaaTrEnt3
import Derived.Test.YteakfibolfapiaaTrSayChartAdds
namespace Go.Proofs.Yteakfibolfapiaa
open Go Go.RowKit
open Ab
theorem acc_of {r : List Value} (h : Tr.Cells [.int .i64, .int .u8, .str] r) : gAc (r.map dOf) := by
  obtain ⟨v0, t, rfl, ⟨a, rfl, ha⟩, v1, t1, rfl, ⟨b, rfl, hb⟩, v2, t2, rfl, ⟨c, rfl, hc⟩, rfl⟩ := h
  exact ⟨a, b, c.data.toList, rfl⟩
theorem walk_ChartAdds : SayChartAdds := fun a rows cap code W hr wc => by
  refine enter_call (vals := [.slice a rows.length cap, .int .i64 code]) Try.func6 (by kernel_rfl) (by kernel_rfl) (CallE.fin (K_Adds0 (rows.map fun r : List Value => r.map dOf) (fun r hr' => ?_) code)) ⟨_, _, rfl, imm_of_rows hr, _, _, rfl, rfl, rfl⟩
  obtain ⟨q, hq, rfl⟩ := List.mem_map.1 hr'
  obtain ⟨i, hi⟩ := List.getElem?_of_mem hq
  exact acc_of (hr.2.2.2.1 i q hi)
end Go.Proofs.Yteakfibolfapiaa

/- ShiftReports is true at every input. -/
import Derived.Test.YtjkfkgpdlflbhaaDoorTrSh5
import Derived.Test.YtjkfkgpdlflbhaaDoorTrEnt2
import Derived.Test.YtjkfkgpdlflbhaaDoorTrSayShiftReports
namespace Go.Proofs.YtjkfkgpdlflbhaaDoor
open Go Go.RowKit
open Ab
theorem act_of {r : List Value} (h : Tr.Cells [.int .i64, .int .u8, .int .i64] r) : gAct (r.map dOf) := by
  obtain ⟨v0, t, rfl, ⟨a, rfl, ha⟩, v1, t1, rfl, ⟨b, rfl, hb⟩, v2, t2, rfl, ⟨c, rfl, hc⟩, rfl⟩ := h
  exact ⟨a, b, c, rfl, i64_wf ha, u8_wf hb, i64_wf hc⟩
theorem walk_ShiftReports : SayShiftReports := fun a rows cap m W hJ hr wm => by
  refine enter_call (vals := [.slice a rows.length cap, .int .i64 m]) Tryd.func3 (by kernel_rfl) (by kernel_rfl) (CallE.fin (K_Reports0 (rows.map fun r : List Value => r.map dOf) (fun r hr' => ?_) m (i64_wf wm))) hJ ⟨_, _, rfl, imm_of_rows hJ (by rintro v ⟨n, rfl, -⟩ z h; cases h) hr, _, _, rfl, rfl, rfl⟩
  obtain ⟨q, hq, rfl⟩ := List.mem_map.1 hr'
  obtain ⟨i, hi⟩ := List.getElem?_of_mem hq
  exact act_of (hr.2.2.2.1 i q hi)
end Go.Proofs.YtjkfkgpdlflbhaaDoor

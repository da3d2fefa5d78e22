/- BooksEven is true at every input. -/
import Derived.Test.YteakfibolfapiaaTrEv1
import Derived.Test.YteakfibolfapiaaTrEnt4
import Derived.Test.YteakfibolfapiaaTrSayBooksEven
namespace Go.Proofs.Yteakfibolfapiaa
open Go Go.RowKit
open Ab
theorem lines_of : ∀ (rs : List (List Value)), (∀ r ∈ rs, Tr.Cells [.int .i64, .int .i64] r) → ∃ zs : List (Int × Int), rs.map (·.map dOf) = lnR zs ∧ ∀ q ∈ zs, Ab.I64 q.1 ∧ Ab.I64 q.2
  | [], _ => ⟨[], rfl, fun q hq => by cases hq⟩
  | r :: rs, h => by
    obtain ⟨zs, e, hz⟩ := lines_of rs (fun q hq => h q (by simp [hq]))
    obtain ⟨v0, t, rfl, ⟨a, rfl, ha⟩, v1, t1, rfl, ⟨b, rfl, hb⟩, rfl⟩ := h r (by simp)
    refine ⟨(a, b) :: zs, by rw [List.map_cons, e]; rfl, fun q hq => ?_⟩
    rcases List.mem_cons.1 hq with rfl | hq
    · exact ⟨i64_wf ha, i64_wf hb⟩
    · exact hz q hq
theorem lists_of {W : World} {a : Option Addr} {rss : List (List (List Value))} {cap : Nat} (h : Tr.Rows2 [.int .i64, .int .i64] W a rss cap) : ∀ r ∈ rss.map rOf, gL r := by
  intro r hr
  obtain ⟨rs, hrs, rfl⟩ := List.mem_map.1 hr
  obtain ⟨i, hi⟩ := List.getElem?_of_mem hrs
  obtain ⟨b, off, a', cap', -, -, -, -, -, hc, -⟩ := h.2 i rs hi
  obtain ⟨zs, e, hz⟩ := lines_of rs (fun q hq => by
    obtain ⟨j, hj⟩ := List.getElem?_of_mem hq
    exact hc j q hj)
  exact ⟨zs, by rw [rOf, e], hz⟩
theorem walk_BooksEven : SayBooksEven := fun a rss cap W hr =>
  enter_call (vals := [.slice a rss.length cap]) Try.func4 (by kernel_rfl) (by kernel_rfl) (CallE.fin (K_Even0 (rss.map rOf) (lists_of hr))) ⟨_, _, rfl, imm_of_rows2 hr, rfl⟩
end Go.Proofs.Yteakfibolfapiaa

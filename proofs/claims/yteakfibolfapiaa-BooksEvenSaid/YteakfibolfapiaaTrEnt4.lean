/- Rows of rows of flat cells that came in. -/
import Derived.Test.YteakfibolfapiaaTrEnt3
import Derived.Test.YteakfibolfapiaaTrArgs2
namespace Go.Proofs.Yteakfibolfapiaa.Ab
open Go Go.RowKit Go.Sort Go.Shelf
set_option linter.unusedVariables false
set_option linter.unusedSimpArgs false
set_option maxRecDepth 100000
def rOf (rs : List (List Value)) : List D := [.imm (rs.map (·.map dOf))]
theorem rel_rows2 {w : World} {k : Tr.CK} {ks : List Tr.CK} : ∀ (rss : List (List (List Value))) (vs : List Value),
    (∀ (i : Nat) (rs : List (List Value)), rss[i]? = some rs → ∃ a' cap', vs[i]? = some (.slice a' rs.length cap') ∧ Tr.Rows (k :: ks) w a' rs cap') → RelRows w (Mut ρ0 []) (rss.map rOf) vs
  | [], vs, _ => trivial
  | rs :: rest, vs, h => by
    obtain ⟨a', cap', h1, h2⟩ := h 0 rs rfl
    cases vs with
    | nil => simp at h1
    | cons v t =>
      simp at h1
      subst h1
      refine ⟨⟨_, _, rfl, imm_of_rows h2, rfl⟩, ?_⟩
      show RelRows w (Mut ρ0 []) (rest.map rOf) t
      exact rel_rows2 rest t fun i q hi => by
        obtain ⟨a2, c2, h3, h4⟩ := h (i + 1) q (by simpa using hi)
        exact ⟨a2, c2, by simpa using h3, h4⟩
theorem imm_of_rows2 {W : World} {a : Option Addr} {rss : List (List (List Value))} {cap : Nat} {k : Tr.CK} {ks : List Tr.CK} (h : Tr.Rows2 (k :: ks) W a rss cap) :
    RelD W (Mut ρ0 []) (.imm (rss.map rOf)) (.slice a rss.length cap) := by
  obtain ⟨hcap, hcell⟩ := h
  refine ⟨a, cap, by simp, by simpa using hcap, ?_⟩
  cases rss with
  | nil => exact .inl rfl
  | cons r0 rest =>
    right
    obtain ⟨b, off, a0, cap0, rfl, hx0, -⟩ := hcell 0 r0 rfl
    have hcell' : ∀ (i : Nat) (rs : List (List Value)), (r0 :: rest)[i]? = some rs → ∃ a' cap', W.cell? ⟨b, off + i, none⟩ = some (.slice a' rs.length cap') ∧ Tr.Rows (k :: ks) W a' rs cap' := by
      intro i rs hi
      obtain ⟨b', off', a', cap', e, hx, hr⟩ := hcell i rs hi
      cases e
      exact ⟨a', cap', hx, hr⟩
    simp only [World.cell?] at hx0 hcell'
    cases hh : W.heap[b]? with
    | none => simp [hh] at hx0
    | some o =>
      cases o with
      | cells cs e fz =>
        refine ⟨b, off, cs, e, fz, 1, rfl, hh, mut0, ?_, rel_rows2 (k := k) (ks := ks) _ _ fun i rs hi => ?_⟩
        · intro r hr
          obtain ⟨r', hr', rfl⟩ := List.mem_map.1 hr
          rfl
        · obtain ⟨a', cap', h1, h2⟩ := hcell' i rs hi
          rw [hh] at h1
          refine ⟨a', cap', ?_, h2⟩
          rw [List.getElem?_drop]
          simpa using h1
      | _ => simp [hh] at hx0
end Go.Proofs.Yteakfibolfapiaa.Ab

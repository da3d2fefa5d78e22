/- Readings of arguments, more: slices of slices of flat elements. No program in sight. -/
import Derived.Test.YteakfibolfapiaaTrArgs
namespace Go.Proofs.Yteakfibolfapiaa.Tr
open Go.ChangeShapes Go.WideShapes Go.ChangeAt Go.RowKit Go.Deep
set_option linter.unusedVariables false
set_option linter.unusedSimpArgs false
section
variable {H : Type} {enc : TypeId × Value → H} {P : Program} {w : World} {base : Nat} {spare : Nat → Bool} {held : Bool}
theorem open_flat_at {n fuel : Nat} {t e : TypeId} {ks : List CK} {cs : List Value} {x : DataW H × List MemPlace}
    (hs : P.underlying t = some (.slice e)) (hk : flat P n e = some ks) (hc : P.cellsOf e = ks.length) (h0 : 0 < ks.length) (hf : DataW.trod enc P w base spare held fuel t cs = some x) :
    ∃ (a : Option Addr) (rows : List (List Value)) (cap : Nat), cs = [.slice a rows.length cap] ∧ Rows ks w a rows cap := by
  rcases open_slice hs hf with ⟨hcs, hx⟩ | ⟨a', len', cap', m, n', D, Pl, hcs, hb, hl, hm, hmm, hx, hcell⟩
  · exact ⟨none, [], 0, hcs, Nat.le_refl _, Nat.zero_le _, fun _ => ⟨rfl, rfl⟩, fun i r h => by simp at h, fun i r h => by simp at h⟩
  · have hlm : len' ≤ m := by rw [hmm]; split <;> omega
    obtain ⟨R, hR⟩ := choose_lt (n := len') (α := List Value) (p := fun i cs' => w.cells? base (a'.add (i * P.cellsOf e)) (P.cellsOf e) = some cs' ∧ Cells ks cs') (fun i hi => by
      obtain ⟨cs', h1, h2⟩ := hcell i (by omega)
      exact ⟨cs', h1, cells_of_trod n e ks _ _ _ hk h2⟩)
    refine ⟨some a', (List.range len').map R, cap', by simpa using hcs, by simpa using hl, hm, (fun h => by cases h), ?_, ?_⟩
    · intro i r hr
      simp only [List.getElem?_map, List.getElem?_range, Option.map_eq_some_iff] at hr
      obtain ⟨i', hi', rfl⟩ := hr
      rw [List.getElem?_eq_some_iff] at hi'
      obtain ⟨hlt, e'⟩ := hi'
      simp at e' hlt
      subst e'
      exact (hR _ hlt).2
    · intro i r hr
      simp only [List.getElem?_map, List.getElem?_range, Option.map_eq_some_iff] at hr
      obtain ⟨i', hi', rfl⟩ := hr
      rw [List.getElem?_eq_some_iff] at hi'
      obtain ⟨hlt, e'⟩ := hi'
      simp at e' hlt
      subst e'
      obtain ⟨h1, h2⟩ := hR i hlt
      obtain ⟨_, hlen, hget⟩ := World.cells?_some h1
      have hsp : a'.spot = none := by
        have hc0 := hget 0 (by omega)
        cases hs' : a'.spot with
        | none => rfl
        | some s =>
          exfalso
          have h00 := (hR 0 (by omega)).1
          obtain ⟨_, hlen0, hget0⟩ := World.cells?_some h00
          have := hget0 0 (by omega)
          simp only [Nat.zero_mul] at this
          rw [show (a'.add 0).add 0 = a' by simp [Addr.add]] at this
          unfold World.cell? at this
          rw [hs'] at this
          rw [List.getElem?_eq_getElem (by omega)] at this
          split at this <;> simp at this
      refine ⟨a'.block, a'.off, by cases a'; simp_all, fun j x hj => ?_⟩
      have hjl : j < (R i).length := by
        rcases Nat.lt_or_ge j (R i).length with g | g
        · exact g
        · rw [List.getElem?_eq_none g] at hj; cases hj
      have := hget j (by omega)
      rw [Addr.add_eq _ _ hsp, Addr.add_eq _ _ rfl] at this
      simp only [hc, Nat.add_assoc] at this
      rw [this, hj]
/-- A slice of slices of flat elements. -/
def Rows2 (ks : List CK) (w : World) (a : Option Addr) (rss : List (List (List Value))) (cap : Nat) : Prop :=
  rss.length ≤ cap ∧ ∀ (i : Nat) (rs : List (List Value)), rss[i]? = some rs → ∃ b off a' cap', a = some ⟨b, off, none⟩ ∧ w.cell? ⟨b, off + i, none⟩ = some (.slice a' rs.length cap') ∧ Rows ks w a' rs cap'
theorem spot_none {w : World} {a : Addr} {v : Value} (h : w.cell? a = some v) : a.spot = none := by
  cases hs : a.spot with
  | none => rfl
  | some s =>
    exfalso
    unfold World.cell? at h
    rw [hs] at h
    split at h <;> simp at h
theorem open_flat_slice2 {r : Reach} {b0 n : Nat} {t e g : TypeId} {ks : List CK} {v : Value} {d : DataW H} {p : List MemPlace}
    (hs : P.underlying t = some (.slice e)) (he : P.underlying e = some (.slice g)) (h1 : P.cellsOf e = 1) (hk : flat P n g = some ks) (hc : P.cellsOf g = ks.length) (h0 : 0 < ks.length) (hv : Value.okWide P w r b0 t v)
    (h : DataW.Trod enc P w base spare held t v d p) :
    ∃ (a : Option Addr) (rss : List (List (List Value))) (cap : Nat), v = .slice a rss.length cap ∧ Rows2 ks w a rss cap := by
  obtain ⟨a, len, cap, rfl⟩ := okWide_slice hs hv
  obtain ⟨fuel, hf⟩ := h
  rcases open_slice1 hs h1 (by simpa [Value.cells] using hf) with ⟨hcs, hx⟩ | ⟨a', len', cap', m, n', V, D, Pl, hcs, hb, hl, hm, hmm, hx, hcell⟩
  · simp at hcs
    obtain ⟨rfl, rfl, rfl⟩ := hcs
    exact ⟨none, [], 0, rfl, Nat.le_refl _, fun i r h => by simp at h⟩
  · simp at hcs
    obtain ⟨rfl, rfl, rfl⟩ := hcs
    have hlm : len ≤ m := by rw [hmm]; split <;> omega
    obtain ⟨R, hR⟩ := choose_lt (n := len) (α := List (List Value)) (p := fun i rs => ∃ a2 cap2, w.cell? (a'.add i) = some (.slice a2 rs.length cap2) ∧ Rows ks w a2 rs cap2) (fun i hi => by
      obtain ⟨c1, c2⟩ := hcell i (by omega)
      obtain ⟨a2, rows, cap2, e1, e2⟩ := open_flat_at he hk hc h0 c2
      simp only [List.cons.injEq, and_true] at e1
      exact ⟨rows, a2, cap2, by rw [c1, e1], e2⟩)
    refine ⟨some a', (List.range len).map R, cap, by simp, by simpa using hl, ?_⟩
    intro i rs hr
    simp only [List.getElem?_map, List.getElem?_range, Option.map_eq_some_iff] at hr
    obtain ⟨i', hi', rfl⟩ := hr
    rw [List.getElem?_eq_some_iff] at hi'
    obtain ⟨hlt, e'⟩ := hi'
    simp at e' hlt
    subst e'
    obtain ⟨a2, cap2, c1, c2⟩ := hR i hlt
    obtain ⟨a3, cap3, c3, -⟩ := hR 0 (by omega)
    have hsp : a'.spot = none := by
      have : a'.add 0 = a' := by simp [Addr.add]
      rw [this] at c3
      exact spot_none c3
    refine ⟨a'.block, a'.off, a2, cap2, by cases a'; simp_all, ?_, c2⟩
    rw [← Addr.add_eq _ _ hsp]
    exact c1
end
end Go.Proofs.Yteakfibolfapiaa.Tr

/- Structs of three cells that are compared. -/
import Derived.Test.YteakfibolfapiaaTrAb19
namespace Go.Proofs.Yteakfibolfapiaa.Ab
open Go
theorem ksI {l : List D} {k : IntKind} {ks : List Kd} (h : ksOk l (.int k :: ks) = true) : ∃ a r, l = .int k a :: r ∧ ksOk r ks = true := by
  cases l with
  | nil => simp [ksOk] at h
  | cons d r =>
    cases d with
    | int q a =>
      simp only [ksOk] at h
      by_cases e : q = k
      · subst e
        simp at h
        exact ⟨a, r, rfl, h⟩
      · simp [e] at h
    | _ => simp [ksOk] at h
theorem ksS {l : List D} {ks : List Kd} (h : ksOk l (.str :: ks) = true) : ∃ a r, l = .str a :: r ∧ ksOk r ks = true := by
  cases l with
  | nil => simp [ksOk] at h
  | cons d r =>
    cases d with
    | str a => exact ⟨a, r, rfl, by simpa [ksOk] using h⟩
    | _ => simp [ksOk] at h
theorem ksN {l : List D} (h : ksOk l [] = true) : l = [] := by
  cases l with
  | nil => rfl
  | cons d r => cases d <;> simp [ksOk] at h
theorem ks3 {l : List D} {k1 k2 : IntKind} (h : ksOk l [.int k1, .int k2, .str] = true) : ∃ a b c, l = [.int k1 a, .int k2 b, .str c] := by
  obtain ⟨a, r1, rfl, h1⟩ := ksI h
  obtain ⟨b, r2, rfl, h2⟩ := ksI h1
  obtain ⟨c, r3, rfl, h3⟩ := ksS h2
  obtain rfl := ksN h3
  exact ⟨a, b, c, rfl⟩
theorem rel3 {w : World} {M : Nat → Prop} {k1 k2 : IntKind} {a b : Int} {c : List UInt8} {xs : Array Value} (h : RelDs w M [.int k1 a, .int k2 b, .str c] xs.toList) : xs = #[.int k1 a, .int k2 b, .string ⟨c.toArray⟩] := by
  obtain ⟨v1, r1, e1, h1, v2, r2, rfl, h2, v3, r3, rfl, h3, h4⟩ := h
  obtain rfl : v1 = .int k1 a := h1
  obtain rfl : v2 = .int k2 b := h2
  obtain rfl : v3 = .string ⟨c.toArray⟩ := h3
  obtain rfl : r3 = [] := h4
  apply Array.ext'
  rw [e1]
end Go.Proofs.Yteakfibolfapiaa.Ab

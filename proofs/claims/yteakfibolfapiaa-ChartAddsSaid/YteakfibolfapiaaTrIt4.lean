/- slices.SortedFunc(maps.Values(m), by the codes). -/
import Derived.Test.YteakfibolfapiaaTrIt3
import Derived.Shelf.SlSortCmp.WholeK
import Derived.Sort.OwnSorted
namespace Go.Proofs.Yteakfibolfapiaa.It
open Go Go.RowKit Go.Maps Go.Sort Go.Shelf
set_option linter.unusedVariables false
set_option linter.unusedSimpArgs false
/-! rows of accounts -/
theorem cellsA_len (l : List Acc) : (cellsA l).length = l.length * 3 := by
  induction l with
  | nil => rfl
  | cons a l ih => simp [cellsA] at ih ⊢; omega
theorem cellsA_get : ∀ (l : List Acc) (t : Nat), t < l.length * 3 → (cellsA l)[t]? = some ((encL (l.getD (t / 3) default))[t % 3]!)
  | [], t, h => by simp at h
  | a :: l, t, h => by
    have e : cellsA (a :: l) = encL a ++ cellsA l := rfl
    rw [e]
    by_cases ht : t < 3
    · have h1 : t = 0 ∨ t = 1 ∨ t = 2 := by omega
      rcases h1 with rfl | rfl | rfl <;> rfl
    · rw [List.getElem?_append_right (by simp [encL]; omega)]
      have h2 : (encL a).length = 3 := rfl
      rw [h2, cellsA_get l (t - 3) (by simp at h; omega)]
      have h3 : t / 3 = (t - 3) / 3 + 1 := by omega
      have h4 : (t - 3) % 3 = t % 3 := by omega
      rw [h3, h4]
      rfl
theorem flat_cells (d : Array Acc) : (flatK encL 3 d).toList = cellsA d.toList := by
  apply List.ext_getElem?
  intro t
  by_cases ht : t < d.size * 3
  · rw [cellsA_get d.toList t (by simpa using ht)]
    have h3 : t / 3 < d.size := by omega
    rw [Array.getElem?_toList]
    simp only [flatK, Array.getElem?_map, Array.getElem?_range, ht, if_true, Option.map_some]
    congr 2
    rw [List.getD_eq_getElem?_getD, Array.getElem?_toList]
    simp [h3]
  · rw [List.getElem?_eq_none (by simp; omega), List.getElem?_eq_none (by rw [cellsA_len]; simp; omega)]
theorem holdsK_of_block {w : World} {g : Nat} {cur : Array Value} {e : TypeId} {d : Array Acc} (hb : w.heap[g]? = some (.cells cur e (0, 0))) (ht : cur.toList.take (d.size * 3) = cellsA d.toList) : HoldsK encL 3 w g 0 d := by
  intro j hj
  have hj' : j < d.size * 3 := by simpa using hj
  refine ⟨?_, by simp [World.frozen?, hb]⟩
  have h1 : (cur.toList.take (d.size * 3))[j]? = (flatK encL 3 d).toList[j]? := by rw [ht, flat_cells]
  rw [List.getElem?_take_of_lt hj', Array.getElem?_toList, Array.getElem?_toList] at h1
  have h2 : (flatK encL 3 d)[j]? = some (flatK encL 3 d)[j]! := by
    rw [Array.getElem?_eq_getElem hj, getElem!_pos (flatK encL 3 d) j hj]
  rw [h2] at h1
  simp only [World.cell?, hb, Nat.zero_add, Option.isSome_none, Bool.false_eq_true, if_false, h1]
  rfl
theorem heap_sortedK {w : World} {g n : Nat} {os : Array Obj} {cur : Array Value} {e : TypeId} {fr : Nat × Nat} (d : Array Acc) (hb : w.heap[g]? = some (.cells cur e fr)) :
    (sortWorldK encL 3 w g 0 n d os).heap[g]? = some (.cells (putCells id 0 (flatK encL 3 d) cur) e fr) := by
  have hg : g < w.heap.size := (Array.getElem?_eq_some_iff.1 hb).1
  unfold sortWorldK putRowK
  rw [heap_grow_old _ _ (by simpa using hg)]
  simp [putRow, mapBlock, Sort.ahead, Array.getElem?_modify, hb, onCells]
theorem grownBy_sortedK {w : World} {g n : Nat} {os : Array Obj} (d : Array Acc) : w.grownBy (sortWorldK encL 3 w g 0 n d os) (some g) := by
  unfold sortWorldK putRowK
  refine ⟨rfl, rfl, rfl, by simp, fun k hk hne => ?_⟩
  rw [heap_grow_old _ _ (by simpa using hk)]
  have : g ≠ k := fun e => hne (by rw [e])
  simp [putRow, mapBlock, Sort.ahead, Array.getElem?_modify, this]
theorem take_putCellsK (cur : Array Value) (F : Array Value) (h : F.size ≤ cur.size) : (putCells id 0 F cur).toList.take F.size = F.toList := by
  apply List.ext_getElem?
  intro j
  by_cases hj : j < F.size
  · rw [List.getElem?_take_of_lt hj, Array.getElem?_toList]
    simp [putCells, hj, show j < cur.size by omega]
  · rw [List.getElem?_take_eq_none (by omega), List.getElem?_eq_none (by simp; omega)]
theorem ownsRow_sortedK {w : World} {base g cap n len : Nat} {e : TypeId} {os : Array Obj} {cur : Array Value} {d : Array Acc} (hl : d.size = len) (hbase : base ≤ g) (hb : w.heap[g]? = some (.cells cur e (0, 0)))
    (h1 : len ≤ cap) (h2 : cap ≤ maxLen) (h3 : cur.size = cap * 3) :
    (sortWorldK encL 3 w g 0 n d os).ownsRow base e 3 (.slice (some ⟨g, 0, none⟩) len cap) len (cellsA d.toList) := by
  subst hl
  have hle : d.size * 3 ≤ cap * 3 := Nat.mul_le_mul_right 3 h1
  refine ⟨by rw [cellsA_len]; simp, .inr ⟨g, cap, _, rfl, hbase, heap_sortedK _ hb, h1, h2, by simp [putCells, h3], ?_⟩⟩
  have := take_putCellsK cur (flatK encL 3 d) (by simp; omega)
  rw [size_flatK] at this
  rw [this, flat_cells]
def SortAt : Prop := ∀ (blk off cap : Nat) (d : Array Acc) (w : World), HoldsK encL 3 w blk off d → blk < w.heap.size → d.size < 4611686018427387904 →
  Calls Try.prog 64 #[.slice (some ⟨blk, off, none⟩) d.size cap, .func (.func 44) #[] #[]] w fun e w' => e = .returned (.tuple #[]) ∧ ∃ d' n os, PermIn 0 d.size d d' ∧ SortedIn (ltOf fun x y : Acc => Lib.compareInt x.c y.c) 0 d.size d' ∧ w' = sortWorldK encL 3 w blk off n d' os
def NoneAt : Prop := ∀ (p : Option Addr) (cap : Nat) (w : World), Calls Try.prog 64 #[.slice p 0 cap, .func (.func 44) #[] #[]] w fun e w' => e = .returned (.tuple #[]) ∧ w' = w
theorem sorted_pairs {d : Array Acc} (h : SortedIn (ltOf fun x y : Acc => Lib.compareInt x.c y.c) 0 d.size d) : d.toList.Pairwise fun x y => x.c ≤ y.c := by
  rw [List.pairwise_iff_getElem]
  intro i j hi hj hij
  have hi' : i < d.size := by simpa using hi
  have hj' : j < d.size := by simpa using hj
  have h1 := h i j (Nat.zero_le _) hij hj'
  rw [ltC, decide_eq_false_iff_not, getElem!_pos d i hi', getElem!_pos d j hj'] at h1
  rw [Array.getElem_toList, Array.getElem_toList]
  omega
theorem perm_of {d d' : Array Acc} (h : PermIn 0 d.size d d') : d'.toList.Perm d.toList ∧ d'.size = d.size := by
  obtain ⟨h1, -, h2⟩ := h
  refine ⟨?_, h1⟩
  have e1 : d.extract 0 d.size = d := by simp
  have e2 : d'.extract 0 d.size = d' := by rw [← h1]; simp
  rw [e1, e2] at h2
  exact h2
set_option maxRecDepth 100000 in
set_option maxHeartbeats 1000000 in
theorem sortedFunc (hS : SortAt) (hN : NoneAt) (Bm b : Nat) (m : ML) (hm0 : gC m) (hml : m.length ≤ 1000) (w : World) (hBm : Bm < w.heap.size) (hm : w.cell? ⟨Bm, 0, none⟩ = some (.map (some b))) (hown : Mk.IMap .i64 w b m) :
    Calls Try.prog 42 #[.func (.func 65) #[] #[.pointer (some ⟨Bm, 0, none⟩)], .func (.func 44) #[] #[]] w fun e w' =>
      ∃ (v : Value) (xs : List Acc), e = .returned v ∧ (xs.map pr).Perm m ∧ (xs.Pairwise fun x y => x.c ≤ y.c) ∧ w'.ownsRow w.heap.size 31 3 v xs.length (cellsA xs) ∧ Below w.heap.size w w' := by
  have hc := collect Bm b m hm0 hml w hBm hm hown
  go_enter Try.func42, Try.ntmps42
  go_wp2_with (go_at_call 63; refine hc.mono ?_; rintro e w1 ⟨v, xs, rfl, h1, h2, h3, h4⟩)
  rcases h2.2 with ⟨rfl, hz⟩ | ⟨gb, cap, cur, rfl, hbase, hgb, r1, r2, r3, r4⟩
  · have hxs : xs = [] := List.eq_nil_of_length_eq_zero hz
    subst hxs
    go_wp2_with (go_at_call 64; refine (hN none 0 w1).mono ?_; rintro e w' ⟨rfl, rfl⟩)
    go_ret
    exact ⟨_, [], rfl, h1, List.Pairwise.nil, h2, h4⟩
  · have hgl : gb < w1.heap.size := (Array.getElem?_eq_some_iff.1 hgb).1
    have cS := hS gb 0 cap xs.toArray w1 (holdsK_of_block hgb (by simpa using r4)) hgl (by
      have := h1.length_eq
      simp at this ⊢
      omega)
    simp only [List.size_toArray] at cS
    clear h2
    go_wp2_with (go_at_call 64; refine cS.mono ?_; rintro e w' ⟨rfl, d', nn, os, hp, hs, rfl⟩)
    go_ret
    have hp' := perm_of (d := xs.toArray) (by simpa using hp)
    have hl : d'.size = xs.length := by simpa using hp'.2
    refine ⟨_, d'.toList, rfl, (hp'.1.map pr).trans h1, sorted_pairs (by rw [hl]; exact hs), ?_, h4.grown (grownBy_sortedK _) h4.size (fun j hj => by cases hj; exact hbase)⟩
    have := ownsRow_sortedK (n := nn) (os := os) hl hbase hgb r1 r2 r3
    simpa [hl] using this
end Go.Proofs.Yteakfibolfapiaa.It

/- The books' list: the loop over the map, the sort. -/
import Derived.Test.YteakfibolfapiaaTrBk3
import Derived.Test.YteakfibolfapiaaSrt
import Derived.Test.YteakfibolfapiaaShelf
import Derived.Shelf.SlSortCmp.WholeK
import Derived.Shelf.SlSortCmp.InsertionK
import Derived.Shelf.SlSortCmp.NoneTotal
import Derived.Sort.OwnSorted
import Derived.Maps.AppendAt
namespace Go.Proofs.Yteakfibolfapiaa.Bl
open Go Go.RowKit Go.Maps Go.Sort Go.Shelf
set_option linter.unusedVariables false
set_option linter.unusedSimpArgs false
abbrev ML := List (Int × Value)
def encE (p : Int × Int) : List Value := [.int .i64 p.1, .int .i64 p.2]
def cellsE (xs : List (Int × Int)) : List Value := xs.flatMap encE
def prE (p : Int × Int) : Int × Value := (p.1, .int .i64 p.2)
set_option maxHeartbeats 1000000 in
/-- The comparison: by the accounts; two blocks are laid. -/
theorem closure (x y : Int × Int) (W : World) : Calls Try.prog 68 #[.agg #[.int .i64 x.1, .int .i64 x.2], .agg #[.int .i64 y.1, .int .i64 y.2]] W fun e w' => e = .returned (.int .i64 (Lib.compareInt x.1 y.1)) ∧ ∃ q os', w' = grow (W.drewN q) os' := by
  have hcon := fun W' => Try.cmp_Compare_int x.1 y.1 W'
  generalize Lib.compareInt x.1 y.1 = r at hcon ⊢
  go_enter Try.func68, Try.ntmps68
  go_wp2_with (go_at_call 45; refine (hcon _).mono ?_; rintro e w' ⟨rfl, rfl⟩)
  go_ret
  exact ⟨rfl, 0, _, by rw [alloc_eq_grow, alloc_eq_grow, grow_grow]; rfl⟩
theorem cmpLays (blk off size : Nat) (w : World) : CmpLays Try.prog 68 #[] encE 2 (fun x y => Lib.compareInt x.1 y.1) blk off size w :=
  fun _ _ _ _ x y => closure x y _
theorem ltC (x y : Int × Int) : ltOf (fun x y : Int × Int => Lib.compareInt x.1 y.1) x y = decide (x.1 < y.1) := by
  unfold ltOf Lib.compareInt
  by_cases h1 : x.1 < y.1
  · simp [h1]
  · by_cases h2 : y.1 < x.1 <;> simp [h1, h2]
theorem swoC : SWO (ltOf fun x y : Int × Int => Lib.compareInt x.1 y.1) where
  irrefl x := by rw [ltC]; simp
  trans x y z h1 h2 := by rw [ltC] at *; simp at *; omega
  ntrans x y z h1 h2 := by rw [ltC] at *; simp at *; omega
/-! rows of accounts -/
theorem cellsE_len (l : List (Int × Int)) : (cellsE l).length = l.length * 2 := by
  induction l with
  | nil => rfl
  | cons a l ih => simp [cellsE, encE] at ih ⊢; omega
theorem cellsE_get : ∀ (l : List (Int × Int)) (t : Nat), t < l.length * 2 → (cellsE l)[t]? = some ((encE (l.getD (t / 2) default))[t % 2]!)
  | [], t, h => by simp at h
  | a :: l, t, h => by
    have e : cellsE (a :: l) = encE a ++ cellsE l := rfl
    rw [e]
    by_cases ht : t < 2
    · have h1 : t = 0 ∨ t = 1 := by omega
      rcases h1 with rfl | rfl <;> rfl
    · rw [List.getElem?_append_right (by simp [encE]; omega)]
      have h2 : (encE a).length = 2 := rfl
      rw [h2, cellsE_get l (t - 2) (by simp at h; omega)]
      have h3 : t / 2 = (t - 2) / 2 + 1 := by omega
      have h4 : (t - 2) % 2 = t % 2 := by omega
      rw [h3, h4]
      rfl
theorem flat_cells (d : Array (Int × Int)) : (flatK encE 2 d).toList = cellsE d.toList := by
  apply List.ext_getElem?
  intro t
  by_cases ht : t < d.size * 2
  · rw [cellsE_get d.toList t (by simpa using ht)]
    have h3 : t / 2 < d.size := by omega
    rw [Array.getElem?_toList]
    simp only [flatK, Array.getElem?_map, Array.getElem?_range, ht, if_true, Option.map_some]
    congr 2
    rw [List.getD_eq_getElem?_getD, Array.getElem?_toList]
    simp [h3]
  · rw [List.getElem?_eq_none (by simp; omega), List.getElem?_eq_none (by rw [cellsE_len]; simp; omega)]
theorem holdsK_of_block {w : World} {g : Nat} {cur : Array Value} {e : TypeId} {d : Array (Int × Int)} (hb : w.heap[g]? = some (.cells cur e (0, 0))) (ht : cur.toList.take (d.size * 2) = cellsE d.toList) : HoldsK encE 2 w g 0 d := by
  intro j hj
  have hj' : j < d.size * 2 := by simpa using hj
  refine ⟨?_, by simp [World.frozen?, hb]⟩
  have h1 : (cur.toList.take (d.size * 2))[j]? = (flatK encE 2 d).toList[j]? := by rw [ht, flat_cells]
  rw [List.getElem?_take_of_lt hj', Array.getElem?_toList, Array.getElem?_toList] at h1
  have h2 : (flatK encE 2 d)[j]? = some (flatK encE 2 d)[j]! := by
    rw [Array.getElem?_eq_getElem hj, getElem!_pos (flatK encE 2 d) j hj]
  rw [h2] at h1
  simp only [World.cell?, hb, Nat.zero_add, Option.isSome_none, Bool.false_eq_true, if_false, h1]
  rfl
theorem heap_sortedK {w : World} {g n : Nat} {os : Array Obj} {cur : Array Value} {e : TypeId} {fr : Nat × Nat} (d : Array (Int × Int)) (hb : w.heap[g]? = some (.cells cur e fr)) :
    (sortWorldK encE 2 w g 0 n d os).heap[g]? = some (.cells (putCells id 0 (flatK encE 2 d) cur) e fr) := by
  have hg : g < w.heap.size := (Array.getElem?_eq_some_iff.1 hb).1
  unfold sortWorldK putRowK
  rw [heap_grow_old _ _ (by simpa using hg)]
  simp [putRow, mapBlock, Sort.ahead, Array.getElem?_modify, hb, onCells]
theorem grownBy_sortedK {w : World} {g n : Nat} {os : Array Obj} (d : Array (Int × Int)) : w.grownBy (sortWorldK encE 2 w g 0 n d os) (some g) := by
  unfold sortWorldK putRowK
  refine ⟨rfl, rfl, rfl, by simp, fun k hk hne => ?_⟩
  rw [heap_grow_old _ _ (by simpa using hk)]
  have : g ≠ k := fun e => hne (by rw [e])
  simp [putRow, mapBlock, Sort.ahead, Array.getElem?_modify, this]
theorem take_putCellsK (cur : Array Value) (F : Array Value) (h : F.size ≤ cur.size) : (putCells id 0 F cur).toList.take F.size = F.toList := by
  apply List.ext_getElem?
  intro j
  by_cases hj : j < F.size
  · rw [List.getElem?_take_of_lt hj, Array.getElem?_toList]
    simp [putCells, hj, show j < cur.size by omega]
  · rw [List.getElem?_take_eq_none (by omega), List.getElem?_eq_none (by simp; omega)]
theorem ownsRow_sortedK {w : World} {base g cap n len : Nat} {e : TypeId} {os : Array Obj} {cur : Array Value} {d : Array (Int × Int)} (hl : d.size = len) (hbase : base ≤ g) (hb : w.heap[g]? = some (.cells cur e (0, 0)))
    (h1 : len ≤ cap) (h2 : cap ≤ maxLen) (h3 : cur.size = cap * 2) :
    (sortWorldK encE 2 w g 0 n d os).ownsRow base e 2 (.slice (some ⟨g, 0, none⟩) len cap) len (cellsE d.toList) := by
  subst hl
  have hle : d.size * 2 ≤ cap * 2 := Nat.mul_le_mul_right 2 h1
  refine ⟨by rw [cellsE_len]; simp, .inr ⟨g, cap, _, rfl, hbase, heap_sortedK _ hb, h1, h2, by simp [putCells, h3], ?_⟩⟩
  have := take_putCellsK cur (flatK encE 2 d) (by simp; omega)
  rw [size_flatK] at this
  rw [this, flat_cells]
theorem sorted_pairs {d : Array (Int × Int)} (h : SortedIn (ltOf fun x y : (Int × Int) => Lib.compareInt x.1 y.1) 0 d.size d) : d.toList.Pairwise fun x y => x.1 ≤ y.1 := by
  rw [List.pairwise_iff_getElem]
  intro i j hi hj hij
  have hi' : i < d.size := by simpa using hi
  have hj' : j < d.size := by simpa using hj
  have h1 := h i j (Nat.zero_le _) hij hj'
  rw [ltC, decide_eq_false_iff_not, getElem!_pos d i hi', getElem!_pos d j hj'] at h1
  rw [Array.getElem_toList, Array.getElem_toList]
  omega
theorem perm_of {d d' : Array (Int × Int)} (h : PermIn 0 d.size d d') : d'.toList.Perm d.toList ∧ d'.size = d.size := by
  obtain ⟨h1, -, h2⟩ := h
  refine ⟨?_, h1⟩
  have e1 : d.extract 0 d.size = d := by simp
  have e2 : d'.extract 0 d.size = d' := by rw [← h1]; simp
  rw [e1, e2] at h2
  exact h2

theorem sortAt (blk off cap : Nat) (d : Array (Int × Int)) (w : World) (hH : HoldsK encE 2 w blk off d) (hblk : blk < w.heap.size) (hsz : d.size < 4611686018427387904) :
    Calls Try.prog 67 #[.slice (some ⟨blk, off, none⟩) d.size cap, .func (.func 68) #[] #[]] w fun e w' => e = .returned (.tuple #[]) ∧ ∃ d' n os, PermIn 0 d.size d d' ∧ SortedIn (ltOf fun x y : Int × Int => Lib.compareInt x.1 y.1) 0 d.size d' ∧ w' = sortWorldK encE 2 w blk off n d' os :=
  AnyQ.slices_SortFunc Try.sortEnt 2 Try.isAgg118 Try.sizeOf118 encE (fun _ => rfl) (fun x v hv => by simp [encE] at hv; rcases hv with rfl | rfl <;> rfl) (fun x y => Lib.compareInt x.1 y.1) swoC 68 #[] blk off cap d w
    (enters_of Try.func68 (by kernel_rfl) rfl) (cmpLays blk off d.size w) hH hblk hsz
theorem noneAt (p : Option Addr) (cap : Nat) (w : World) : Calls Try.prog 67 #[.slice p 0 cap, .func (.func 68) #[] #[]] w fun e w' => e = .returned (.tuple #[]) ∧ w' = w :=
  AnyF.slices_SortFunc_none Try.sortEnt p cap _ w
end Go.Proofs.Yteakfibolfapiaa.Bl

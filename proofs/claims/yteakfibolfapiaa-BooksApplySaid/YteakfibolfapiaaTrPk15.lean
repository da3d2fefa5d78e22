/- Several texts in one: It4, It5, Ch2, CoP. -/
import Derived.Test.YteakfibolfapiaaTrPk14
import Derived.Shelf.SlSortCmp.WholeK
import Derived.Sort.OwnSorted
import Derived.Test.YteakfibolfapiaaSrt
import Derived.Shelf.SlSortCmp.NoneTotal
import Derived.Test.YteakfibolfapiaaTrPk10
section
namespace Go.Proofs.Yteakfibolfapiaa.It
open Go Go.RowKit Go.Maps Go.Sort Go.Shelf
set_option linter.unusedVariables false
set_option linter.unusedSimpArgs false
/-! rows of accounts -/
theorem cellsA_len (l : List Acc) : (cellsA l).length = l.length * 3 := by
  induction l with
  | nil => rfl
  | cons a l ih => simp [cellsA] at ih ⊢; omega
theorem cellsA_get : ∀ (l : List Acc) (t : Nat), t < l.length * 3 → (cellsA l)[t]? = some ((encL (l.getD (t / 3) default))[t % 3]!)
  | [], t, h => by simp at h
  | a :: l, t, h => by
    have e : cellsA (a :: l) = encL a ++ cellsA l := rfl
    rw [e]
    by_cases ht : t < 3
    · have h1 : t = 0 ∨ t = 1 ∨ t = 2 := by omega
      rcases h1 with rfl | rfl | rfl <;> rfl
    · rw [List.getElem?_append_right (by simp [encL]; omega)]
      have h2 : (encL a).length = 3 := rfl
      rw [h2, cellsA_get l (t - 3) (by simp at h; omega)]
      have h3 : t / 3 = (t - 3) / 3 + 1 := by omega
      have h4 : (t - 3) % 3 = t % 3 := by omega
      rw [h3, h4]
      rfl
theorem flat_cells (d : Array Acc) : (flatK encL 3 d).toList = cellsA d.toList := by
  apply List.ext_getElem?
  intro t
  by_cases ht : t < d.size * 3
  · rw [cellsA_get d.toList t (by simpa using ht)]
    have h3 : t / 3 < d.size := by omega
    rw [Array.getElem?_toList]
    simp only [flatK, Array.getElem?_map, Array.getElem?_range, ht, if_true, Option.map_some]
    congr 2
    rw [List.getD_eq_getElem?_getD, Array.getElem?_toList]
    simp [h3]
  · rw [List.getElem?_eq_none (by simp; omega), List.getElem?_eq_none (by rw [cellsA_len]; simp; omega)]
theorem holdsK_of_block {w : World} {g : Nat} {cur : Array Value} {e : TypeId} {d : Array Acc} (hb : w.heap[g]? = some (.cells cur e (0, 0))) (ht : cur.toList.take (d.size * 3) = cellsA d.toList) : HoldsK encL 3 w g 0 d := by
  intro j hj
  have hj' : j < d.size * 3 := by simpa using hj
  refine ⟨?_, by simp [World.frozen?, hb]⟩
  have h1 : (cur.toList.take (d.size * 3))[j]? = (flatK encL 3 d).toList[j]? := by rw [ht, flat_cells]
  rw [List.getElem?_take_of_lt hj', Array.getElem?_toList, Array.getElem?_toList] at h1
  have h2 : (flatK encL 3 d)[j]? = some (flatK encL 3 d)[j]! := by
    rw [Array.getElem?_eq_getElem hj, getElem!_pos (flatK encL 3 d) j hj]
  rw [h2] at h1
  simp only [World.cell?, hb, Nat.zero_add, Option.isSome_none, Bool.false_eq_true, if_false, h1]
  rfl
theorem heap_sortedK {w : World} {g n : Nat} {os : Array Obj} {cur : Array Value} {e : TypeId} {fr : Nat × Nat} (d : Array Acc) (hb : w.heap[g]? = some (.cells cur e fr)) :
    (sortWorldK encL 3 w g 0 n d os).heap[g]? = some (.cells (putCells id 0 (flatK encL 3 d) cur) e fr) := by
  have hg : g < w.heap.size := (Array.getElem?_eq_some_iff.1 hb).1
  unfold sortWorldK putRowK
  rw [heap_grow_old _ _ (by simpa using hg)]
  simp [putRow, mapBlock, Sort.ahead, Array.getElem?_modify, hb, onCells]
theorem grownBy_sortedK {w : World} {g n : Nat} {os : Array Obj} (d : Array Acc) : w.grownBy (sortWorldK encL 3 w g 0 n d os) (some g) := by
  unfold sortWorldK putRowK
  refine ⟨rfl, rfl, rfl, by simp, fun k hk hne => ?_⟩
  rw [heap_grow_old _ _ (by simpa using hk)]
  have : g ≠ k := fun e => hne (by rw [e])
  simp [putRow, mapBlock, Sort.ahead, Array.getElem?_modify, this]
theorem take_putCellsK (cur : Array Value) (F : Array Value) (h : F.size ≤ cur.size) : (putCells id 0 F cur).toList.take F.size = F.toList := by
  apply List.ext_getElem?
  intro j
  by_cases hj : j < F.size
  · rw [List.getElem?_take_of_lt hj, Array.getElem?_toList]
    simp [putCells, hj, show j < cur.size by omega]
  · rw [List.getElem?_take_eq_none (by omega), List.getElem?_eq_none (by simp; omega)]
theorem ownsRow_sortedK {w : World} {base g cap n len : Nat} {e : TypeId} {os : Array Obj} {cur : Array Value} {d : Array Acc} (hl : d.size = len) (hbase : base ≤ g) (hb : w.heap[g]? = some (.cells cur e (0, 0)))
    (h1 : len ≤ cap) (h2 : cap ≤ maxLen) (h3 : cur.size = cap * 3) :
    (sortWorldK encL 3 w g 0 n d os).ownsRow base e 3 (.slice (some ⟨g, 0, none⟩) len cap) len (cellsA d.toList) := by
  subst hl
  have hle : d.size * 3 ≤ cap * 3 := Nat.mul_le_mul_right 3 h1
  refine ⟨by rw [cellsA_len]; simp, .inr ⟨g, cap, _, rfl, hbase, heap_sortedK _ hb, h1, h2, by simp [putCells, h3], ?_⟩⟩
  have := take_putCellsK cur (flatK encL 3 d) (by simp; omega)
  rw [size_flatK] at this
  rw [this, flat_cells]
def SortAt : Prop := ∀ (blk off cap : Nat) (d : Array Acc) (w : World), HoldsK encL 3 w blk off d → blk < w.heap.size → d.size < 4611686018427387904 →
  Calls Try.prog 64 #[.slice (some ⟨blk, off, none⟩) d.size cap, .func (.func 44) #[] #[]] w fun e w' => e = .returned (.tuple #[]) ∧ ∃ d' n os, PermIn 0 d.size d d' ∧ SortedIn (ltOf fun x y : Acc => Lib.compareInt x.c y.c) 0 d.size d' ∧ w' = sortWorldK encL 3 w blk off n d' os
def NoneAt : Prop := ∀ (p : Option Addr) (cap : Nat) (w : World), Calls Try.prog 64 #[.slice p 0 cap, .func (.func 44) #[] #[]] w fun e w' => e = .returned (.tuple #[]) ∧ w' = w
theorem sorted_pairs {d : Array Acc} (h : SortedIn (ltOf fun x y : Acc => Lib.compareInt x.c y.c) 0 d.size d) : d.toList.Pairwise fun x y => x.c ≤ y.c := by
  rw [List.pairwise_iff_getElem]
  intro i j hi hj hij
  have hi' : i < d.size := by simpa using hi
  have hj' : j < d.size := by simpa using hj
  have h1 := h i j (Nat.zero_le _) hij hj'
  rw [ltC, decide_eq_false_iff_not, getElem!_pos d i hi', getElem!_pos d j hj'] at h1
  rw [Array.getElem_toList, Array.getElem_toList]
  omega
theorem perm_of {d d' : Array Acc} (h : PermIn 0 d.size d d') : d'.toList.Perm d.toList ∧ d'.size = d.size := by
  obtain ⟨h1, -, h2⟩ := h
  refine ⟨?_, h1⟩
  have e1 : d.extract 0 d.size = d := by simp
  have e2 : d'.extract 0 d.size = d' := by rw [← h1]; simp
  rw [e1, e2] at h2
  exact h2
set_option maxRecDepth 100000 in
set_option maxHeartbeats 1000000 in
theorem sortedFunc (hS : SortAt) (hN : NoneAt) (Bm b : Nat) (m : ML) (hm0 : gC m) (hml : m.length ≤ 1000) (w : World) (hBm : Bm < w.heap.size) (hm : w.cell? ⟨Bm, 0, none⟩ = some (.map (some b))) (hown : Mk.IMap .i64 w b m) :
    Calls Try.prog 42 #[.func (.func 65) #[] #[.pointer (some ⟨Bm, 0, none⟩)], .func (.func 44) #[] #[]] w fun e w' =>
      ∃ (v : Value) (xs : List Acc), e = .returned v ∧ (xs.map pr).Perm m ∧ (xs.Pairwise fun x y => x.c ≤ y.c) ∧ w'.ownsRow w.heap.size 31 3 v xs.length (cellsA xs) ∧ Below w.heap.size w w' := by
  have hc := collect Bm b m hm0 hml w hBm hm hown
  go_enter Try.func42, Try.ntmps42
  go_wp2_with (go_at_call 63; refine hc.mono ?_; rintro e w1 ⟨v, xs, rfl, h1, h2, h3, h4⟩)
  rcases h2.2 with ⟨rfl, hz⟩ | ⟨gb, cap, cur, rfl, hbase, hgb, r1, r2, r3, r4⟩
  · have hxs : xs = [] := List.eq_nil_of_length_eq_zero hz
    subst hxs
    go_wp2_with (go_at_call 64; refine (hN none 0 w1).mono ?_; rintro e w' ⟨rfl, rfl⟩)
    go_ret
    exact ⟨_, [], rfl, h1, List.Pairwise.nil, h2, h4⟩
  · have hgl : gb < w1.heap.size := (Array.getElem?_eq_some_iff.1 hgb).1
    have cS := hS gb 0 cap xs.toArray w1 (holdsK_of_block hgb (by simpa using r4)) hgl (by
      have := h1.length_eq
      simp at this ⊢
      omega)
    simp only [List.size_toArray] at cS
    clear h2
    go_wp2_with (go_at_call 64; refine cS.mono ?_; rintro e w' ⟨rfl, d', nn, os, hp, hs, rfl⟩)
    go_ret
    have hp' := perm_of (d := xs.toArray) (by simpa using hp)
    have hl : d'.size = xs.length := by simpa using hp'.2
    refine ⟨_, d'.toList, rfl, (hp'.1.map pr).trans h1, sorted_pairs (by rw [hl]; exact hs), ?_, h4.grown (grownBy_sortedK _) h4.size (fun j hj => by cases hj; exact hbase)⟩
    have := ownsRow_sortedK (n := nn) (os := os) hl hbase hgb r1 r2 r3
    simpa [hl] using this
end Go.Proofs.Yteakfibolfapiaa.It
end
section
namespace Go.Proofs.Yteakfibolfapiaa.It
open Go Go.RowKit Go.Maps Go.Sort Go.Shelf
set_option linter.unusedVariables false
set_option linter.unusedSimpArgs false
theorem sortAt : SortAt := fun blk off cap d w hH hblk hsz =>
  AnyQ.slices_SortFunc Try.sortAcc 3 Try.isAgg31 Try.sizeOf31 encL (fun _ => rfl) (fun x v hv => by simp [encL] at hv; rcases hv with rfl | rfl | rfl <;> rfl) (fun x y => Lib.compareInt x.c y.c) swoC 44 #[] blk off cap d w
    (enters_of Try.func44 (by kernel_rfl) rfl) (cmpLays blk off d.size w) hH hblk hsz
theorem noneAt : NoneAt := fun p cap w => AnyF.slices_SortFunc_none Try.sortAcc p cap _ w
set_option maxRecDepth 100000 in
set_option maxHeartbeats 1000000 in
theorem C_List (bi bj : Nat) (m : ML) (hm0 : gC m) (hml : m.length ≤ 1000) (w : World) (hm : w.cell? ⟨bi, 0, none⟩ = some (.map (some bj))) (hown : Mk.IMap .i64 w bj m) :
    Calls Try.prog 10 #[.pointer (some ⟨bi, 0, none⟩)] w fun e w' =>
      ∃ (v : Value) (xs : List Acc), e = .returned v ∧ (xs.map pr).Perm m ∧ (xs.Pairwise fun x y => x.c ≤ y.c) ∧ w'.ownsRow w.heap.size 31 3 v xs.length (cellsA xs) ∧ RowKit.Below w.heap.size w w' := by
  have hb1 : RowKit.Below w.heap.size w (w.alloc (Obj.cells #[.map (some bj)] 96)) := (RowKit.Below.refl _ w).alloc (Nat.le_refl _) _
  have hs := sortedFunc sortAt noneAt w.heap.size bj m hm0 hml (w.alloc (Obj.cells #[.map (some bj)] 96)) (by simp) (by simp) (hown.keep hb1)
  go_enter Try.func10, Try.ntmps10
  go_wp2_with (first
    | (go_at_call 43; refine (values bj w).mono ?_; rintro e w1 ⟨rfl, rfl⟩)
    | (go_at_call 42; refine hs.mono ?_; rintro e w2 ⟨v, xs, rfl, h1, h2, h3, h4⟩))
  go_ret
  refine ⟨v, xs, rfl, h1, h2, ⟨h3.1, ?_⟩, hb1.trans (h4.mono (by simp))⟩
  rcases h3.2 with h | ⟨g, cap, cur, hv, hbg, rest⟩
  · exact .inl h
  · exact .inr ⟨g, cap, cur, hv, by simp at hbg; omega, rest⟩
end Go.Proofs.Yteakfibolfapiaa.It
end
section
namespace Go.Proofs.Yteakfibolfapiaa.Ab
open Go Go.RowKit Go.Sort
set_option linter.unusedVariables false
set_option linter.unusedSimpArgs false
set_option maxRecDepth 100000
set_option maxHeartbeats 4000000
def rowA (a : It.Acc) : List D := [.int .i64 a.c, .int .u8 a.k, .str a.s]
/-- The accounts of a map by rising codes. -/
def isList (m : ML) (rows : List (List D)) : Prop := ∃ xs : List It.Acc, (xs.map It.pr).Perm m ∧ (xs.Pairwise fun x y => x.c ≤ y.c) ∧ rows = xs.map rowA
theorem rows_rel {w : World} {M : Nat → Prop} : ∀ (xs : List It.Acc) (rest : List Value), RelRows w M (xs.map rowA) (It.cellsA xs ++ rest)
  | [], rest => trivial
  | a :: xs, rest => by
    refine ⟨?_, ?_⟩
    · exact ⟨_, _, rfl, rfl, _, _, rfl, rfl, _, _, rfl, rfl, rfl⟩
    · exact rows_rel xs rest
def S_List (i : Nat) (K : CallK) (n : Nat) (h : Hp) : Prop := pat2 h i fun j m => Nd (fun _ => gC m ∧ m.length ≤ 1000) ∧ Al (isList m) fun rows => K (.sl n) (n + 1) (h ++ [(n, .row 3 rows)])
theorem L_List {i n : Nat} {h : Hp} {K : CallK} (hK : S_List i K n h) : CallE Try.prog 10 [.ptr i 0] n h K := by
  obtain ⟨j, m, hg, hg2, ⟨⟨hm, hl⟩⟩, hk⟩ := pat2_elim hK
  refine .enter _ Try.func10 (by kernel_rfl) (by kernel_rfl) (fun ρ w vs r a => ?_)
  obtain ⟨v0, rest, rfl, ⟨b, hb, rfl⟩, hrest⟩ := a
  obtain rfl : rest = [] := hrest
  obtain ⟨b1, cs, ty, h1, h2, h3⟩ := obj_cells r hg
  obtain ⟨bj, h4, h5⟩ := obj_mp r hg2
  rw [hb] at h1
  obtain rfl : b = b1 := by
    have := Option.some.inj h1
    simpa using this
  obtain ⟨cv, t, hcs, ⟨hv, -⟩, ht⟩ := h3
  obtain rfl : t = [] := ht
  rw [h4] at hv
  have hcell : w.cell? ⟨b, 0, none⟩ = some (.map (some bj)) := by
    obtain ⟨cl⟩ := cs
    have hcs : cl = [cv] := hcs
    subst hcs
    simp [World.cell?, h2, ← Option.some.inj hv]
  refine (It.C_List b bj m (fun p hp => hm.h p hp) hl w hcell h5).mono ?_
  rintro e w' ⟨v, xs, rfl, k1, k2, k3, k4⟩
  have hgr : Grows w w' := fun b o hbo => by rw [k4.block b (lt_of_get hbo)]; exact hbo
  have hnew : ∀ b, blkIn v b → w.heap.size ≤ b := by
    intro b hb
    rcases k3.2 with ⟨rfl, -⟩ | ⟨g, cap, cur, rfl, hbg, -⟩
    · cases hb
    · simp [blkIn, blkOf] at hb
      omega
  refine ⟨v, rfl, .sl n, upd ρ n v, n + 1, h ++ [(n, .row 3 (xs.map rowA))], hk.h _ ⟨xs, k1, k2, rfl⟩, r.new hgr hnew (fun hkp => ?_), by omega, ⟨upd_same _ _ _, ?_⟩, goes_new r hgr hnew k4.os k4.tape k4.output k4.size⟩
  · refine ⟨v, It.cellsA xs, 31, upd_same _ _ _, by decide, ⟨by simpa using k3.1, ?_⟩, ?_, ?_⟩
    · rcases k3.2 with ⟨h6, h7⟩ | ⟨g, cap, cur, hv, hbg, rest⟩
      · exact .inl ⟨h6, by simpa using h7⟩
      · exact .inr ⟨g, cap, cur, by simpa using hv, Nat.zero_le _, by simpa using rest⟩
    · intro q hq
      obtain ⟨a, -, rfl⟩ := List.mem_map.1 hq
      rfl
    · have := rows_rel (w := w') (M := Mut (upd ρ n v) (h ++ [(n, .row 3 (xs.map rowA))])) xs []
      rwa [List.append_nil] at this
  · rcases k3.2 with ⟨rfl, -⟩ | ⟨g, cap, cur, rfl, -⟩
    · exact ⟨_, _, _, rfl⟩
    · exact ⟨_, _, _, rfl⟩
end Go.Proofs.Yteakfibolfapiaa.Ab
end
section
namespace Go.Proofs.Yteakfibolfapiaa.Ab
open Go Go.RowKit Go.Sort
set_option linter.unusedVariables false
set_option linter.unusedSimpArgs false
theorem perm_of_sub : ∀ (a b : List Int), a.Nodup → (∀ x ∈ a, x ∈ b) → a.length = b.length → a.Perm b
  | [], b, _, _, hl => by
    have : b = [] := List.eq_nil_of_length_eq_zero hl.symm
    rw [this]
  | x :: a, b, hn, hs, hl => by
    have hx : x ∈ b := hs x (by simp)
    have hn' := List.nodup_cons.1 hn
    have hp := List.perm_cons_erase hx
    refine (List.Perm.cons x (perm_of_sub a (b.erase x) hn'.2 (fun y hy => ?_) ?_)).trans hp.symm
    · have hne : y ≠ x := fun e => hn'.1 (e ▸ hy)
      exact (List.mem_erase_of_ne hne).2 (hs y (by simp [hy]))
    · rw [List.length_erase_of_mem hx]
      simp at hl
      omega
/-- Sorted lists of the same numbers without doubles are one. -/
theorem acc_eq : ∀ (a b : List It.Acc), a.Perm b → (a.Pairwise fun x y => x.c ≤ y.c) → (b.Pairwise fun x y => x.c ≤ y.c) → (∀ x ∈ a, ∀ y ∈ a, x.c = y.c → x = y) → a = b
  | [], b, hp, _, _, _ => by simpa using hp.symm
  | x :: a, [], hp, _, _, _ => by simp at hp
  | x :: a, y :: b, hp, ha, hb, hu => by
    have hxb : x ∈ y :: b := hp.mem_iff.1 (by simp)
    have hya : y ∈ x :: a := hp.mem_iff.2 (by simp)
    have h1 : x.c ≤ y.c := by
      rcases List.mem_cons.1 hya with e | hm
      · rw [e]; omega
      · exact (List.pairwise_cons.1 ha).1 y hm
    have h2 : y.c ≤ x.c := by
      rcases List.mem_cons.1 hxb with e | hm
      · rw [e]; omega
      · exact (List.pairwise_cons.1 hb).1 x hm
    have e : x = y := hu x (by simp) y hya (by omega)
    subst e
    rw [acc_eq a b (List.Perm.cons_inv hp) (List.pairwise_cons.1 ha).2 (List.pairwise_cons.1 hb).2 fun u hu' v hv' => hu u (by simp [hu']) v (by simp [hv'])]
def un (p : Int × Value) : It.Acc := match p.2 with
  | .agg ⟨[.int _ _, .int _ k, .string s]⟩ => ⟨p.1, k, s.data.toList⟩
  | _ => default
theorem un_pr (a : It.Acc) : un (It.pr a) = a := rfl
theorem map_inj {α : Type} (f : α → Int) : ∀ (xs : List α), (xs.map f).Nodup → ∀ x ∈ xs, ∀ y ∈ xs, f x = f y → x = y
  | [], _, x, hx, _, _, _ => by cases hx
  | a :: xs, hn, x, hx, y, hy, e => by
    rw [List.map_cons, List.nodup_cons] at hn
    rcases List.mem_cons.1 hx with e1 | h1 <;> rcases List.mem_cons.1 hy with e2 | h2
    · rw [e1, e2]
    · subst e1
      exact absurd (List.mem_map.2 ⟨y, h2, e.symm⟩) hn.1
    · subst e2
      exact absurd (List.mem_map.2 ⟨x, h1, e⟩) hn.1
    · exact map_inj f xs hn.2 x h1 y h2 e
/-- What two lists of the same accounts hold is the same, and rises. -/
theorem lists_one {m m' : ML} {r r' : List (List D)} (h : isList m r) (h' : isList m' r') (hp : m.Perm m') (hn : (m.map (·.1)).Nodup) :
    r = r' ∧ ∃ xs : List It.Acc, r = xs.map rowA ∧ xs.length = m.length ∧ xs.Pairwise fun x y => x.c < y.c := by
  obtain ⟨xs, h1, h2, rfl⟩ := h
  obtain ⟨ys, h3, h4, rfl⟩ := h'
  have hxy : (xs.map It.pr).Perm (ys.map It.pr) := h1.trans (hp.trans h3.symm)
  have hxy2 : xs.Perm ys := by
    have := hxy.map un
    rw [List.map_map, List.map_map] at this
    have e : ∀ l : List It.Acc, l.map (un ∘ It.pr) = l := fun l => by
      induction l with
      | nil => rfl
      | cons a l ih => rw [List.map_cons, ih]; rfl
    rwa [e, e] at this
  have hc : (xs.map fun x => x.c).Nodup := by
    have := (h1.map (·.1)).nodup_iff.2 hn
    rw [List.map_map] at this
    exact this
  have hu := map_inj (fun x : It.Acc => x.c) xs hc
  refine ⟨by rw [acc_eq xs ys hxy2 h2 h4 hu], xs, rfl, by simpa using h1.length_eq, ?_⟩
  have hs : xs.Pairwise fun x y => x.c ≠ y.c := by
    rw [List.Nodup, List.pairwise_map] at hc
    exact hc
  exact (h2.and hs).imp fun ⟨a, b⟩ => by omega
theorem getM {M : List Int} {i : Nat} (hi : i < M.length) : M.getD i 0 = M[i] := by simp [List.getD, hi]
theorem ne_at {M : List Int} (h : M.Nodup) {p q : Nat} (hp : p < M.length) (hq : q < M.length) (hne : p ≠ q) : M.getD p 0 ≠ M.getD q 0 := by
  rw [getM hp, getM hq]
  have hpw := List.pairwise_iff_getElem.1 h
  rcases Nat.lt_or_gt_of_ne hne with hl | hl
  · exact hpw p q hp hq hl
  · exact fun e => hpw q p hq hp hl e.symm
theorem take_no {M : List Int} (h : M.Nodup) {i : Nat} (hi : i < M.length) : M.getD i 0 ∉ M.take i := by
  intro hm
  obtain ⟨q, hq, e⟩ := List.getElem_of_mem hm
  rw [List.getElem_take] at e
  have hq' : q < i := by simp at hq; omega
  exact ne_at h (p := q) (q := i) (by omega) hi (by omega) (by rw [getM (by omega), e])
theorem rot_no {M : List Int} (h : M.Nodup) {i t : Nat} (hi : i < M.length) : M.getD ((i + t) % M.length) 0 ∉ (List.range i).map fun q => M.getD ((q + t) % M.length) 0 := by
  intro hm
  obtain ⟨q, hq, e⟩ := List.mem_map.1 hm
  have hq' : q < i := List.mem_range.1 hq
  refine ne_at h (Nat.mod_lt _ (by omega)) (Nat.mod_lt _ (by omega)) (fun hab => ?_) e
  have h1 := Nat.sub_mod_eq_zero_of_mod_eq hab.symm
  rw [show i + t - (q + t) = i - q by omega, Nat.mod_eq_of_lt (by omega)] at h1
  omega
theorem rot_nodup {M : List Int} (h : M.Nodup) (t : Nat) : ∀ i, i ≤ M.length → ((List.range i).map fun q => M.getD ((q + t) % M.length) 0).Nodup
  | 0, _ => List.nodup_nil
  | i + 1, hi => by
    rw [List.range_succ, List.map_append, List.nodup_append]
    refine ⟨rot_nodup h t i (by omega), by simp, fun a ha b hb e => ?_⟩
    simp only [List.map_cons, List.map_nil, List.mem_singleton] at hb
    subst hb
    subst e
    exact rot_no h (by omega) ha
theorem rot_perm {M : List Int} (h : M.Nodup) (t : Nat) : ((List.range M.length).map fun q => M.getD ((q + t) % M.length) 0).Perm M := by
  refine perm_of_sub _ _ (rot_nodup h t _ (Nat.le_refl _)) (fun x hx => ?_) (by simp)
  obtain ⟨q, hq, rfl⟩ := List.mem_map.1 hx
  have hq' : q < M.length := List.mem_range.1 hq
  have hm : (q + t) % M.length < M.length := Nat.mod_lt _ (by omega)
  rw [getM hm]
  exact List.getElem_mem _
end Go.Proofs.Yteakfibolfapiaa.Ab
end

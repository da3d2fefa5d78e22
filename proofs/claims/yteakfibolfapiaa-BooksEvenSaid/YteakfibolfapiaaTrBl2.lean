/- The books' list. -/
import Derived.Test.YteakfibolfapiaaTrBl1
namespace Go.Proofs.Yteakfibolfapiaa.Bl
open Go Go.RowKit Go.Maps Go.Sort Go.Shelf
set_option linter.unusedVariables false
set_option linter.unusedSimpArgs false
section
variable {P : Program} {ops : Array Oper} {rest : List Oper} {o : Oper} {a : Act} {w : World} {Q : Exit → Act → World → Prop}
theorem wplk_range (hg : o.guard = none) (m : Operand) (t k e : TypeId) (hop : o.op = Op.range t m) (ht : P.underlying t = some (.map k e)) (r : Nat) (l : ML) (h : Mk.IMap .i64 w r l) (hm : a.eval m = .map (some r))
    (hK : ∀ w', Mk.IIterC .i64 w' r w.heap.size l none → Below w.heap.size w w' → wpList P ops Q rest (a.put o.dst (.pointer (some ⟨w.heap.size, 0, none⟩))) w') : wpList P ops Q (o :: rest) a w := by
  refine wpList_plain hg fun K' hK' => ?_
  obtain ⟨w', hrun, r1, r2⟩ := Mk.run_range h ht
  unfold Oper.wp
  simp [execOp, hop, hm, hrun, Result.andThen]
  exact hK' _ _ (hK w' r1.c r2)
theorem wplk_next (hg : o.guard = none) (it : Operand) (hop : o.op = Op.next it false) (r i : Nat) (left : ML) (cur : Option (Int × Value)) (h : Mk.IIterC .i64 w r i left cur) (hit : a.eval it = .pointer (some ⟨i, 0, none⟩))
    (hDone : left = [] → wpList P ops Q rest (a.put o.dst (.tuple #[.bool false])) w)
    (hMore : ∀ (p : Int × Value) (left' : ML) (w' : World), left.Perm (p :: left') → Mk.IIterC .i64 w' r i left' (some p) → Tr.Chg i w w' →
      (Instr.entry (.pointer (some ⟨i, 0, none⟩))).run P w' = .ok (.tuple #[.int .i64 p.1, p.2]) w' → wpList P ops Q rest (a.put o.dst (.tuple #[.bool true, .int .i64 p.1, p.2])) w') : wpList P ops Q (o :: rest) a w := by
  refine wpList_plain hg fun K' hK' => ?_
  unfold Oper.wp
  rcases Mk.run_next (P := P) h.it o.type with ⟨h0, hrun⟩ | ⟨p, left', w', h1, hrun, h2, h3, -⟩
  · simp [execOp, hop, hit, hrun, Result.andThen]
    exact hK' _ _ (hDone h0)
  · simp [execOp, hop, hit, hrun, Result.andThen]
    exact hK' _ _ (hMore p left' w' h1 h2 h3.1 (h2.entry P))
end
theorem Try.infoEnt : (Try.prog.info? 118).map (fun i => (i.zero, i.size, i.bytes)) = some (some (.agg #[.int .i64 0, .int .i64 0]), 2, 16) := by kernel_rfl
theorem cells_new2 (w : World) (x y : Value) (t : TypeId) : ∀ (j : Nat) (u : Value), [x, y][j]? = some u → (w.alloc (.cells #[x, y] t)).cell? ((⟨w.heap.size, 0, none⟩ : Addr).add j) = some u := by
  intro j u hj
  match j, hj with
  | 0, hj => simp at hj; subst hj; simp [Addr.add]
  | 1, hj => simp at hj; subst hj; simp [Addr.add]
theorem cellsE_snoc (pre : List (Int × Int)) (x : Int × Int) : cellsE (pre ++ [x]) = cellsE pre ++ [.int .i64 x.1, .int .i64 x.2] := by simp [cellsE, encE]
theorem own_chg {w w' : World} {g base size n : Nat} {e : TypeId} {v : Value} {xs : List Value} (h : w.ownsRow base e size v n xs) (hc : Tr.Chg g w w') (hg : g < base) : w'.ownsRow base e size v n xs := by
  obtain ⟨h1, h2⟩ := h
  refine ⟨h1, ?_⟩
  rcases h2 with h2 | ⟨b, cap, cur, rfl, hb, hbl, rest⟩
  · exact .inl h2
  · exact .inr ⟨b, cap, cur, rfl, hb, by rw [hc.block b (Tr.blk_lt hbl) (by omega)]; exact hbl, rest⟩
theorem it_below {w w' : World} {r i B : Nat} {left : ML} {cur : Option (Int × Value)} (hb : Below B w w') (hr : r < B) (hi : i < B) (h : Mk.IIterC .i64 w r i left cur) : Mk.IIterC .i64 w' r i left cur := by
  obtain ⟨E, c, s, h1, h2, h3⟩ := h
  exact ⟨E, c, s, (hb.block r hr).trans h1, (hb.block i hi).trans h2, h3⟩
theorem it_grown {w w' : World} {r i : Nat} {left : ML} {cur : Option (Int × Value)} {row : Option Nat} (hg : w.grownBy w' row) (h : Mk.IIterC .i64 w r i left cur) (hr : some r ≠ row) (hi : some i ≠ row) : Mk.IIterC .i64 w' r i left cur := by
  obtain ⟨E, c, s, h1, h2, h3⟩ := h
  exact ⟨E, c, s, (hg.block r (Tr.blk_lt h1) hr).trans h1, (hg.block i (Tr.blk_lt h2) hi).trans h2, h3⟩
theorem grow_of_below0 {w w' : World} (h : Below w.heap.size w w') : w.grownBy w' none := ⟨h.os, h.tape, h.output, h.size, fun k hk _ => h.block k hk⟩
/-- Between two rounds. -/
structure LInv (w : World) (bj : Nat) (m : ML) (s3 : Value) (wr : World) (left : ML) (xs : List (Int × Int)) (cur : Option (Int × Value)) : Prop where
  it : Mk.IIterC .i64 wr bj w.heap.size left cur
  pm : m.Perm (xs.map prE ++ left)
  row : wr.ownsRow (w.heap.size + 1) 118 2 s3 xs.length (cellsE xs)
  bel : Below w.heap.size w wr
  sz : w.heap.size < wr.heap.size
  nl : s3 = .slice none 0 0 ↔ xs = []
set_option maxRecDepth 100000 in
set_option maxHeartbeats 2000000 in
theorem C_List (bi bj : Nat) (m : ML) (hm0 : Ab.gB m) (w : World) (hm : w.cell? ⟨bi, 0, none⟩ = some (.map (some bj))) (hown : Mk.IMap .i64 w bj m) :
    Calls Try.prog 46 #[.pointer (some ⟨bi, 0, none⟩)] w fun e w' =>
      ∃ (v : Value) (xs : List (Int × Int)), e = .returned v ∧ (xs.map prE).Perm m ∧ (xs.Pairwise fun x y => x.1 ≤ y.1) ∧ w'.ownsRow w.heap.size 118 2 v xs.length (cellsE xs) ∧ Below w.heap.size w w' := by
  have hlen := hm0.len
  have hjl := hown.lt
  have G := Lib.hid hm0
  clear hm0
  go_enter Try.func46, Try.ntmps46
  go_wp2_with (at_range; refine wplk_range rfl _ 106 _ _ rfl Try.underlying106 bj m hown rfl ?_; intro w0 hrg0 hb0)
  go_frame
  go_loopw [3] (fun s3 wr => ∃ left xs cur, LInv w bj m s3 wr left xs cur) (fun _ wr => Mk.itLeft wr w.heap.size)
  case atStart =>
    exact ⟨m, [], none, hrg0, List.Perm.refl _, ⟨rfl, .inl ⟨rfl, rfl⟩⟩, hb0, hrg0.it.lt, by simp⟩
  case round =>
    obtain ⟨left, xs, cur, hI⟩ := hrel
    have hit0 := hI.it
    go_wp2_with (at_next; refine wplk_next rfl _ rfl bj w.heap.size left cur hit0 rfl ?done ?more)
    case done =>
      intro h0
      subst h0
      have hpm : m.Perm (xs.map prE) := by simpa using hI.pm
      have hxl : xs.length ≤ 65536 := by have := hpm.length_eq; simp at this; omega
      have hrow := hI.row
      have hbel := hI.bel
      clear hI hit0
      rcases hrow.2 with ⟨rfl, hz⟩ | ⟨gb, cap, cur2, rfl, hbase, hgb, r1, r2, r3, r4⟩
      · have hxs : xs = [] := List.eq_nil_of_length_eq_zero hz
        subst hxs
        go_wp2_with (go_at_call 67; refine (noneAt none 0 wr).mono ?_; rintro e w' ⟨rfl, rfl⟩)
        go_ret
        exact ⟨_, [], rfl, hpm.symm, List.Pairwise.nil, ⟨rfl, .inl ⟨rfl, rfl⟩⟩, hbel⟩
      · have hgl : gb < wr.heap.size := (Array.getElem?_eq_some_iff.1 hgb).1
        have cS := sortAt gb 0 cap xs.toArray wr (holdsK_of_block hgb (by simpa using r4)) hgl (by simp; omega)
        simp only [List.size_toArray] at cS
        clear hrow
        go_wp2_with (go_at_call 67; refine cS.mono ?_; rintro e w' ⟨rfl, d', nn, os, hp, hs, rfl⟩)
        go_ret
        have hp' := perm_of (d := xs.toArray) (by simpa using hp)
        have hl : d'.size = xs.length := by simpa using hp'.2
        refine ⟨_, d'.toList, rfl, (hp'.1.map prE).trans hpm.symm, sorted_pairs (by rw [hl]; exact hs), ?_, hbel.grown (grownBy_sortedK _) hbel.size (fun j hj => by cases hj; omega)⟩
        have := ownsRow_sortedK (base := w.heap.size) (n := nn) (os := os) hl (by omega) hgb r1 r2 r3
        simpa [hl] using this
    case more =>
      intro key val left' w2 hperm hit2 hc2 hen
      have hpm : (key, val) ∈ m := hI.pm.mem_iff.2 (by simp [hperm.mem_iff])
      obtain ⟨z, hz, -⟩ := G.out.h _ hpm
      have hz : val = .int .i64 z := hz
      subst hz
      have hP2 : m.Perm ((xs ++ [(key, z)]).map prE ++ left') := by
        refine hI.pm.trans ?_
        rw [List.map_append, List.append_assoc]
        exact List.Perm.append_left _ hperm
      have hlen2 : xs.length < 65536 := by
        have h1 := hP2.length_eq
        simp at h1
        omega
      have hrow2 := own_chg hI.row hc2 (Nat.lt_succ_self _)
      have hbel2 : Below w.heap.size w w2 := hc2.below hI.bel (Nat.le_refl _) (Nat.le_refl _)
      have hsz2 : w.heap.size < w2.heap.size := Nat.lt_of_lt_of_le hI.sz hc2.size
      have hll := hperm.length_eq
      have hitl := hit0.it.left_eq
      have HR := Lib.hid hrow2; have HB := Lib.hid hbel2; have HI := Lib.hid hit2; have HP := Lib.hid hP2; have HL := Lib.hid hll; have HIL := Lib.hid hitl
      clear hI hit0 hrow2 hbel2 hit2 hP2 hperm hc2 hpm hll hitl
      obtain ⟨i0, hi, hz0, hz1, hz2⟩ := info_parts Try.infoEnt
      go_wp2_with (at_builtin; refine wpList_append_own _ rfl _ _ 109 rfl (w.heap.size + 1) 118 i0 (.agg #[.int .i64 0, .int .i64 0]) 2 16 Try.underlying109 hi hz0 hz1 hz2 rfl (by decide) _ _ _ rfl (HR.out.alloc _) ⟨w2.heap.size, 0, none⟩ 1 1 [.int .i64 key, .int .i64 z] rfl rfl (cells_new2 _ _ _ _) (by simp [Value.oneCell']) (by simp [maxLen]; omega) (by omega) (by simp; omega) ?_; intro v' w3 hown' hg3 hnil3)
      go_roundw
      case rel =>
        have hob : ∀ k, u3.ownBlock = some k → w.heap.size + 1 ≤ k := fun k hk => (HR.out.lt k hk).1
        have hal : w2.grownBy (w2.alloc (.cells #[.int .i64 key, .int .i64 z] 118)) none := grow_of_below0 ((Below.refl _ w2).alloc (Nat.le_refl _) _)
        refine ⟨left', xs ++ [(key, z)], _, it_grown hg3 (it_grown hal HI.out (by simp) (by simp)) (fun e => ?_) (fun e => ?_), HP.out, ?_, ?_, ?_, ?_⟩
        · have := hob _ e.symm; omega
        · have := hob _ e.symm; omega
        · rw [List.length_append, cellsE_snoc]; exact hown'
        · exact (HB.out.alloc HB.out.size _).grown hg3 (by simp; omega) (fun k hk => by have := hob k hk; omega)
        · have := hg3.size; simp at this; omega
        · have := HR.out; simp [hnil3]
      case measure =>
        have h1 := (it_grown hg3 (it_grown (grow_of_below0 ((Below.refl _ w2).alloc (Nat.le_refl _) (.cells #[.int .i64 key, .int .i64 z] 118))) HI.out (by simp) (by simp)) (fun e => by have := (HR.out.lt _ e.symm).1; omega) (fun e => by have := (HR.out.lt _ e.symm).1; omega)).it.left_eq
        rw [h1, HIL.out, HL.out]
        simp
end Go.Proofs.Yteakfibolfapiaa.Bl

/- Several texts in one: Bl2, Bk4, Bk5, Bk6, Bk7, RbP, Ref03. -/
import Derived.Test.YteakfibolfapiaaTrPk11
section
namespace Go.Proofs.Yteakfibolfapiaa.Bl
open Go Go.RowKit Go.Maps Go.Sort Go.Shelf
set_option linter.unusedVariables false
set_option linter.unusedSimpArgs false
section
variable {P : Program} {ops : Array Oper} {rest : List Oper} {o : Oper} {a : Act} {w : World} {Q : Exit → Act → World → Prop}
theorem wplk_range (hg : o.guard = none) (m : Operand) (t k e : TypeId) (hop : o.op = Op.range t m) (ht : P.underlying t = some (.map k e)) (r : Nat) (l : ML) (h : Mk.IMap .i64 w r l) (hm : a.eval m = .map (some r))
    (hK : ∀ w', Mk.IIterC .i64 w' r w.heap.size l none → Below w.heap.size w w' → wpList P ops Q rest (a.put o.dst (.pointer (some ⟨w.heap.size, 0, none⟩))) w') : wpList P ops Q (o :: rest) a w := by
  refine wpList_plain hg fun K' hK' => ?_
  obtain ⟨w', hrun, r1, r2⟩ := Mk.run_range h ht
  unfold Oper.wp
  simp [execOp, hop, hm, hrun, Result.andThen]
  exact hK' _ _ (hK w' r1.c r2)
theorem wplk_next (hg : o.guard = none) (it : Operand) (hop : o.op = Op.next it false) (r i : Nat) (left : ML) (cur : Option (Int × Value)) (h : Mk.IIterC .i64 w r i left cur) (hit : a.eval it = .pointer (some ⟨i, 0, none⟩))
    (hDone : left = [] → wpList P ops Q rest (a.put o.dst (.tuple #[.bool false])) w)
    (hMore : ∀ (p : Int × Value) (left' : ML) (w' : World), left.Perm (p :: left') → Mk.IIterC .i64 w' r i left' (some p) → Tr.Chg i w w' →
      (Instr.entry (.pointer (some ⟨i, 0, none⟩))).run P w' = .ok (.tuple #[.int .i64 p.1, p.2]) w' → wpList P ops Q rest (a.put o.dst (.tuple #[.bool true, .int .i64 p.1, p.2])) w') : wpList P ops Q (o :: rest) a w := by
  refine wpList_plain hg fun K' hK' => ?_
  unfold Oper.wp
  rcases Mk.run_next (P := P) h.it o.type with ⟨h0, hrun⟩ | ⟨p, left', w', h1, hrun, h2, h3, -⟩
  · simp [execOp, hop, hit, hrun, Result.andThen]
    exact hK' _ _ (hDone h0)
  · simp [execOp, hop, hit, hrun, Result.andThen]
    exact hK' _ _ (hMore p left' w' h1 h2 h3.1 (h2.entry P))
end
theorem Try.infoEnt : (Try.prog.info? 118).map (fun i => (i.zero, i.size, i.bytes)) = some (some (.agg #[.int .i64 0, .int .i64 0]), 2, 16) := by kernel_rfl
theorem cells_new2 (w : World) (x y : Value) (t : TypeId) : ∀ (j : Nat) (u : Value), [x, y][j]? = some u → (w.alloc (.cells #[x, y] t)).cell? ((⟨w.heap.size, 0, none⟩ : Addr).add j) = some u := by
  intro j u hj
  match j, hj with
  | 0, hj => simp at hj; subst hj; simp [Addr.add]
  | 1, hj => simp at hj; subst hj; simp [Addr.add]
theorem cellsE_snoc (pre : List (Int × Int)) (x : Int × Int) : cellsE (pre ++ [x]) = cellsE pre ++ [.int .i64 x.1, .int .i64 x.2] := by simp [cellsE, encE]
theorem own_chg {w w' : World} {g base size n : Nat} {e : TypeId} {v : Value} {xs : List Value} (h : w.ownsRow base e size v n xs) (hc : Tr.Chg g w w') (hg : g < base) : w'.ownsRow base e size v n xs := by
  obtain ⟨h1, h2⟩ := h
  refine ⟨h1, ?_⟩
  rcases h2 with h2 | ⟨b, cap, cur, rfl, hb, hbl, rest⟩
  · exact .inl h2
  · exact .inr ⟨b, cap, cur, rfl, hb, by rw [hc.block b (Tr.blk_lt hbl) (by omega)]; exact hbl, rest⟩
theorem it_below {w w' : World} {r i B : Nat} {left : ML} {cur : Option (Int × Value)} (hb : Below B w w') (hr : r < B) (hi : i < B) (h : Mk.IIterC .i64 w r i left cur) : Mk.IIterC .i64 w' r i left cur := by
  obtain ⟨E, c, s, h1, h2, h3⟩ := h
  exact ⟨E, c, s, (hb.block r hr).trans h1, (hb.block i hi).trans h2, h3⟩
theorem it_grown {w w' : World} {r i : Nat} {left : ML} {cur : Option (Int × Value)} {row : Option Nat} (hg : w.grownBy w' row) (h : Mk.IIterC .i64 w r i left cur) (hr : some r ≠ row) (hi : some i ≠ row) : Mk.IIterC .i64 w' r i left cur := by
  obtain ⟨E, c, s, h1, h2, h3⟩ := h
  exact ⟨E, c, s, (hg.block r (Tr.blk_lt h1) hr).trans h1, (hg.block i (Tr.blk_lt h2) hi).trans h2, h3⟩
theorem grow_of_below0 {w w' : World} (h : Below w.heap.size w w') : w.grownBy w' none := ⟨h.os, h.tape, h.output, h.size, fun k hk _ => h.block k hk⟩
/-- Between two rounds. -/
structure LInv (w : World) (bj : Nat) (m : ML) (s3 : Value) (wr : World) (left : ML) (xs : List (Int × Int)) (cur : Option (Int × Value)) : Prop where
  it : Mk.IIterC .i64 wr bj w.heap.size left cur
  pm : m.Perm (xs.map prE ++ left)
  row : wr.ownsRow (w.heap.size + 1) 118 2 s3 xs.length (cellsE xs)
  bel : Below w.heap.size w wr
  sz : w.heap.size < wr.heap.size
  nl : s3 = .slice none 0 0 ↔ xs = []
set_option maxRecDepth 100000 in
set_option maxHeartbeats 2000000 in
theorem C_List (bi bj : Nat) (m : ML) (hm0 : Ab.gB m) (w : World) (hm : w.cell? ⟨bi, 0, none⟩ = some (.map (some bj))) (hown : Mk.IMap .i64 w bj m) :
    Calls Try.prog 46 #[.pointer (some ⟨bi, 0, none⟩)] w fun e w' =>
      ∃ (v : Value) (xs : List (Int × Int)), e = .returned v ∧ (xs.map prE).Perm m ∧ (xs.Pairwise fun x y => x.1 ≤ y.1) ∧ w'.ownsRow w.heap.size 118 2 v xs.length (cellsE xs) ∧ Below w.heap.size w w' := by
  have hlen := hm0.len
  have hjl := hown.lt
  have G := Lib.hid hm0
  clear hm0
  go_enter Try.func46, Try.ntmps46
  go_wp2_with (at_range; refine wplk_range rfl _ 106 _ _ rfl Try.underlying106 bj m hown rfl ?_; intro w0 hrg0 hb0)
  go_frame
  go_loopw [3] (fun s3 wr => ∃ left xs cur, LInv w bj m s3 wr left xs cur) (fun _ wr => Mk.itLeft wr w.heap.size)
  case atStart =>
    exact ⟨m, [], none, hrg0, List.Perm.refl _, ⟨rfl, .inl ⟨rfl, rfl⟩⟩, hb0, hrg0.it.lt, by simp⟩
  case round =>
    obtain ⟨left, xs, cur, hI⟩ := hrel
    have hit0 := hI.it
    go_wp2_with (at_next; refine wplk_next rfl _ rfl bj w.heap.size left cur hit0 rfl ?done ?more)
    case done =>
      intro h0
      subst h0
      have hpm : m.Perm (xs.map prE) := by simpa using hI.pm
      have hxl : xs.length ≤ 65536 := by have := hpm.length_eq; simp at this; omega
      have hrow := hI.row
      have hbel := hI.bel
      clear hI hit0
      rcases hrow.2 with ⟨rfl, hz⟩ | ⟨gb, cap, cur2, rfl, hbase, hgb, r1, r2, r3, r4⟩
      · have hxs : xs = [] := List.eq_nil_of_length_eq_zero hz
        subst hxs
        go_wp2_with (go_at_call 67; refine (noneAt none 0 wr).mono ?_; rintro e w' ⟨rfl, rfl⟩)
        go_ret
        exact ⟨_, [], rfl, hpm.symm, List.Pairwise.nil, ⟨rfl, .inl ⟨rfl, rfl⟩⟩, hbel⟩
      · have hgl : gb < wr.heap.size := (Array.getElem?_eq_some_iff.1 hgb).1
        have cS := sortAt gb 0 cap xs.toArray wr (holdsK_of_block hgb (by simpa using r4)) hgl (by simp; omega)
        simp only [List.size_toArray] at cS
        clear hrow
        go_wp2_with (go_at_call 67; refine cS.mono ?_; rintro e w' ⟨rfl, d', nn, os, hp, hs, rfl⟩)
        go_ret
        have hp' := perm_of (d := xs.toArray) (by simpa using hp)
        have hl : d'.size = xs.length := by simpa using hp'.2
        refine ⟨_, d'.toList, rfl, (hp'.1.map prE).trans hpm.symm, sorted_pairs (by rw [hl]; exact hs), ?_, hbel.grown (grownBy_sortedK _) hbel.size (fun j hj => by cases hj; omega)⟩
        have := ownsRow_sortedK (base := w.heap.size) (n := nn) (os := os) hl (by omega) hgb r1 r2 r3
        simpa [hl] using this
    case more =>
      intro key val left' w2 hperm hit2 hc2 hen
      have hpm : (key, val) ∈ m := hI.pm.mem_iff.2 (by simp [hperm.mem_iff])
      obtain ⟨z, hz, -⟩ := G.out.h _ hpm
      have hz : val = .int .i64 z := hz
      subst hz
      have hP2 : m.Perm ((xs ++ [(key, z)]).map prE ++ left') := by
        refine hI.pm.trans ?_
        rw [List.map_append, List.append_assoc]
        exact List.Perm.append_left _ hperm
      have hlen2 : xs.length < 65536 := by
        have h1 := hP2.length_eq
        simp at h1
        omega
      have hrow2 := own_chg hI.row hc2 (Nat.lt_succ_self _)
      have hbel2 : Below w.heap.size w w2 := hc2.below hI.bel (Nat.le_refl _) (Nat.le_refl _)
      have hsz2 : w.heap.size < w2.heap.size := Nat.lt_of_lt_of_le hI.sz hc2.size
      have hll := hperm.length_eq
      have hitl := hit0.it.left_eq
      have HR := Lib.hid hrow2; have HB := Lib.hid hbel2; have HI := Lib.hid hit2; have HP := Lib.hid hP2; have HL := Lib.hid hll; have HIL := Lib.hid hitl
      clear hI hit0 hrow2 hbel2 hit2 hP2 hperm hc2 hpm hll hitl
      obtain ⟨i0, hi, hz0, hz1, hz2⟩ := info_parts Try.infoEnt
      go_wp2_with (at_builtin; refine wpList_append_own _ rfl _ _ 109 rfl (w.heap.size + 1) 118 i0 (.agg #[.int .i64 0, .int .i64 0]) 2 16 Try.underlying109 hi hz0 hz1 hz2 rfl (by decide) _ _ _ rfl (HR.out.alloc _) ⟨w2.heap.size, 0, none⟩ 1 1 [.int .i64 key, .int .i64 z] rfl rfl (cells_new2 _ _ _ _) (by simp [Value.oneCell']) (by simp [maxLen]; omega) (by omega) (by simp; omega) ?_; intro v' w3 hown' hg3 hnil3)
      go_roundw
      case rel =>
        have hob : ∀ k, u3.ownBlock = some k → w.heap.size + 1 ≤ k := fun k hk => (HR.out.lt k hk).1
        have hal : w2.grownBy (w2.alloc (.cells #[.int .i64 key, .int .i64 z] 118)) none := grow_of_below0 ((Below.refl _ w2).alloc (Nat.le_refl _) _)
        refine ⟨left', xs ++ [(key, z)], _, it_grown hg3 (it_grown hal HI.out (by simp) (by simp)) (fun e => ?_) (fun e => ?_), HP.out, ?_, ?_, ?_, ?_⟩
        · have := hob _ e.symm; omega
        · have := hob _ e.symm; omega
        · rw [List.length_append, cellsE_snoc]; exact hown'
        · exact (HB.out.alloc HB.out.size _).grown hg3 (by simp; omega) (fun k hk => by have := hob k hk; omega)
        · have := hg3.size; simp at this; omega
        · have := HR.out; simp [hnil3]
      case measure =>
        have h1 := (it_grown hg3 (it_grown (grow_of_below0 ((Below.refl _ w2).alloc (Nat.le_refl _) (.cells #[.int .i64 key, .int .i64 z] 118))) HI.out (by simp) (by simp)) (fun e => by have := (HR.out.lt _ e.symm).1; omega) (fun e => by have := (HR.out.lt _ e.symm).1; omega)).it.left_eq
        rw [h1, HIL.out, HL.out]
        simp
end Go.Proofs.Yteakfibolfapiaa.Bl
end
section
namespace Go.Proofs.Yteakfibolfapiaa.Ab
open Go Go.RowKit Go.Sort
set_option linter.unusedVariables false
set_option linter.unusedSimpArgs false
set_option maxRecDepth 100000
set_option maxHeartbeats 4000000
/-- The balances by rising accounts. -/
structure BL (m : ML) (xs : List (Int × Int)) : Prop where
  p : (xs.map Bl.prE).Perm m
  s : xs.Pairwise fun x y => x.1 < y.1
theorem BL.of {m : ML} (hm : gB m) {xs : List (Int × Int)} (h1 : (xs.map Bl.prE).Perm m) (h2 : xs.Pairwise fun x y => x.1 ≤ y.1) : BL m xs := by
  refine ⟨h1, ?_⟩
  have h3 := (h1.map (·.1)).nodup_iff.2 hm.nd
  rw [List.map_map] at h3
  have h4 : xs.Pairwise fun x y => x.1 ≠ y.1 := by
    rw [List.Nodup, List.pairwise_map] at h3
    exact h3
  exact (h2.and h4).imp fun ⟨a, b⟩ => by omega
theorem lnR_flat : ∀ (xs : List (Int × Int)), Bl.cellsE xs = xs.flatMap fun p => [.int .i64 p.1, .int .i64 p.2] := fun _ => rfl
theorem rowsE_rel {w : World} {M : Nat → Prop} : ∀ (xs : List (Int × Int)) (rest : List Value), RelRows w M (lnR xs) (Bl.cellsE xs ++ rest)
  | [], rest => trivial
  | a :: xs, rest => by
    refine ⟨?_, ?_⟩
    · exact ⟨_, _, rfl, rfl, _, _, rfl, rfl, rfl⟩
    · exact rowsE_rel xs rest
def S_BList (i : Nat) (K : CallK) (n : Nat) (h : Hp) : Prop := pat2 h i fun j m => Nd (fun _ => gB m) ∧ Al (fun rows => ∃ xs, rows = lnR xs ∧ BL m xs) fun rows => K (.sl n) (n + 1) (h ++ [(n, .row 2 rows)])
theorem L_BList {i n : Nat} {h : Hp} {K : CallK} (hK : S_BList i K n h) : CallE Try.prog 46 [.ptr i 0] n h K := by
  obtain ⟨j, m, hg, hg2, ⟨hm⟩, hk⟩ := pat2_elim hK
  refine .enter _ Try.func46 (by kernel_rfl) (by kernel_rfl) (fun ρ w vs r a => ?_)
  obtain ⟨v0, rest, rfl, ⟨b, hb, rfl⟩, hrest⟩ := a
  obtain rfl : rest = [] := hrest
  obtain ⟨b1, cs, ty, h1, h2, h3⟩ := obj_cells r hg
  obtain ⟨bj, h4, h5⟩ := obj_mp r hg2
  rw [hb] at h1
  obtain rfl : b = b1 := by
    have := Option.some.inj h1
    simpa using this
  obtain ⟨cv, t, hcs, ⟨hv, -⟩, ht⟩ := h3
  obtain rfl : t = [] := ht
  rw [h4] at hv
  have hcell : w.cell? ⟨b, 0, none⟩ = some (.map (some bj)) := by
    obtain ⟨cl⟩ := cs
    have hcs : cl = [cv] := hcs
    subst hcs
    simp [World.cell?, h2, ← Option.some.inj hv]
  refine (Bl.C_List b bj m hm w hcell h5).mono ?_
  rintro e w' ⟨v, xs, rfl, k1, k2, k3, k4⟩
  have hgr : Grows w w' := fun b o hbo => by rw [k4.block b (lt_of_get hbo)]; exact hbo
  have hnew : ∀ b, blkIn v b → w.heap.size ≤ b := by
    intro b hb
    rcases k3.2 with ⟨rfl, -⟩ | ⟨g, cap, cur, rfl, hbg, -⟩
    · cases hb
    · simp [blkIn, blkOf] at hb
      omega
  have hll : (lnR xs).length = xs.length := by simp [lnR]
  refine ⟨v, rfl, .sl n, upd ρ n v, n + 1, h ++ [(n, .row 2 (lnR xs))], hk.h _ ⟨xs, rfl, BL.of hm k1 k2⟩, r.new hgr hnew (fun hkp => ?_), by omega, ⟨upd_same _ _ _, ?_⟩, goes_new r hgr hnew k4.os k4.tape k4.output k4.size⟩
  · refine ⟨v, Bl.cellsE xs, 118, upd_same _ _ _, by decide, ⟨by rw [hll]; exact k3.1, ?_⟩, ?_, ?_⟩
    · rw [hll]
      rcases k3.2 with ⟨h6, h7⟩ | ⟨g, cap, cur, hv, hbg, rest⟩
      · exact .inl ⟨h6, h7⟩
      · exact .inr ⟨g, cap, cur, hv, Nat.zero_le _, rest⟩
    · intro q hq
      obtain ⟨a, -, rfl⟩ := List.mem_map.1 hq
      rfl
    · have := rowsE_rel (w := w') (M := Mut (upd ρ n v) (h ++ [(n, .row 2 (lnR xs))])) xs []
      rwa [List.append_nil] at this
  · rcases k3.2 with ⟨rfl, -⟩ | ⟨g, cap, cur, rfl, -⟩
    · exact ⟨_, _, _, rfl⟩
    · exact ⟨_, _, _, rfl⟩
/-! Apply -/
def S_Apply (i : Nat) (r : List (List D)) (K : CallK) (n : Nat) (h : Hp) : Prop := pat2 h i fun j m => Nd (fun _ => i < n ∧ j < n ∧ i ≠ j ∧ gB m ∧ ∃ qs, r = lnR qs ∧ qs.length ≤ 1000 ∧ ∀ q ∈ qs, I64 q.2) ∧
  Al (fun q : Int × ML => ∃ qs, r = lnR qs ∧ AppR m qs q.1 q.2) fun q => K (.d (.int .i64 q.1)) n (out2 i j h q.2)
theorem L_Apply {i n : Nat} {r : List (List D)} {h : Hp} {K : CallK} (hK : S_Apply i r K n h) : CallE Try.prog 16 [.ptr i 0, .d (.imm r)] n h K := by
  obtain ⟨j, m, hg, hg2, ⟨⟨hi, hj, hij, hm, qs, hr, hl, hq⟩⟩, hk⟩ := pat2_elim hK
  refine call_recv2 (CallE.fin (K_Apply0 m hm r qs hr hl hq)) rfl hi hj hij hg hg2 ?_
  rintro v n1 h1 ⟨e, m', rfl, rfl, rfl, hA⟩ -
  exact hk.h (e, m') ⟨qs, hr, hA⟩
end Go.Proofs.Yteakfibolfapiaa.Ab
end
section
namespace Go.Proofs.Yteakfibolfapiaa.Ab
open Go Go.RowKit Go.Sort
set_option linter.unusedVariables false
set_option linter.unusedSimpArgs false
set_option maxRecDepth 100000
set_option maxHeartbeats 8000000
def debs (xs : List (Int × Int)) : List Int := (xs.filter fun p => decide (0 < p.2)).map (·.2)
def crds (xs : List (Int × Int)) : List Int := (xs.filter fun p => !decide (0 < p.2)).map (·.2)
theorem debs_snoc (xs : List (Int × Int)) (p : Int × Int) : debs (xs ++ [p]) = if 0 < p.2 then debs xs ++ [p.2] else debs xs := by
  unfold debs
  rw [List.filter_append, List.map_append]
  split
  · rename_i h; simp [h]
  · rename_i h; simp [h]
theorem crds_snoc (xs : List (Int × Int)) (p : Int × Int) : crds (xs ++ [p]) = if 0 < p.2 then crds xs else crds xs ++ [p.2] := by
  unfold crds
  rw [List.filter_append, List.map_append]
  split
  · rename_i h; simp [h]
  · rename_i h; simp [h]
/-- The trial of a list, by its sums. -/
def tri (d c : Int) : Int × Int × Int := if amtE d = 0 ∧ amtE c = 0 ∧ amt c ≠ -9223372036854775808 then (amt d, -(amt c), 0) else (0, 0, 6)
def KTri (m : ML) : CallK := fun v n h => ∃ xs, BL m xs ∧ v = .tup [.d (.int .i64 (tri (debs xs).sum (crds xs).sum).1), .d (.int .i64 (tri (debs xs).sum (crds xs).sum).2.1), .d (.int .i64 (tri (debs xs).sum (crds xs).sum).2.2)] ∧ n = 2 ∧ h = [(0, .mp .i64 m), (1, .cells [.map 0])]
theorem addLL {j : Int} {i : Nat} (hj : j = i) (hi : i < 1000000) : real.bin .add .i64 j 1 = ((i + 1 : Nat) : Int) := by
  simp only [real, rBin]; rw [wrap_i64 _ (by omega) (by omega)]; omega
theorem debs_len (xs : List (Int × Int)) : (debs xs).length ≤ xs.length := by
  unfold debs; rw [List.length_map]; exact List.length_filter_le _ _
theorem crds_len (xs : List (Int × Int)) : (crds xs).length ≤ xs.length := by
  unfold crds; rw [List.length_map]; exact List.length_filter_le _ _
theorem ap_tr {rd : List (List D)} {l : List Int} {z : Int} (h : rd = iR l) (hl : l.length ≤ 70000) : real.apok rd [[.int .i64 z]] 1 8 = true := by
  subst h
  simp [real, flatD, maxLen, iR_len]
  omega
theorem tr_len {f : List (Int × Int) → List Int} (hf : ∀ xs, (f xs).length ≤ xs.length) {xs : List (Int × Int)} (h : xs.length ≤ 65536) (i : Nat) : (f (xs.take i)).length ≤ 70000 := by
  have h1 := hf (xs.take i)
  have h2 : (xs.take i).length ≤ xs.length := by simp; omega
  omega
theorem BL.I {m : ML} (hm : gB m) {xs : List (Int × Int)} (h : BL m xs) : ∀ p ∈ xs, I64 p.2 := by
  intro p hp
  obtain ⟨z, hz, -, hi⟩ := hm.h (Bl.prE p) (h.p.mem_iff.1 (List.mem_map.2 ⟨p, hp, rfl⟩))
  have hz : Value.int .i64 p.2 = .int .i64 z := hz
  injection hz with _ e
  rw [e]; exact hi
theorem debs_I {xs : List (Int × Int)} (h : ∀ p ∈ xs, I64 p.2) (i : Nat) : ∀ x ∈ debs (xs.take i), I64 x := by
  intro x hx
  obtain ⟨p, hp, rfl⟩ := List.mem_map.1 hx
  exact h p (List.mem_of_mem_take (List.mem_filter.1 hp).1)
theorem crds_I {xs : List (Int × Int)} (h : ∀ p ∈ xs, I64 p.2) (i : Nat) : ∀ x ∈ crds (xs.take i), I64 x := by
  intro x hx
  obtain ⟨p, hp, rfl⟩ := List.mem_map.1 hx
  exact h p (List.mem_of_mem_take (List.mem_filter.1 hp).1)
theorem rw_ok {rd : List (List D)} {l : List Int} (h : rd = iR l) (hl : l.length ≤ 70000) (hI : ∀ x ∈ l, I64 x) : ∃ xs, rd = iR xs ∧ xs.length ≤ 100000 ∧ ∀ x ∈ xs, I64 x := ⟨l, h, by omega, hI⟩
theorem q_of {rd : List (List D)} {l : List Int} {q : Int × Int} (h : rd = iR l) (hx : ∃ xs, rd = iR xs ∧ q = (amt xs.sum, amtE xs.sum)) : q = (amt l.sum, amtE l.sum) := by
  obtain ⟨xs, h1, h2⟩ := hx
  rw [h] at h1
  rw [h2, iR_inj h1]
theorem step_y {R rd rc : List (List D)} {xs : List (Int × Int)} {j : Int} {i : Nat} (hR : R = lnR xs) (hj : j = i) (hb : real.cmp .lss j (real.len R) = true) (hg : real.cmp .gtr (real.cI R j 1) 0 = true) (hd : rd = iR (debs (xs.take i))) (hc : rc = iR (crds (xs.take i))) :
    real.app rd [[.int .i64 (real.cI R j 1)]] = iR (debs (xs.take (i + 1))) ∧ rc = iR (crds (xs.take (i + 1))) := by
  have hi := ln_lt hR hj hb
  subst hR
  rw [(ln_cI hj hi).2] at hg ⊢
  simp only [real, rCmp, decide_eq_true_eq] at hg
  rw [take_snoc hi, debs_snoc, crds_snoc, if_pos (by omega), if_pos (by omega)]
  exact ⟨iR_snoc hd, hc⟩
theorem step_n {R rd rc : List (List D)} {xs : List (Int × Int)} {j : Int} {i : Nat} (hR : R = lnR xs) (hj : j = i) (hb : real.cmp .lss j (real.len R) = true) (hg : real.cmp .gtr (real.cI R j 1) 0 = false) (hd : rd = iR (debs (xs.take i))) (hc : rc = iR (crds (xs.take i))) :
    rd = iR (debs (xs.take (i + 1))) ∧ real.app rc [[.int .i64 (real.cI R j 1)]] = iR (crds (xs.take (i + 1))) := by
  have hi := ln_lt hR hj hb
  subst hR
  rw [(ln_cI hj hi).2] at hg ⊢
  simp only [real, rCmp, decide_eq_false_iff_not] at hg
  rw [take_snoc hi, debs_snoc, crds_snoc, if_neg (by omega), if_neg (by omega)]
  exact ⟨hd, iR_snoc hc⟩
theorem mea {n i : Nat} {j : Int} (hj : j = i) (hi : i < n) (hn : n ≤ 65536) : ((n : Int) - real.bin .add .i64 j 1).toNat < ((n : Int) - j).toNat := by
  rw [addLL hj (by omega)]; omega
theorem fin_tri {m : ML} {xs : List (Int × Int)} {a b c : Int} {n : Nat} {r : Hp} (h : BL m xs) (e : (a, b, c) = tri (debs xs).sum (crds xs).sum) : Fin 2 (KTri m) (.tup [.d (.int .i64 a), .d (.int .i64 b), .d (.int .i64 c)]) n ((0, .mp .i64 m) :: (1, .cells [.map 0]) :: r) := by
  refine ⟨⟨[], [], [0], [0, 1], 2⟩, _, 2, _, rfl, rfl, xs, h, ?_, rfl, rfl⟩
  rw [← e]
  rfl
theorem tri_1 {d c : Int} {q : Int × Int} (h : q = (amt d, amtE d)) (hb : real.cmp .neq q.2 0 = true) : (0, 0, 6) = tri d c := by
  subst h
  simp only [real, rCmp, bne_iff_ne] at hb
  rw [tri, if_neg (fun h => hb h.1)]
theorem tri_2 {d c : Int} {q : Int × Int} (h : q = (amt c, amtE c)) (hb : real.pickB false true (real.cmp .neq q.2 0) = true) : (0, 0, 6) = tri d c := by
  subst h
  simp only [real, rCmp, cond_false, bne_iff_ne] at hb
  rw [tri, if_neg (fun h => hb h.2.1)]
theorem tri_3 {d c : Int} {q : Int × Int} (h : q = (amt c, amtE c)) (hb : real.pickB false true (real.cmp .eql q.1 (-9223372036854775808)) = true) : (0, 0, 6) = tri d c := by
  subst h
  simp only [real, rCmp, cond_false, beq_iff_eq] at hb
  rw [tri, if_neg (fun h => h.2.2 hb)]
theorem tri_4 {d c : Int} {p q : Int × Int} (hp : p = (amt d, amtE d)) (h : q = (amt c, amtE c)) (h1 : real.cmp .neq p.2 0 = false) (h2 : real.pickB false true (real.cmp .neq q.2 0) = false) (h3 : real.pickB false true (real.cmp .eql q.1 (-9223372036854775808)) = false) : (p.1, real.neg .i64 q.1, 0) = tri d c := by
  subst h hp
  simp only [real, rCmp, cond_false, bne_eq_false_iff_eq, beq_eq_false_iff_ne] at h1 h2 h3
  rw [tri, if_pos ⟨h1, h2, h3⟩]
  have := amt_in c
  unfold Go.Proofs.Yteakfibolfapiaa.I64 at this
  simp only [real]
  rw [wrap_i64 _ (by omega) (by omega)]
  simp
def B2 : CallS := fun f args n h K => match f with
  | 46 => (match args with | [.ptr i 0] => S_BList i K n h | _ => False)
  | 49 => (match args with | [.d (.imm l)] => S_Total l K n h | _ => False)
  | _ => False
theorem B2_ok : ∀ f args n h K, B2 f args n h K → CallE Try.prog f args n h K := by
  intro f args n h K hc
  unfold B2 at hc
  split at hc
  · split at hc
    · exact L_BList hc
    · exact hc.elim
  · split at hc
    · exact L_Total hc
    · exact hc.elim
  · exact hc.elim
theorem K_Trial0 (m : ML) (hm : gB m) : CallE Try.prog 18 [.ptr 1 0] 2 [(0, .mp .i64 m), (1, .cells [.map 0])]
    (fun v n h => Nd (fun _ => Fin 2 (KTri m) v n h)) := by
  refine call_fn tysOK orders (C := B2) B2_ok ⟨[((2, 2), [2]), ((9, 1), [2, 1000035]), ((10, 1), [3, 1000040])], [], 0⟩ Try.func18 (by kernel_rfl) (by kernel_rfl) ?_
  intro oBin oCmp oWrap oNeg oCom oBnot oBeq oPickB oPickI oPickS oInb oSub2 oMinI oMaxI oSlen oSidx oScat oSsub oScmp oScok oLen oCI oCB oCS oCL oOkR oApp oApok oSub oSetc oRep oMkok oNthI oNthB oNthS oIteI oIteB oIteS oB2s oS2b oAllB oWf oDeq oMlen oMhas oMI oMB oMS oMok oMput oMdel oSgo oSru oSnx ho; cbv
  (repeat (any_goals (first
    | with_reducible refine And.intro ?_ ?_
    | exact True.intro
    | with_reducible exact rfl
    | (with_reducible refine Nd.mk ?_; try dsimp only)
    | (with_reducible refine Nd0.mk ?_; try dsimp only)
    | (with_reducible refine Pz.mk ?_; cbv)
    | (with_reducible refine RgOK.mk ?_; kernel_rfl)
    | (with_reducible refine OrOK.mk ?_; kernel_rfl)
    | (with_reducible refine Al.mk (fun x hx => ?_); cbv)
    | (with_reducible refine hK' _ ?_; clear hK' K'; cbv)
    | (with_reducible refine brA.yes (by first | assumption | exact rfl | (simp only [show oCmp = real.cmp from congrArg Ar.cmp ho, show oBin = real.bin from congrArg Ar.bin ho, show oScmp = real.scmp from congrArg Ar.scmp ho, show oPickB = real.pickB from congrArg Ar.pickB ho]; decide)) ?_; cbv)
    | (with_reducible refine brA.no (by first | assumption | exact rfl | (simp only [show oCmp = real.cmp from congrArg Ar.cmp ho, show oBin = real.bin from congrArg Ar.bin ho, show oScmp = real.scmp from congrArg Ar.scmp ho, show oPickB = real.pickB from congrArg Ar.pickB ho]; decide)) ?_; cbv)
    | (with_reducible refine bcase (fun hb => ?_) (fun hb => ?_) <;> cbv)
    | (intro K' hK'; cbv))))
  · exact hm
  obtain ⟨xs, hR, hL⟩ := hx
  have hlen : xs.length ≤ 65536 := by have h1 := hL.p.length_eq; have h2 := hm.len; simp at h1; omega
  refine ⟨fun st => ∃ (i : Nat) (j : Int) (rd rc : List (List D)), j = i ∧ i ≤ xs.length ∧ rd = iR (debs (xs.take i)) ∧ rc = iR (crds (xs.take i)) ∧
      ((rd = [] ∧ rc = [] ∧ st = ⟨mkF 57 0 [(5, .d .nilsl), (6, .d .nilsl), (14, .d (.imm x)), (15, .d (.int .i64 (oLen x))), (16, .d (.int .i64 j))], 4, [(0, .mp .i64 m), (1, .cells [.map 0])]⟩) ∨
       (rc = [] ∧ st = ⟨mkF 57 0 [(5, .sl 2), (6, .d .nilsl), (14, .d (.imm x)), (15, .d (.int .i64 (oLen x))), (16, .d (.int .i64 j))], 4, [(0, .mp .i64 m), (1, .cells [.map 0]), (2, .row 1 rd)]⟩) ∨
       (rd = [] ∧ st = ⟨mkF 57 0 [(5, .d .nilsl), (6, .sl 3), (14, .d (.imm x)), (15, .d (.int .i64 (oLen x))), (16, .d (.int .i64 j))], 4, [(0, .mp .i64 m), (1, .cells [.map 0]), (3, .row 1 rc)]⟩) ∨
       (st = ⟨mkF 57 0 [(5, .sl 2), (6, .sl 3), (14, .d (.imm x)), (15, .d (.int .i64 (oLen x))), (16, .d (.int .i64 j))], 4, [(0, .mp .i64 m), (1, .cells [.map 0]), (2, .row 1 rd), (3, .row 1 rc)]⟩)),
    fun st => ((xs.length : Int) - ctr 16 st).toNat, ⟨[], [], [5, 6, 14, 15, 16], [0, 1], 4⟩, ?_, ?_, ?_⟩
  · cbv
  · exact ⟨0, 0, [], [], rfl, Nat.zero_le _, rfl, rfl, .inl ⟨rfl, rfl, rfl⟩⟩
  rintro st1 ⟨i, j, rd, rc, hj, hi, hrd, hrc, ⟨hd0, hc0, rfl⟩ | ⟨hc0, rfl⟩ | ⟨hd0, rfl⟩ | rfl⟩
  all_goals (try subst hd0)
  all_goals (try subst hc0)
  all_goals cbv
  (repeat (any_goals (first
    | with_reducible refine And.intro ?_ ?_
    | exact True.intro
    | with_reducible exact rfl
    | (with_reducible refine Nd.mk ?_; try dsimp only)
    | (with_reducible refine Nd0.mk ?_; try dsimp only)
    | (with_reducible refine Pz.mk ?_; cbv)
    | (with_reducible refine RgOK.mk ?_; kernel_rfl)
    | (with_reducible refine OrOK.mk ?_; kernel_rfl)
    | (with_reducible refine Al.mk (fun x hx => ?_); cbv)
    | (with_reducible refine hK' _ ?_; clear hK' K'; cbv)
    | (with_reducible refine brA.yes (by first | assumption | exact rfl | (simp only [show oCmp = real.cmp from congrArg Ar.cmp ho, show oBin = real.bin from congrArg Ar.bin ho, show oScmp = real.scmp from congrArg Ar.scmp ho, show oPickB = real.pickB from congrArg Ar.pickB ho]; decide)) ?_; cbv)
    | (with_reducible refine brA.no (by first | assumption | exact rfl | (simp only [show oCmp = real.cmp from congrArg Ar.cmp ho, show oBin = real.bin from congrArg Ar.bin ho, show oScmp = real.scmp from congrArg Ar.scmp ho, show oPickB = real.pickB from congrArg Ar.pickB ho]; decide)) ?_; cbv)
    | (with_reducible refine bcase (fun hb => ?_) (fun hb => ?_) <;> cbv)
    | (intro K' hK'; cbv))))
  all_goals (((try clear hK' K'); cases ho; (try simp only [nc1] at *); (try simp only [Int.ofNat_eq_natCast] at *)))
  all_goals have hdl := tr_len debs_len hlen i
  all_goals have hcl := tr_len crds_len hlen i
  all_goals have hdI := debs_I (hL.I hm) i
  all_goals have hcI := crds_I (hL.I hm) i
  all_goals first
    | with_reducible exact inb_lt hj (by assumption)
    | with_reducible exact ln_wf hR
    | with_reducible exact ln_ok hR hj (by assumption)
    | with_reducible exact ap_tr hrd hdl
    | with_reducible exact ap_tr hrc hcl
    | with_reducible exact rw_ok hrd hdl hdI
    | with_reducible exact rw_ok hrc hcl hcI
    | (obtain ⟨h1, h2⟩ := step_y hR hj (by assumption) (by assumption) hrd hrc
       have hi' := ln_lt hR hj (by assumption)
       first
       | exact ⟨⟨[], [(5, 2)], [5, 6, 14, 15, 16], [0, 1, 5], 4⟩, rfl, ⟨i + 1, real.bin .add .i64 j 1, _, _, addLL hj (by omega), by omega, h1, h2, .inr (.inl ⟨rfl, rfl⟩)⟩, mea hj hi' hlen⟩
       | exact ⟨⟨[], [(5, 2)], [5, 6, 14, 15, 16], [0, 1, 5, 3], 4⟩, rfl, ⟨i + 1, real.bin .add .i64 j 1, _, _, addLL hj (by omega), by omega, h1, h2, .inr (.inr (.inr rfl))⟩, mea hj hi' hlen⟩)
    | (obtain ⟨h1, h2⟩ := step_n hR hj (by assumption) (by assumption) hrd hrc
       have hi' := ln_lt hR hj (by assumption)
       first
       | exact ⟨⟨[], [(5, 3)], [5, 6, 14, 15, 16], [0, 1, 5], 4⟩, rfl, ⟨i + 1, real.bin .add .i64 j 1, _, _, addLL hj (by omega), by omega, h1, h2, .inr (.inr (.inl ⟨rfl, rfl⟩))⟩, mea hj hi' hlen⟩
       | exact ⟨⟨[], [(5, 3)], [5, 6, 14, 15, 16], [0, 1, 2, 5], 4⟩, rfl, ⟨i + 1, real.bin .add .i64 j 1, _, _, addLL hj (by omega), by omega, h1, h2, .inr (.inr (.inr rfl))⟩, mea hj hi' hlen⟩)
    | (have he := ln_end hR hj hi (by assumption)
       subst he
       rw [List.take_length] at hrd hrc
       have e2 := q_of hrc hx
       first
       | (rename_i y hy _
          have e1 := q_of hrd hy
          exact fin_tri hL (tri_1 e1 (by assumption)))
       | exact fin_tri hL (tri_2 e2 (by assumption))
       | exact fin_tri hL (tri_3 e2 (by assumption))
       | (rename_i y hy _ _ _
          have e1 := q_of hrd hy
          exact fin_tri hL (tri_4 e1 e2 (by assumption) (by assumption) (by assumption))))
    | trace_state
def S_Trial (i : Nat) (K : CallK) (n : Nat) (h : Hp) : Prop := pat2 h i fun j m => Nd (fun _ => i < n ∧ j < n ∧ i ≠ j ∧ gB m) ∧
  Al (fun q : Int × Int × Int => ∃ xs, BL m xs ∧ q = tri (debs xs).sum (crds xs).sum) fun q => K (.tup [.d (.int .i64 q.1), .d (.int .i64 q.2.1), .d (.int .i64 q.2.2)]) n (out2 i j h m)
theorem L_Trial {i n : Nat} {h : Hp} {K : CallK} (hK : S_Trial i K n h) : CallE Try.prog 18 [.ptr i 0] n h K := by
  obtain ⟨j, m, hg, hg2, ⟨⟨hi, hj, hij, hm⟩⟩, hk⟩ := pat2_elim hK
  refine call_recv2 (CallE.fin (K_Trial0 m hm)) rfl hi hj hij hg hg2 ?_
  rintro v n1 h1 ⟨xs, hL, rfl, rfl, rfl⟩ -
  exact hk.h _ ⟨xs, hL, rfl⟩
end Go.Proofs.Yteakfibolfapiaa.Ab
end
section
namespace Go.Proofs.Yteakfibolfapiaa.Ab
open Go Go.RowKit Go.Sort
set_option linter.unusedVariables false
set_option linter.unusedSimpArgs false
set_option maxRecDepth 100000
set_option maxHeartbeats 8000000
/-! a copy -/
def S_BMClone (j : Nat) (K : CallK) (n : Nat) (h : Hp) : Prop := match hget h j with
  | some (.mp .i64 m) => K (.map n) (n + 1) (h ++ [(n, .mp .i64 m)])
  | _ => False
theorem L_BMClone {j n : Nat} {h : Hp} {K : CallK} (hK : S_BMClone j K n h) : CallE Try.prog 47 [.map j] n h K := by
  unfold S_BMClone at hK
  split at hK
  case h_2 => exact hK.elim
  rename_i m hg2
  refine .enter _ Try.func47 (by kernel_rfl) (by kernel_rfl) (fun ρ w vs r a => ?_)
  obtain ⟨v0, rest, rfl, ⟨hv, r0, rfl⟩, hrest⟩ := a
  obtain rfl : rest = [] := hrest
  obtain ⟨bj, h4, h5⟩ := obj_mp r hg2
  obtain rfl : bj = r0 := by
    rw [h4] at hv
    simpa using hv
  have h5' := h5
  obtain ⟨hnd, E, c, hb, h6, h7, h8⟩ := h5
  refine (AnyW.maps_Clone Try.clEnt bj E c w hb).mono ?_
  rintro e w' ⟨rfl, rfl⟩
  have hgr : Grows w (w.alloc (.map E c)) := fun b o hbo => Tr.blk_old hbo
  have hnew : ∀ b, blkIn (.map (some w.heap.size)) b → w.heap.size ≤ b := by
    intro b hb
    cases hb
    exact Nat.le_refl _
  have hat : (w.alloc (.map E c)).heap[w.heap.size]? = some (.map E c) := Tr.blk_new _ _
  refine ⟨_, rfl, .map n, upd ρ n (.map (some w.heap.size)), n + 1, h ++ [(n, .mp .i64 m)], hK, r.new (o := .mp .i64 m) hgr hnew (fun hkp => ⟨_, upd_same _ _ _, hnd, E, c, hat, h6, h7, h8⟩), by omega, ⟨upd_same _ _ _, _, rfl⟩, goes_new r hgr hnew rfl rfl rfl (by simp)⟩
def B3 : CallS := fun f args n h K => match f with
  | 47 => (match args with | [.map j] => S_BMClone j K n h | _ => False)
  | _ => False
theorem B3_ok : ∀ f args n h K, B3 f args n h K → CallE Try.prog f args n h K := by
  intro f args n h K hc
  unfold B3 at hc
  split at hc
  · split at hc
    · exact L_BMClone hc
    · exact hc.elim
  · exact hc.elim
theorem K_BCopy0 (m : ML) : CallE Try.prog 14 [.ptr 1 0] 2 [(0, .mp .i64 m), (1, .cells [.map 0])]
    (fun v n h => Nd (fun _ => Fin 2 (fun v n h => v = .ptr 3 0 ∧ n = 4 ∧ h = [(0, .mp .i64 m), (1, .cells [.map 0]), (2, .mp .i64 m), (3, .cells [.map 2])]) v n h)) := by
  refine call_fn tysOK orders (C := B3) B3_ok H0 Try.func14 (by kernel_rfl) (by kernel_rfl) ?_
  intro oBin oCmp oWrap oNeg oCom oBnot oBeq oPickB oPickI oPickS oInb oSub2 oMinI oMaxI oSlen oSidx oScat oSsub oScmp oScok oLen oCI oCB oCS oCL oOkR oApp oApok oSub oSetc oRep oMkok oNthI oNthB oNthS oIteI oIteB oIteS oB2s oS2b oAllB oWf oDeq oMlen oMhas oMI oMB oMS oMok oMput oMdel oSgo oSru oSnx ho; cbv
  (repeat (any_goals (first
    | with_reducible refine And.intro ?_ ?_
    | exact True.intro
    | with_reducible exact rfl
    | (with_reducible refine Nd.mk ?_; try dsimp only)
    | (with_reducible refine Nd0.mk ?_; try dsimp only)
    | (with_reducible refine Pz.mk ?_; cbv)
    | (with_reducible refine RgOK.mk ?_; kernel_rfl)
    | (with_reducible refine OrOK.mk ?_; kernel_rfl)
    | (with_reducible refine Al.mk (fun x hx => ?_); cbv)
    | (with_reducible refine hK' _ ?_; clear hK' K'; cbv)
    | (with_reducible refine brA.yes (by first | assumption | exact rfl | (simp only [show oCmp = real.cmp from congrArg Ar.cmp ho, show oBin = real.bin from congrArg Ar.bin ho, show oScmp = real.scmp from congrArg Ar.scmp ho, show oPickB = real.pickB from congrArg Ar.pickB ho, show oBnot = real.bnot from congrArg Ar.bnot ho]; decide)) ?_; cbv)
    | (with_reducible refine brA.no (by first | assumption | exact rfl | (simp only [show oCmp = real.cmp from congrArg Ar.cmp ho, show oBin = real.bin from congrArg Ar.bin ho, show oScmp = real.scmp from congrArg Ar.scmp ho, show oPickB = real.pickB from congrArg Ar.pickB ho, show oBnot = real.bnot from congrArg Ar.bnot ho]; decide)) ?_; cbv)
    | (with_reducible refine bcase (fun hb => ?_) (fun hb => ?_) <;> cbv)
    | (intro K' hK'; cbv))))
  all_goals ((try clear hK' K'); cases ho; (try simp only [nc1] at *); (try simp only [Int.ofNat_eq_natCast] at *))
  all_goals first
    | exact ⟨⟨[], [], [0], [0, 1, 2, 3], 4⟩, _, 4, _, rfl, rfl, rfl, rfl, rfl⟩
    | trace_state
def S_BCopy (i : Nat) (K : CallK) (n : Nat) (h : Hp) : Prop := pat2 h i fun j m => Nd (fun _ => i < n ∧ j < n ∧ i ≠ j) ∧ K (.ptr (n + 1) 0) (n + 2) (out2 i j h m ++ [(n, .mp .i64 m), (n + 1, .cells [.map n])])
theorem L_BCopy {i n : Nat} {h : Hp} {K : CallK} (hK : S_BCopy i K n h) : CallE Try.prog 14 [.ptr i 0] n h K := by
  obtain ⟨j, m, hg, hg2, ⟨⟨hi, hj, hij⟩⟩, hk⟩ := pat2_elim hK
  refine call_recv2 (CallE.fin (K_BCopy0 m)) rfl hi hj hij hg hg2 ?_
  rintro v n1 h1 ⟨rfl, rfl, rfl⟩ -
  have e0 : lift (two i j) 2 n 0 = j := by simp [lift]; rfl
  have e1 : lift (two i j) 2 n 1 = i := by simp [lift]; rfl
  have e2 : lift (two i j) 2 n 2 = n := by simp [lift]; rfl
  have e3 : lift (two i j) 2 n 3 = n + 1 := by simp [lift]; rfl
  simp only [renH, renV, renO, renVs, e0, e1, e2, e3]
  simpa [out2] using hk
/-! lists by balances -/
theorem BL.mem {m : ML} (hm : gB m) {xs : List (Int × Int)} (h : BL m xs) (k z : Int) : (k, z) ∈ xs ↔ z ≠ 0 ∧ bal m k = z := by
  constructor
  · intro hx
    have h1 : (k, Value.int .i64 z) ∈ m := h.p.mem_iff.1 (List.mem_map.2 ⟨(k, z), hx, rfl⟩)
    obtain ⟨z', e, h2, -⟩ := hm.h _ h1
    have e : Value.int .i64 z = .int .i64 z' := e
    injection e with _ e
    exact ⟨by rw [e]; exact h2, bal_in hm h1⟩
  · rintro ⟨hz, hb⟩
    rw [bal_look hm] at hb
    cases hl : Mk.look m k with
    | none => rw [hl] at hb; exact absurd hb.symm hz
    | some v =>
      have h1 := look_in hl
      obtain ⟨z', e, -⟩ := hm.h _ h1
      have e : v = .int .i64 z' := e
      subst e
      rw [hl] at hb
      have hb : z' = z := hb
      subst hb
      obtain ⟨p, hp, e⟩ := List.mem_map.1 (h.p.mem_iff.2 h1)
      have e1 : (Bl.prE p).1 = k := by rw [e]
      have e2 : (Bl.prE p).2 = .int .i64 z' := by rw [e]
      have e2 : Value.int .i64 p.2 = .int .i64 z' := e2
      injection e2 with _ e2
      have e1 : p.1 = k := e1
      rw [← e1, ← e2]
      exact hp
theorem sorted_ext : ∀ (a b : List (Int × Int)), (a.Pairwise fun x y => x.1 < y.1) → (b.Pairwise fun x y => x.1 < y.1) → (∀ p, p ∈ a ↔ p ∈ b) → a = b
  | [], [], _, _, _ => rfl
  | [], y :: b, _, _, h => by have := (h y).2 (by simp); cases this
  | x :: a, [], _, _, h => by have := (h x).1 (by simp); cases this
  | x :: a, y :: b, ha, hb, h => by
    rw [List.pairwise_cons] at ha hb
    have hxy : x = y := by
      rcases List.mem_cons.1 ((h x).1 (by simp)) with e | h1
      · exact e
      · rcases List.mem_cons.1 ((h y).2 (by simp)) with e | h2
        · exact e.symm
        · have h3 := hb.1 x h1
          have h4 := ha.1 y h2
          omega
    subst hxy
    rw [sorted_ext a b ha.2 hb.2 fun p => ?_]
    have hp := h p
    constructor
    · intro hpa
      rcases List.mem_cons.1 (hp.1 (by simp [hpa])) with e | h1
      · subst e
        have := ha.1 p hpa
        omega
      · exact h1
    · intro hpb
      rcases List.mem_cons.1 (hp.2 (by simp [hpb])) with e | h1
      · subst e
        have := hb.1 p hpb
        omega
      · exact h1
theorem BL.uniq {m m' : ML} (hm : gB m) (hm' : gB m') {xs ys : List (Int × Int)} (h : BL m xs) (h' : BL m' ys) (hb : ∀ k, bal m k = bal m' k) : xs = ys :=
  sorted_ext xs ys h.s h'.s fun p => by
    obtain ⟨k, z⟩ := p
    rw [h.mem hm, h'.mem hm', hb]
theorem AppR.g {m m' : ML} {qs : List (Int × Int)} {e : Int} (hm : gB m) (h : AppR m qs e m') : gB m' := by
  rcases h with ⟨-, rfl, -⟩ | ⟨-, rfl, -⟩ | ⟨-, -, -, h⟩
  · exact hm
  · exact hm
  · exact h.g
/-! what wakes says -/
def qW : List (Int × Int) := [(1, 5), (2, -5)]
def mW : ML := [(1, .int .i64 5), (2, .int .i64 (-5))]
theorem gB_W : gB mW := by
  refine ⟨fun p hp => ?_, by decide, fun p hp => ?_⟩
  · simp only [mW, List.mem_cons, List.not_mem_nil, or_false] at hp
    rcases hp with rfl | rfl
    · exact ⟨5, rfl, by decide, by unfold I64; omega⟩
    · exact ⟨-5, rfl, by decide, by unfold I64; omega⟩
  · simp only [mW, List.mem_cons, List.not_mem_nil, or_false] at hp
    rcases hp with rfl | rfl <;> exact ⟨by decide, by decide⟩
theorem BL_W : BL mW qW := ⟨List.Perm.refl _, by simp [qW]⟩
theorem sel_W (k : Int) : (sel qW k).sum = if k = 1 then 5 else if k = 2 then -5 else 0 := by
  unfold sel qW
  by_cases h1 : k = 1
  · subst h1; rfl
  · by_cases h2 : k = 2
    · subst h2; rfl
    · have e1 : ((1 : Int) == k) = false := by simpa using fun e => h1 e.symm
      have e2 : ((2 : Int) == k) = false := by simpa using fun e => h2 e.symm
      simp [List.filter_cons, e1, e2, h1, h2]
theorem bal_W (k : Int) : bal mW k = if k = 1 then 5 else if k = 2 then -5 else 0 := by
  rw [bal_look gB_W]
  unfold Mk.look mW
  by_cases h1 : k = 1
  · subst h1; rfl
  · by_cases h2 : k = 2
    · subst h2; rfl
    · have e1 : ((1 : Int) == k) = false := by simpa using fun e => h1 e.symm
      have e2 : ((2 : Int) == k) = false := by simpa using fun e => h2 e.symm
      simp [List.find?_cons, e1, e2, h1, h2, valI]
theorem bal_nil (k : Int) : bal [] k = 0 := by rw [bal_look gB_nil]; rfl
theorem app_W {q : Int × ML} {r : List (List D)} (hr : r = lnR qW) (h : ∃ qs, r = lnR qs ∧ AppR [] qs q.1 q.2) : q.1 = 0 ∧ gB q.2 ∧ ∀ k, bal q.2 k = bal mW k := by
  obtain ⟨qs, h1, h2⟩ := h
  obtain rfl := lnR_inj (hr.symm.trans h1)
  have ht : ∀ k, tot [] qW k = bal mW k := fun k => by
    unfold tot
    rw [sel_W, bal_nil, bal_W]
    omega
  rcases h2 with ⟨-, -, h3⟩ | ⟨-, -, -, p, -, h3⟩ | ⟨h3, -, -, h4⟩
  · refine absurd ?_ h3
    intro p hp
    simp only [qW, List.mem_cons, List.not_mem_nil, or_false] at hp
    rcases hp with rfl | rfl <;> exact ⟨by decide, by decide⟩
  · rw [ht] at h3
    exact absurd (bal_I gB_W _) h3
  · exact ⟨h3, h4.g, fun k => by rw [h4.b, ht]⟩
theorem tri_W {q : Int × ML} {x : Int × Int × Int} (h : gB q.2 ∧ ∀ k, bal q.2 k = bal mW k) (hx : ∃ xs, BL q.2 xs ∧ x = tri (debs xs).sum (crds xs).sum) : x = (5, 5, 0) := by
  obtain ⟨xs, h1, rfl⟩ := hx
  rw [h1.uniq h.1 gB_W BL_W h.2]
  rfl
theorem list_W {q : Int × ML} {x : List (List D)} (h : gB q.2 ∧ ∀ k, bal q.2 k = bal mW k) (hx : ∃ xs, x = lnR xs ∧ BL q.2 xs) : x = lnR qW := by
  obtain ⟨xs, rfl, h1⟩ := hx
  rw [h1.uniq h.1 gB_W BL_W h.2]
theorem args_W : ∃ qs, [[D.int IntKind.i64 1, D.int IntKind.i64 5], [D.int IntKind.i64 2, D.int IntKind.i64 (-5)]] = lnR qs ∧ qs.length ≤ 1000 ∧ ∀ (q : Int × Int), q ∈ qs → I64 q.snd := by
  refine ⟨qW, rfl, by decide, fun q hq => ?_⟩
  simp only [qW, List.mem_cons, List.not_mem_nil, or_false] at hq
  rcases hq with rfl | rfl <;> (unfold I64; omega)
def B4 : CallS := fun f args n h K => match f with
  | 12 => (match args with | [] => S_BNew K n h | _ => False)
  | 16 => (match args with | [.ptr i 0, .d (.imm r)] => S_Apply i r K n h | _ => False)
  | 17 => (match args with | [.ptr i 0, .d (.int .i64 k)] => S_Bal i k K n h | _ => False)
  | 18 => (match args with | [.ptr i 0] => S_Trial i K n h | _ => False)
  | 46 => (match args with | [.ptr i 0] => S_BList i K n h | _ => False)
  | _ => False
theorem B4_ok : ∀ f args n h K, B4 f args n h K → CallE Try.prog f args n h K := by
  intro f args n h K hc
  unfold B4 at hc
  split at hc
  · split at hc
    · exact L_BNew hc
    · exact hc.elim
  · split at hc
    · exact L_Apply hc
    · exact hc.elim
  · split at hc
    · exact L_Bal hc
    · exact hc.elim
  · split at hc
    · exact L_Trial hc
    · exact hc.elim
  · split at hc
    · exact L_BList hc
    · exact hc.elim
  · exact hc.elim
theorem K_Bwakes0 : CallE Try.prog 13 [] 0 [] (fun v n h => Nd (fun _ => Fin 0 (Gets fun v => v = .d (.bool true)) v n h)) := by
  refine call_fn tysOK orders (C := B4) B4_ok H0 Try.func13 (by kernel_rfl) (by kernel_rfl) ?_
  intro oBin oCmp oWrap oNeg oCom oBnot oBeq oPickB oPickI oPickS oInb oSub2 oMinI oMaxI oSlen oSidx oScat oSsub oScmp oScok oLen oCI oCB oCS oCL oOkR oApp oApok oSub oSetc oRep oMkok oNthI oNthB oNthS oIteI oIteB oIteS oB2s oS2b oAllB oWf oDeq oMlen oMhas oMI oMB oMS oMok oMput oMdel oSgo oSru oSnx ho; cbv
  (repeat (any_goals (first
    | with_reducible refine And.intro ?_ ?_
    | exact True.intro
    | with_reducible exact rfl
    | (with_reducible refine Nd.mk ?_; try dsimp only)
    | (with_reducible refine Nd0.mk ?_; try dsimp only)
    | (with_reducible refine Pz.mk ?_; cbv)
    | (with_reducible refine RgOK.mk ?_; kernel_rfl)
    | (with_reducible refine OrOK.mk ?_; kernel_rfl)
    | (with_reducible refine Al.mk (fun x hx => ?_); cbv)
    | (with_reducible refine hK' _ ?_; clear hK' K'; cbv)
    | (with_reducible refine brA.yes (by first | assumption | exact rfl | (simp only [show oCmp = real.cmp from congrArg Ar.cmp ho, show oBin = real.bin from congrArg Ar.bin ho, show oScmp = real.scmp from congrArg Ar.scmp ho, show oPickB = real.pickB from congrArg Ar.pickB ho]; decide)) ?_; cbv)
    | (with_reducible refine brA.no (by first | assumption | exact rfl | (simp only [show oCmp = real.cmp from congrArg Ar.cmp ho, show oBin = real.bin from congrArg Ar.bin ho, show oScmp = real.scmp from congrArg Ar.scmp ho, show oPickB = real.pickB from congrArg Ar.pickB ho]; decide)) ?_; cbv)
    | (with_reducible refine bcase (fun hb => ?_) (fun hb => ?_) <;> cbv)
    | (intro K' hK'; cbv))))
  all_goals ((try clear hK' K'); cases ho; (try simp only [nc1] at *); (try simp only [Int.ofNat_eq_natCast] at *))
  all_goals first
    | omega
    | exact gB_nil
    | exact args_W
    | exact (app_W rfl (by assumption)).2.1
    | (rename_i q hq
       have h1 := app_W rfl hq
       rw [h1.1] at hb
       exact absurd hb (by decide))
    | (rename_i q hq _
       have h1 := tri_W (app_W rfl hq).2 hx
       rw [h1] at hb
       exact absurd hb (by decide))
    | (rename_i q hq _ _
       have h1 := tri_W (app_W rfl hq).2 hx
       rw [h1] at hb
       exact absurd hb (by decide))
    | (rename_i q hq _ _ _
       have h1 := tri_W (app_W rfl hq).2 hx
       rw [h1] at hb
       exact absurd hb (by decide))
    | (rename_i q hq t ht _ _ _ _
       rw [(app_W rfl hq).2.2, bal_W] at hx
       rw [hx] at hb
       exact absurd hb (by decide))
    | (rename_i q hq t ht z hz _ _ _ _
       have h1 := list_W (app_W rfl hq).2 hx
       rw [h1]
       exact fin_b rfl)
    | trace_state
def S_Bwakes (K : CallK) (n : Nat) (h : Hp) : Prop := K (.d (.bool true)) n h
theorem L_Bwakes {n : Nat} {h : Hp} {K : CallK} (hK : S_Bwakes K n h) : CallE Try.prog 13 [] n h K := call_data (CallE.fin K_Bwakes0) rfl (by rintro v rfl; exact hK)
end Go.Proofs.Yteakfibolfapiaa.Ab
end
section
namespace Go.Proofs.Yteakfibolfapiaa.Ab
open Go Go.RowKit Go.Sort
set_option linter.unusedVariables false
set_option linter.unusedSimpArgs false
set_option maxRecDepth 100000
set_option maxHeartbeats 8000000
def negs (qs : List (Int × Int)) : List (Int × Int) := qs.map fun q => (q.1, -q.2)
/-- Amounts that have opposite ones. -/
def opp (qs : List (Int × Int)) : Prop := ∀ q ∈ qs, -9223372036854775807 ≤ q.2 ∧ q.2 ≤ 9223372036854775807
theorem lnR_snoc (qs : List (Int × Int)) (q : Int × Int) : lnR (qs ++ [q]) = lnR qs ++ [[.int .i64 q.1, .int .i64 q.2]] := by simp [lnR]
theorem lnR_len (qs : List (Int × Int)) : (lnR qs).length = qs.length := by simp [lnR]
theorem ap_ln {rd : List (List D)} {l : List (Int × Int)} {y z : Int} (h : rd = lnR l) (hl : l.length ≤ 70000) : real.apok rd [[.int .i64 y, .int .i64 z]] 2 16 = true := by
  subst h
  simp [real, flatD, maxLen, lnR_len]
  omega
theorem neg_step {r rd : List (List D)} {qs : List (Int × Int)} {j : Int} {i : Nat} (hr : r = lnR qs) (hj : j = i) (hb : real.cmp .lss j (real.len r) = true) (ho : opp qs) (hd : rd = lnR (negs (qs.take i))) :
    real.app rd [[.int .i64 (real.cI r j 0), .int .i64 (real.neg .i64 (real.cI r j 1))]] = lnR (negs (qs.take (i + 1))) := by
  have hi := ln_lt hr hj hb
  subst hr
  rw [(ln_cI hj hi).1, (ln_cI hj hi).2]
  have := ho _ (List.getElem_mem hi)
  have e : real.neg .i64 qs[i].2 = -qs[i].2 := by
    simp only [real]
    rw [wrap_i64 _ (by omega) (by omega)]
    omega
  rw [e, take_snoc hi]
  unfold negs at hd ⊢
  rw [List.map_append, List.map_cons, List.map_nil, lnR_snoc, ← hd]
  rfl
theorem no_min {r : List (List D)} {qs : List (Int × Int)} {j : Int} {i : Nat} (hr : r = lnR qs) (hj : j = i) (hb : real.cmp .lss j (real.len r) = true) (ho : opp qs) (h : real.cmp .eql (real.cI r j 1) (-9223372036854775808) = true) : False := by
  have hi := ln_lt hr hj hb
  subst hr
  rw [(ln_cI hj hi).2] at h
  have := ho _ (List.getElem_mem hi)
  simp only [real, rCmp, beq_iff_eq] at h
  omega
def KCon (qs : List (Int × Int)) : CallK := fun v n h => ∃ rows, rows = lnR (negs qs) ∧ v = .tup [.sl 0, .d (.int .i64 0)] ∧ n = 1 ∧ h = [(0, .row 2 rows)]
theorem K_Contra0 (r : List (List D)) (qs : List (Int × Int)) (hr : r = lnR qs) (hl : qs.length ≤ 1000) (h0 : qs ≠ []) (hop : opp qs) : CallE Try.prog 15 [.d (.imm r)] 0 []
    (fun v n h => Nd (fun _ => Fin 0 (KCon qs) v n h)) := by
  refine call_fn tysOK orders (C := C0) C0_ok H0 Try.func15 (by kernel_rfl) (by kernel_rfl) ?_
  intro oBin oCmp oWrap oNeg oCom oBnot oBeq oPickB oPickI oPickS oInb oSub2 oMinI oMaxI oSlen oSidx oScat oSsub oScmp oScok oLen oCI oCB oCS oCL oOkR oApp oApok oSub oSetc oRep oMkok oNthI oNthB oNthS oIteI oIteB oIteS oB2s oS2b oAllB oWf oDeq oMlen oMhas oMI oMB oMS oMok oMput oMdel oSgo oSru oSnx ho; cbv
  refine ⟨fun st => ∃ (i : Nat) (j : Int) (rd : List (List D)), j = i ∧ i ≤ qs.length ∧ rd = lnR (negs (qs.take i)) ∧ ((i = 0 ∧ rd = [] ∧ st = ⟨mkF 27 0 [(4, .d .nilsl), (7, .d (.imm r)), (8, .d (.int .i64 (oLen r))), (9, .d (.int .i64 j))], 1, []⟩) ∨
    (st = ⟨mkF 27 0 [(4, .sl 0), (7, .d (.imm r)), (8, .d (.int .i64 (oLen r))), (9, .d (.int .i64 j))], 1, [(0, .row 2 rd)]⟩)), fun st => ((qs.length : Int) - ctr 9 st).toNat, ⟨[], [], [4, 7, 8, 9], [], 1⟩, ?_, ?_, ?_⟩
  · cbv
  · exact ⟨0, 0, [], rfl, Nat.zero_le _, rfl, .inl ⟨rfl, rfl, rfl⟩⟩
  rintro st1 ⟨i, j, rd, hj, hi, hrd, ⟨hi0, hd0, rfl⟩ | rfl⟩
  all_goals (try subst hd0)
  all_goals cbv
  (repeat (any_goals (first
    | with_reducible refine And.intro ?_ ?_
    | exact True.intro
    | with_reducible exact rfl
    | (with_reducible refine Nd.mk ?_; try dsimp only)
    | (with_reducible refine Nd0.mk ?_; try dsimp only)
    | (with_reducible refine Pz.mk ?_; cbv)
    | (with_reducible refine RgOK.mk ?_; kernel_rfl)
    | (with_reducible refine OrOK.mk ?_; kernel_rfl)
    | (with_reducible refine Al.mk (fun x hx => ?_); cbv)
    | (with_reducible refine hK' _ ?_; clear hK' K'; cbv)
    | (with_reducible refine brA.yes (by first | assumption | exact rfl | (simp only [show oCmp = real.cmp from congrArg Ar.cmp ho, show oBin = real.bin from congrArg Ar.bin ho, show oScmp = real.scmp from congrArg Ar.scmp ho, show oPickB = real.pickB from congrArg Ar.pickB ho]; decide)) ?_; cbv)
    | (with_reducible refine brA.no (by first | assumption | exact rfl | (simp only [show oCmp = real.cmp from congrArg Ar.cmp ho, show oBin = real.bin from congrArg Ar.bin ho, show oScmp = real.scmp from congrArg Ar.scmp ho, show oPickB = real.pickB from congrArg Ar.pickB ho]; decide)) ?_; cbv)
    | (with_reducible refine bcase (fun hb => ?_) (fun hb => ?_) <;> cbv)
    | (intro K' hK'; cbv))))
  all_goals ((try clear hK' K'); cases ho; (try simp only [nc1] at *); (try simp only [Int.ofNat_eq_natCast] at *))
  all_goals first
    | with_reducible exact inb_lt hj (by assumption)
    | with_reducible exact ln_wf hr
    | with_reducible exact ln_ok hr hj (by assumption)
    | exact ap_ln hrd (by simp [negs]; omega)
    | exact (no_min hr hj (by assumption) hop (by assumption)).elim
    | (have hst := neg_step hr hj (by assumption) hop hrd
       have hi' := ln_lt hr hj (by assumption)
       exact ⟨⟨[], [(2, 0)], [4, 7, 8, 9], [2], 1⟩, rfl, ⟨i + 1, real.bin .add .i64 j 1, _, addL hj (by omega), by omega, hst, .inr rfl⟩, mea hj hi' (by omega)⟩)
    | (have he := ln_end hr hj hi (by assumption)
       first
       | exact absurd (List.length_eq_zero_iff.1 (he.symm.trans hi0)) h0
       | (rw [he, List.take_length] at hrd
          exact ⟨⟨[], [], [0], [0], 1⟩, _, 1, _, rfl, rfl, _, hrd, rfl, rfl, rfl⟩))
    | trace_state
def S_Contra (r : List (List D)) (K : CallK) (n : Nat) (h : Hp) : Prop := Nd (fun _ => ∃ qs, r = lnR qs ∧ qs.length ≤ 1000 ∧ qs ≠ [] ∧ opp qs) ∧
  Al (fun rows => ∃ qs, r = lnR qs ∧ rows = lnR (negs qs)) fun rows => K (.tup [.sl n, .d (.int .i64 0)]) (n + 1) (h ++ [(n, .row 2 rows)])
theorem L_Contra {r : List (List D)} {n : Nat} {h : Hp} {K : CallK} (hK : S_Contra r K n h) : CallE Try.prog 15 [.d (.imm r)] n h K := by
  obtain ⟨⟨qs, hr, hl, h0, hop⟩, hk⟩ := hK
  refine call_frame (g := fun i => i) (CallE.fin (K_Contra0 r qs hr hl h0 hop)) rfl rfl (fun i j hi => absurd hi (Nat.not_lt_zero _)) (fun i hi => absurd hi (Nat.not_lt_zero _)) (fun i o hm => by cases hm) (by intro j hj; cases hj) ?_
  rintro v n1 h1 - ⟨rows, hrw, rfl, rfl, rfl⟩
  rw [outs_zero]
  have e : n + (1 - 0) = n + 1 := rfl
  have e0 : lift (fun i => i) 0 n 0 = n := by simp [lift]; rfl
  simp only [renH, renV, renO, renVs, e0, e]
  exact hk.h _ ⟨qs, hr, hrw⟩
end Go.Proofs.Yteakfibolfapiaa.Ab
end
section
namespace Go.Proofs.Yteakfibolfapiaa.Ab
open Go Go.RowKit Go.Sort
set_option linter.unusedVariables false
set_option linter.unusedSimpArgs false
/-- A list tells balances. -/
structure LB (xs : List (Int × Int)) (f : Int → Int) : Prop where
  s : xs.Pairwise fun x y => x.1 < y.1
  m : ∀ k z, (k, z) ∈ xs ↔ z ≠ 0 ∧ f k = z
theorem LB.of {m : ML} (hm : gB m) {xs : List (Int × Int)} (h : BL m xs) : LB xs (bal m) := ⟨h.s, h.mem hm⟩
theorem LB.uniq {xs ys : List (Int × Int)} {f g : Int → Int} (h : LB xs f) (h' : LB ys g) (e : ∀ k, f k = g k) : xs = ys :=
  sorted_ext xs ys h.s h'.s fun p => by
    obtain ⟨k, z⟩ := p
    rw [h.m, h'.m, e]
theorem LB.congr {xs : List (Int × Int)} {f g : Int → Int} (h : LB xs f) (e : ∀ k, f k = g k) : LB xs g := ⟨h.s, fun k z => by rw [h.m, e]⟩
theorem LB.nil : LB [] fun _ => 0 := ⟨List.Pairwise.nil, fun k z => ⟨(fun h => by cases h), (fun ⟨h1, h2⟩ => absurd h2.symm h1)⟩⟩
/-- The first amount of an account. -/
def lbal : List (Int × Int) → Int → Int
  | [], _ => 0
  | x :: xs, k => if x.1 = k then x.2 else lbal xs k
theorem LB.bal {xs : List (Int × Int)} {f : Int → Int} (h : LB xs f) (k : Int) : lbal xs k = f k := by
  have key : ∀ (l : List (Int × Int)), (lbal l k = 0 ∧ ∀ p ∈ l, p.1 ≠ k) ∨ (k, lbal l k) ∈ l := by
    intro l
    induction l with
    | nil => exact .inl ⟨rfl, fun p hp => by cases hp⟩
    | cons x l ih =>
      unfold lbal
      by_cases e : x.1 = k
      · rw [if_pos e]
        right
        rw [← e]
        simp
      · rw [if_neg e]
        rcases ih with ⟨h1, h2⟩ | h1
        · refine .inl ⟨h1, fun p hp => ?_⟩
          rcases List.mem_cons.1 hp with rfl | hp
          · exact e
          · exact h2 p hp
        · exact .inr (by simp [h1])
  rcases key xs with ⟨h1, h2⟩ | h1
  · rw [h1]
    refine Decidable.byContradiction fun h3 => ?_
    exact h2 (k, f k) ((h.m k (f k)).2 ⟨fun e => h3 e.symm, rfl⟩) rfl
  · exact ((h.m _ _).1 h1).2.symm
/-! a balance is another one -/
def stp (a z : Int) (s : Bool × List (Int × Int)) (x : Int × Int) : Bool × List (Int × Int) :=
  let s1 : Bool × List (Int × Int) := if !s.1 && decide (a ≤ x.1) then (true, s.2 ++ [(a, z)]) else s
  if x.1 = a then s1 else (s1.1, s1.2 ++ [x])
def lset (xs : List (Int × Int)) (a z : Int) : List (Int × Int) :=
  let s := xs.foldl (stp a z) (decide (z = 0), [])
  if s.1 then s.2 else s.2 ++ [(a, z)]
def insL : List (Int × Int) → Int → Int → List (Int × Int)
  | [], a, z => [(a, z)]
  | x :: r, a, z => if a ≤ x.1 then (a, z) :: (x :: r).filter (fun p => decide (p.1 ≠ a)) else x :: insL r a z
theorem fold_t (a z : Int) : ∀ (xs out : List (Int × Int)), xs.foldl (stp a z) (true, out) = (true, out ++ xs.filter fun p => decide (p.1 ≠ a))
  | [], out => by simp
  | x :: xs, out => by
    rw [List.foldl_cons]
    by_cases e : x.1 = a
    · have : stp a z (true, out) x = (true, out) := by simp [stp, e]
      rw [this, fold_t a z xs out, List.filter_cons]
      simp [e]
    · have : stp a z (true, out) x = (true, out ++ [x]) := by simp [stp, e]
      rw [this, fold_t a z xs _, List.filter_cons]
      simp [e]
theorem fold_f (a z : Int) : ∀ (xs out : List (Int × Int)), (if (xs.foldl (stp a z) (false, out)).1 then (xs.foldl (stp a z) (false, out)).2 else (xs.foldl (stp a z) (false, out)).2 ++ [(a, z)]) = out ++ insL xs a z
  | [], out => by simp [insL]
  | x :: xs, out => by
    rw [List.foldl_cons]
    by_cases h : a ≤ x.1
    · by_cases e : x.1 = a
      · have : stp a z (false, out) x = (true, out ++ [(a, z)]) := by simp [stp, e]
        rw [this, fold_t]
        simp [insL, h, List.filter_cons, e]
      · have : stp a z (false, out) x = (true, out ++ [(a, z)] ++ [x]) := by simp [stp, e, h]
        rw [this, fold_t]
        simp [insL, h, List.filter_cons, e]
    · have e : x.1 ≠ a := by omega
      have : stp a z (false, out) x = (false, out ++ [x]) := by simp [stp, e, h]
      rw [this, fold_f a z xs _]
      simp [insL, h]
theorem lset_0 (xs : List (Int × Int)) (a : Int) : lset xs a 0 = xs.filter fun p => decide (p.1 ≠ a) := by
  simp only [lset, decide_true, fold_t]
  simp
theorem lset_n (xs : List (Int × Int)) (a z : Int) (h : z ≠ 0) : lset xs a z = insL xs a z := by
  have := fold_f a z xs []
  simp only [lset, decide_eq_false h]
  simpa using this
theorem mem_insL : ∀ (xs : List (Int × Int)) (a z : Int) (p : Int × Int), p ∈ insL xs a z ↔ p = (a, z) ∨ (p.1 ≠ a ∧ p ∈ xs)
  | [], a, z, p => by simp [insL]
  | x :: r, a, z, p => by
    unfold insL
    split
    · rw [List.mem_cons, List.mem_filter]
      simp [and_comm]
    · rename_i h
      have hx : x.1 ≠ a := by omega
      rw [List.mem_cons, mem_insL r a z p, List.mem_cons]
      constructor
      · rintro (rfl | h1 | h1)
        · exact .inr ⟨hx, .inl rfl⟩
        · exact .inl h1
        · exact .inr ⟨h1.1, .inr h1.2⟩
      · rintro (h1 | ⟨h1, h2 | h2⟩)
        · exact .inr (.inl h1)
        · exact .inl h2
        · exact .inr (.inr ⟨h1, h2⟩)
theorem insL_sorted : ∀ (xs : List (Int × Int)) (a z : Int), (xs.Pairwise fun x y => x.1 < y.1) → (insL xs a z).Pairwise fun x y => x.1 < y.1
  | [], a, z, _ => by simp [insL]
  | x :: r, a, z, h => by
    unfold insL
    have h' := List.pairwise_cons.1 h
    split
    · rename_i h1
      rw [List.pairwise_cons]
      refine ⟨fun p hp => ?_, h.sublist List.filter_sublist⟩
      obtain ⟨h2, h3⟩ := List.mem_filter.1 hp
      have h3 : p.1 ≠ a := by simpa using h3
      rcases List.mem_cons.1 h2 with rfl | h2
      · dsimp only; omega
      · have := h'.1 p h2
        dsimp only; omega
    · rename_i h1
      rw [List.pairwise_cons]
      refine ⟨fun p hp => ?_, insL_sorted r a z h'.2⟩
      rcases (mem_insL r a z p).1 hp with rfl | ⟨-, h2⟩
      · dsimp only; omega
      · exact h'.1 p h2
theorem LB.set {xs : List (Int × Int)} {f : Int → Int} (h : LB xs f) (a z : Int) : LB (lset xs a z) fun k => if k = a then z else f k := by
  by_cases hz : z = 0
  · subst hz
    rw [lset_0]
    refine ⟨h.s.sublist List.filter_sublist, fun k v => ?_⟩
    rw [List.mem_filter, h.m]
    by_cases e : k = a
    · subst e
      simp
      intro h1 h2
      exact absurd h2.symm h1
    · simp [e]
  · rw [lset_n xs a z hz]
    refine ⟨insL_sorted xs a z h.s, fun k v => ?_⟩
    rw [mem_insL, h.m]
    by_cases e : k = a
    · subst e
      simp only [Prod.mk.injEq, true_and, ne_eq, not_true_eq_false, false_and, or_false, if_true]
      constructor
      · rintro rfl
        exact ⟨hz, rfl⟩
      · rintro ⟨-, h2⟩
        exact h2.symm
    · simp [e]
theorem stp_len (a z : Int) (s : Bool × List (Int × Int)) (x : Int × Int) : (stp a z s x).2.length ≤ s.2.length + 2 := by
  unfold stp
  split <;> split <;> simp
theorem fold_len (a z : Int) : ∀ (xs : List (Int × Int)) (s : Bool × List (Int × Int)), (xs.foldl (stp a z) s).2.length ≤ s.2.length + 2 * xs.length
  | [], s => by simp
  | x :: xs, s => by
    rw [List.foldl_cons]
    have h1 := fold_len a z xs (stp a z s x)
    have h2 := stp_len a z s x
    simp
    omega
theorem fold_snoc {a z : Int} {xs : List (Int × Int)} {i : Nat} (hi : i < xs.length) (s : Bool × List (Int × Int)) : (xs.take (i + 1)).foldl (stp a z) s = stp a z ((xs.take i).foldl (stp a z) s) xs[i] := by
  rw [take_snoc hi, List.foldl_append]
  rfl
/-! what the reference's Apply tells -/
def rtot (f : Int → Int) (qs : List (Int × Int)) (k : Int) : Int := (sel qs k).sum + f k
def RApp (xs qs : List (Int × Int)) (f : Int → Int) (e : Int) (ys : List (Int × Int)) : Prop :=
  (e = 3 ∧ ys = xs ∧ ¬ inR qs) ∨ (e = 6 ∧ ys = xs ∧ inR qs ∧ ∃ q ∈ qs, ¬ I64 (rtot f qs q.1)) ∨ (e = 0 ∧ inR qs ∧ (∀ q ∈ qs, I64 (rtot f qs q.1)) ∧ LB ys (rtot f qs))
/-- The program's Apply and the reference's tell the same. -/
theorem app_same {m m' : ML} {xs qs ys zs : List (Int × Int)} {e e' : Int} (hm : gB m) (hx : BL m xs) (h : AppR m qs e m') (h' : RApp xs qs (bal m) e' ys) (hz : BL m' zs) : e = e' ∧ zs = ys := by
  have ht : ∀ k, rtot (bal m) qs k = tot m qs k := fun k => rfl
  have hg := h.g hm
  rcases h with ⟨rfl, rfl, h1⟩ | ⟨rfl, rfl, h1, q, hq, h2⟩ | ⟨rfl, h1, h2, h3⟩
  · rcases h' with ⟨rfl, rfl, -⟩ | ⟨-, -, h4, -⟩ | ⟨-, h4, -⟩
    · exact ⟨rfl, hz.uniq hm hm hx fun _ => rfl⟩
    · exact absurd h4 h1
    · exact absurd h4 h1
  · rcases h' with ⟨-, -, h4⟩ | ⟨rfl, rfl, -⟩ | ⟨-, -, h4, -⟩
    · exact absurd h1 h4
    · exact ⟨rfl, hz.uniq hm hm hx fun _ => rfl⟩
    · exact absurd (h4 q hq) h2
  · rcases h' with ⟨-, -, h4⟩ | ⟨-, -, -, q, hq, h4⟩ | ⟨rfl, -, -, h4⟩
    · exact absurd h1 h4
    · exact absurd (h2 q hq) h4
    · exact ⟨rfl, (LB.of hg hz).uniq h4 h3.b⟩
end Go.Proofs.Yteakfibolfapiaa.Ab
end
section
namespace Go.Proofs.Yteakfibolfapiaa
open Go.RowKit Go.Sort
set_option linter.unusedVariables false
set_option linter.unusedSimpArgs false
set_option maxRecDepth 100000 in
set_option maxHeartbeats 1000000 in
theorem C_Half (a : Int) (ha : I64 a) (w : World) :
    Calls Try.prog 79 #[.int .i64 a] w fun e w' => e = .returned (.agg #[.int .i64 (a.tdiv 1000000000), .int .i64 (a.tmod 1000000000)]) ∧ Below w.heap.size w w' := by
  unfold I64 at ha
  go_enter Try.func79, Try.ntmps79
  go_wp2_with fail
  refine bodyPost_ret (Tr.results_run [.cell 2 155] [_] rfl ⟨_, _, rfl, ⟨_, rfl, Tr.load_blk (Tr.blk_at (by simp)) Try.underlying155 rfl (by kernel_rfl)⟩, rfl⟩ _ rfl) rfl ⟨rfl, ?_⟩
  (repeat (first | with_reducible assumption | (with_reducible exact Below.refl _ _) | ((with_reducible refine Tr.below_alloc ?_ ?_); rotate_left; focus (first | omega | exact Nat.le_refl _)) | (with_reducible refine Tr.below_drew ?_) | (with_reducible refine Tr.below_drewN ?_) | ((with_reducible refine Tr.below_set ?_ ?_); rotate_left; focus (first | omega | (simp; done) | (simp; omega))) | ((with_reducible refine Tr.below_trans ?_ (by assumption) ?_); rotate_left; focus (first | exact Nat.le_refl _ | omega))))
theorem half_facts (h : Int) : h = 1000000000 * h.tdiv 1000000000 + h.tmod 1000000000 ∧ (0 ≤ h → 0 ≤ h.tmod 1000000000 ∧ h.tmod 1000000000 < 1000000000 ∧ 0 ≤ h.tdiv 1000000000) ∧
    (h ≤ 0 → h.tmod 1000000000 ≤ 0 ∧ -1000000000 < h.tmod 1000000000 ∧ h.tdiv 1000000000 ≤ 0) := by
  have e := (Int.mul_tdiv_add_tmod h 1000000000).symm
  refine ⟨e, fun h0 => ?_, fun h0 => ?_⟩
  · rw [Int.tmod_eq_emod_of_nonneg h0, Int.tdiv_eq_ediv_of_nonneg h0]; omega
  · obtain ⟨k, rfl⟩ : ∃ k, h = -k := ⟨-h, by omega⟩
    rw [Int.neg_tmod, Int.neg_tdiv, Int.tmod_eq_emod_of_nonneg (by omega), Int.tdiv_eq_ediv_of_nonneg (by omega)]; omega
/-- What the end tells is the sum, or that it is none. -/
theorem back_in (h0 h1 q r a b : Int) (e : h1 = 1000000000 * q + r) (hs : a * 1000000000 + b = h0 * 1000000000 + h1) (hb : (0 ≤ a → 0 ≤ b ∨ a = 0) ∧ (a ≤ 0 → b ≤ 0 ∨ a = 0)) (hr : -1000000000 < b ∧ b < 1000000000)
    (hn : ¬ (9223372036 < a ∨ a < -9223372036 ∨ (a = 9223372036 ∧ 854775807 < b) ∨ (a = -9223372036 ∧ b < -854775808))) :
    amt (h0 * 1000000000 + h1) = a * 1000000000 + b ∧ amtE (h0 * 1000000000 + h1) = 0 := by
  have : I64 (h0 * 1000000000 + h1) := by unfold I64; omega
  rw [(amt_yes this).1, (amt_yes this).2]; exact ⟨hs.symm, rfl⟩
theorem back_out (h0 h1 a b : Int) (hs : a * 1000000000 + b = h0 * 1000000000 + h1) (hb : (0 < a → 0 ≤ b) ∧ (a < 0 → b ≤ 0))
    (hn : (9223372036 < a ∨ a < -9223372036 ∨ (a = 9223372036 ∧ 854775807 < b) ∨ (a = -9223372036 ∧ b < -854775808))) :
    amt (h0 * 1000000000 + h1) = 0 ∧ amtE (h0 * 1000000000 + h1) = 6 := by
  have : ¬ I64 (h0 * 1000000000 + h1) := by unfold I64; omega
  exact amt_no this
theorem ret_amt {V x y : Int} (h : amt V = x ∧ amtE V = y) : Ending.returned (.tuple #[.int .i64 x, .int .i64 y]) = .returned (.tuple #[.int .i64 (amt V), .int .i64 (amtE V)]) := by rw [h.1, h.2]
theorem amt_is (V x : Int) (h : x = V) (g : -9223372036854775808 ≤ V ∧ V ≤ 9223372036854775807) : amt V = x ∧ amtE V = 0 := by rw [h]; exact amt_yes g
set_option maxRecDepth 100000 in
set_option maxHeartbeats 4000000 in
theorem C_Back (h0 h1 : Int) (a0 : -1152921504606846976 ≤ h0) (a1 : h0 ≤ 1152921504606846976) (b0 : -1152921504606846976 ≤ h1) (b1 : h1 ≤ 1152921504606846976) (w : World) :
    Calls Try.prog 80 #[.agg #[.int .i64 h0, .int .i64 h1]] w fun e w' => e = .returned (.tuple #[.int .i64 (amt (h0 * 1000000000 + h1)), .int .i64 (amtE (h0 * 1000000000 + h1))]) ∧ Below w.heap.size w w' := by
  obtain ⟨e, hp, hn⟩ := half_facts h1
  have q0 : -1152921505 ≤ h1.tdiv 1000000000 := by omega
  have q1 : h1.tdiv 1000000000 ≤ 1152921505 := by omega
  have r0 : -1000000000 < h1.tmod 1000000000 := by omega
  have r1 : h1.tmod 1000000000 < 1000000000 := by omega
  have E := Lib.hid e; have HP := Lib.hid hp; have HNN := Lib.hid hn
  clear e hp hn
  go_enter Try.func80, Try.ntmps80
  go_wp2_with fail
  all_goals
    go_ret2
    refine ⟨?_, by (repeat (first | with_reducible assumption | (with_reducible exact Below.refl _ _) | ((with_reducible refine Tr.below_alloc ?_ ?_); rotate_left; focus (first | omega | exact Nat.le_refl _)) | (with_reducible refine Tr.below_drew ?_) | (with_reducible refine Tr.below_drewN ?_) | ((with_reducible refine Tr.below_set ?_ ?_); rotate_left; focus (first | omega | (simp; done) | (simp; omega))) | ((with_reducible refine Tr.below_trans ?_ (by assumption) ?_); rotate_left; focus (first | exact Nat.le_refl _ | omega))))⟩
    have e := E.out
    first
      | (refine ret_amt (back_out h0 h1 (h0 + h1.tdiv 1000000000) (h1.tmod 1000000000) ?_ ?_ ?_) <;> omega)
      | (refine ret_amt (back_out h0 h1 (h0 + h1.tdiv 1000000000 - 1) (h1.tmod 1000000000 + 1000000000) ?_ ?_ ?_) <;> omega)
      | (refine ret_amt (back_out h0 h1 (h0 + h1.tdiv 1000000000 + 1) (h1.tmod 1000000000 - 1000000000) ?_ ?_ ?_) <;> omega)
      | (refine ret_amt (amt_is (h0 * 1000000000 + h1) _ ?_ ?_) <;> omega)
end Go.Proofs.Yteakfibolfapiaa
end

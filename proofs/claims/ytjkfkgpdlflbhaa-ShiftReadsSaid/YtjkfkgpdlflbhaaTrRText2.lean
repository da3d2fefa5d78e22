/- The reference's text of shifts. -/
import Derived.Test.YtjkfkgpdlflbhaaTrRText1
namespace Go.Proofs.Ytjkfkgpdlflbhaa
open Go.RowKit Go.Sort
open Tr (Sl Chg)
set_option linter.unusedVariables false
set_option linter.unusedSimpArgs false

theorem C_R04Write' (l : List Fld) (n : Nat) (a : Option Addr) (cap : Nat) (w : World) (hn : n = l.length) (hl : Sl 118 4 w (.slice a n cap) n (fcs l)) (hok : ∀ f ∈ l, f.ok) (hlen : l.length ≤ 1000000) :
    Calls Try.prog 58 #[.slice a n cap] w fun e w' => e = .returned (.tuple #[.string ⟨(l.flatMap Fld.bytes).toArray⟩, .bool true]) ∧ Below w.heap.size w w' := by
  subst hn
  exact C_R04Write l a cap w hl hok hlen
theorem sl_open {e c n cap : Nat} {w : World} {a : Option Addr} {xs : List Value} (h : Sl e c w (.slice a n cap) n xs) (h0 : 0 < n) :
    ∃ b off, a = some ⟨b, off, none⟩ ∧ ∀ (j : Nat) (u : Value), xs[j]? = some u → w.cell? ((⟨b, off, none⟩ : Addr).add j) = some u := by
  obtain ⟨a', cap', hv, hcap, hll, h1, hcell⟩ := h
  simp only [Value.slice.injEq] at hv
  obtain ⟨rfl, -, rfl⟩ := hv
  obtain ⟨b, off, cs, fz, rfl, hg, hcs⟩ := hcell h0
  exact ⟨b, off, rfl, Tr.Sl.src (e := e) (c := c) (n := n) (cap := cap) ⟨_, _, rfl, hcap, hll, h1, fun _ => ⟨b, off, cs, fz, rfl, hg, hcs⟩⟩⟩
def RHd (next on len : Nat) : List Fld := [⟨0, 5, next⟩, ⟨0, 1, on⟩, ⟨0, 1, len⟩]
def RTxtInv (hd : List Fld) (cl : List Tot) (B : World) (blk : Array Value) (s4 s5 : Value) (wr : World) : Prop :=
  ∃ i : Nat, i ≤ cl.length ∧ s5 = .int .i64 i ∧ wr.ownsRow (B.heap.size + 1) 118 4 s4 (3 + 6 * i) (fcs (hd ++ (cl.take i).flatMap TFl)) ∧
    wr.heap[B.heap.size]? = some (.cells blk 74 (0, 0)) ∧ Below B.heap.size B wr ∧ B.heap.size + 1 ≤ wr.heap.size
theorem TFls_len (l : List Tot) : (l.flatMap TFl).length = 6 * l.length := by
  induction l with
  | nil => rfl
  | cons t l ih => rw [List.flatMap_cons, List.length_append, ih, List.length_cons, TFl_len]; omega
theorem TFls_bytes (l : List Tot) : (l.flatMap TFl).flatMap Fld.bytes = l.flatMap TW := by
  induction l with
  | nil => rfl
  | cons t l ih => rw [List.flatMap_cons, List.flatMap_append, ih, TFl_bytes, List.flatMap_cons]

set_option maxRecDepth 100000 in
set_option maxHeartbeats 8000000 in
theorem C_RText (x : Sh) (a : Option Addr) (cap : Nat) (w : World) (hl : Sl 69 6 w (.slice a x.cl.length cap) x.cl.length (tots x.cl)) (ho : x.ok) :
    Calls Try.prog 38 #[RV x (.slice a x.cl.length cap)] w fun e w' => e = .returned (.string ⟨(SW x).toArray⟩) ∧ Below w.heap.size w w' := by
  obtain ⟨keep, next, op, now, cl⟩ := x
  obtain ⟨⟨k0, k1⟩, ⟨n0, n1⟩, hnow, hall, hlen, -⟩ := ho
  dsimp only at *
  obtain ⟨next, rfl⟩ := Int.eq_ofNat_of_zero_le (show 0 ≤ next by omega)
  have hcl : cl.length ≤ 64 := by omega
  have wn : IntKind.u64.wrap (next : Int) = next := by rw [u64_eq]; omega
  have wl : IntKind.u64.wrap (cl.length : Int) = cl.length := by rw [u64_eq]; omega
  obtain ⟨i0', hi, hz0, hz1, hz2⟩ := info_parts info_Fld
  have HSL := Lib.hid hl; have HALL := Lib.hid hall; have HNOW := Lib.hid hnow
  clear hl hall hnow
  obtain ⟨n, s, v, r, io, o⟩ := now
  cases op with
  | true =>
    obtain ⟨T, hT⟩ : ∃ T, T = (SW ⟨keep, next, true, ⟨n, s, v, r, io, o⟩, cl⟩).toArray := ⟨_, rfl⟩
    have hTT : T = ((RHd next 1 cl.length ++ cl.flatMap TFl ++ TFl ⟨n, s, v, r, io, o⟩).flatMap Fld.bytes).toArray := by
      rw [hT]
      unfold SW SWh
      simp only [List.flatMap_append, TFls_bytes, TFl_bytes]
      first
        | (congr 1; done)
        | (congr 1; simp [RHd, Fld.bytes, Fld.width]; done)
    rw [← hT]
    have HTT := Lib.hid hTT
    clear hT hTT
    unfold RV
    dsimp only
    go_enter Try.func38, Try.ntmps38
    go_wp2_with fail
    go_loopw [4, 5] (fun s4 s5 wr => RTxtInv (RHd next 1 cl.length) cl w #[.int .i64 keep, .int .i64 next, .bool true, .int .i64 n, .int .i64 s, .int .i64 v, .int .i64 r, .int .i64 io, .int .i64 o, .slice a cl.length cap] s4 s5 wr) (fun _ s5 _ => cl.length - (intOf s5).toNat)
    case atStart =>
      refine ⟨0, by omega, rfl, ?_, ?_, ?_, ?_⟩
      · refine Tr.ownsRow_of_blk (Tr.blk_at (by simp)) (by simp) ?_ rfl (by decide)
        simp [fcs, RHd, Fld.cells, wn, wl]
      · (repeat (first | with_reducible assumption | with_reducible refine Tr.blk_drew ?_ | with_reducible refine Tr.blk_drewN ?_ | (refine Tr.blk_at ?_; focus (first | (simp; done) | (simp; omega))) | with_reducible refine Tr.blk_old ?_ | ((with_reducible refine Tr.blk_set_ne ?_ _ ?_); rotate_left; focus (first | (simp; done) | (simp; omega) | (simp; assumption)))))
      · (repeat (first | with_reducible assumption | (with_reducible exact Below.refl _ _) | ((with_reducible refine Tr.below_alloc ?_ ?_); rotate_left; focus (first | omega | exact Nat.le_refl _)) | (with_reducible refine Tr.below_drew ?_) | (with_reducible refine Tr.below_drewN ?_) | ((with_reducible refine Tr.below_set ?_ ?_); rotate_left; focus (first | omega | (simp; done) | (simp; omega))) | ((with_reducible refine Tr.below_trans ?_ (by assumption) ?_); rotate_left; focus (first | exact Nat.le_refl _ | omega))))
      · simp
    case round =>
      obtain ⟨j, hj, rfl, hown, b0, hB, hsz⟩ := hrel
      have c0 := fun o => Tr.cell_blk (o := o) b0
      have B0 := Lib.hid b0; have HOWN := Lib.hid hown
      obtain ⟨a4, cp4, rfl, -⟩ := Tr.ownsRow_cells hown
      clear b0 hown
      have hk4 : ∀ k, (Value.slice a4 (3 + 6 * j) cp4).ownBlock = some k → w.heap.size + 1 ≤ k := fun k hk => Tr.ownsRow_base HOWN.out hk
      have HK4 := Lib.hid hk4
      clear hk4
      by_cases hlt : j < cl.length
      · obtain ⟨g, off, rfl, hg, hcell⟩ := sl_at6 HSL.out j hlt
        obtain ⟨t, ht⟩ : ∃ t, t = cl.getD j .zero := ⟨_, rfl⟩
        rw [← ht] at hcell
        have htok : t.ok := by rw [ht]; simp only [List.getD, List.getElem?_eq_getElem hlt, Option.getD_some]; exact HALL.out _ (List.getElem_mem _)
        have htk : (cl.take (j + 1)).flatMap TFl = (cl.take j).flatMap TFl ++ TFl t := by
          rw [List.take_succ_eq_append_getElem hlt, List.flatMap_append, ht]; simp [List.getD, hlt]
        have hcw := hcell wr hB
        have hC : ∀ W, Calls Try.prog 57 #[t.val] W _ := fun W => C_RTotal26 t W htok
        obtain ⟨M, hM⟩ : ∃ M, M = TFl t := ⟨_, rfl⟩
        rw [← hM] at hC htk
        have hMl : M.length = 6 := by rw [hM]; rfl
        obtain ⟨tn, ts, tv, tr, ti, tq⟩ := t
        simp only [Tot.cells] at hcw
        unfold Tot.val at hC
        dsimp only at hC
        have q0 := hcw 0 (by omega)
        have q1 := hcw 1 (by omega)
        have q2 := hcw 2 (by omega)
        have q3 := hcw 3 (by omega)
        have q4 := hcw 4 (by omega)
        have q5 := hcw 5 (by omega)
        simp only [Nat.add_zero] at q0 q1 q2 q3 q4 q5
        have HC := Lib.hid hC; have HTK := Lib.hid htk; have HB := Lib.hid hB; have HML := Lib.hid hMl
        clear hcw hcell ht htok htk hC hM hB hMl
        go_wp2_with (first
          | (go_at_call 57; refine (HC.out _).mono ?_; rintro e w1 ⟨⟨a1, cp1, rfl, hsl1⟩, hb1⟩; obtain ⟨gb, goff, rfl, hsrc⟩ := sl_open hsl1 (by decide); have HSRC := Lib.hid hsrc; have HB1 := Lib.hid hb1; have hsz1 := hb1.size; clear hsl1 hsrc hb1)
          | (at_builtin; refine wpList_append_lies _ rfl _ _ 119 rfl (w.heap.size + 1) 118 i0' (.agg #[.int .i64 0, .int .i64 0, .int .u64 0, .string ⟨#[]⟩]) 4 40 Try.underlying119 hi hz0 hz1 hz2 rfl (by decide) _ (3 + 6 * j) _ rfl (Tr.ownsRow_keep HB1.out HOWN.out) ⟨gb, goff, none⟩ 6 cp1 (fcs M) rfl (by rw [fcs_len, HML.out]) HSRC.out (fcs_one _) (by decide) (by unfold maxLen; omega) (by omega) (by omega) _ rfl ?_)
          | fail)
        intro g9 cp9 w9 hown9 hgrow9 hat9 hlt9
        have b09 : w9.heap[w.heap.size]? = some (.cells #[.int .i64 keep, .int .i64 next, .bool true, .int .i64 n, .int .i64 s, .int .i64 v, .int .i64 r, .int .i64 io, .int .i64 o, .slice (some ⟨g, off, none⟩) cl.length cap] 74 (0, 0)) := by
          rw [hgrow9.block _ (by omega) (fun e => by have := HK4.out _ e.symm; omega)]
          exact Tr.blk_keep HB1.out B0.out
        have hB9 : Below w.heap.size w w9 := (Tr.below_trans HB.out HB1.out).grown hgrow9 (by omega) (fun k hk => by have := HK4.out _ hk; omega)
        have hs9 : w.heap.size + 1 ≤ w9.heap.size := by have := hgrow9.size; omega
        have HOWN9 := Lib.hid hown9; have B09 := Lib.hid b09; have HB9 := Lib.hid hB9
        clear hown9 hgrow9 hat9 b09 c0 hB9
        go_wp2_with fail
        go_roundw
        case rel =>
          refine ⟨j + 1, by omega, by go_num, ?_, B09.out, HB9.out, hs9⟩
          rw [HTK.out, ← List.append_assoc, fcs_app, show 3 + 6 * (j + 1) = 3 + 6 * j + 6 by omega]
          exact HOWN9.out
        case measure => simp [intOf]; omega
      · have hje : j = cl.length := by omega
        subst hje
        rw [List.take_length] at HOWN
        have hC : ∀ W, Calls Try.prog 57 #[(⟨n, s, v, r, io, o⟩ : Tot).val] W _ := fun W => C_RTotal26 ⟨n, s, v, r, io, o⟩ W HNOW.out
        have hMok := TFl_ok _ HNOW.out
        obtain ⟨M, hM⟩ : ∃ M, M = TFl ⟨n, s, v, r, io, o⟩ := ⟨_, rfl⟩
        rw [← hM] at hC HTT hMok
        have hMl : M.length = 6 := by rw [hM]; rfl
        unfold Tot.val at hC
        dsimp only at hC
        have HC := Lib.hid hC; have HB := Lib.hid hB; have HML := Lib.hid hMl; have HMOK := Lib.hid hMok
        clear hC hM hB hMl hMok
        go_wp2_with (first
          | (go_at_call 57; refine (HC.out _).mono ?_; rintro e w1 ⟨⟨a1, cp1, rfl, hsl1⟩, hb1⟩; obtain ⟨gb, goff, rfl, hsrc⟩ := sl_open hsl1 (by decide); have HSRC := Lib.hid hsrc; have HB1 := Lib.hid hb1; have hsz1 := hb1.size; clear hsl1 hsrc hb1)
          | (at_builtin; refine wpList_append_lies _ rfl _ _ 119 rfl (w.heap.size + 1) 118 i0' (.agg #[.int .i64 0, .int .i64 0, .int .u64 0, .string ⟨#[]⟩]) 4 40 Try.underlying119 hi hz0 hz1 hz2 rfl (by decide) _ (3 + 6 * cl.length) _ rfl (Tr.ownsRow_keep HB1.out HOWN.out) ⟨gb, goff, none⟩ 6 cp1 (fcs M) rfl (by rw [fcs_len, HML.out]) HSRC.out (fcs_one _) (by decide) (by unfold maxLen; omega) (by omega) (by omega) _ rfl ?_)
          | fail)
        intro g9 cp9 w9 hown9 hgrow9 hat9 hlt9
        have hB9 : Below w.heap.size w w9 := (Tr.below_trans HB.out HB1.out).grown hgrow9 (by omega) (fun k hk => by have := HK4.out _ hk; omega)
        rw [← fcs_app] at hown9
        have hSl := Tr.Sl.of_row hown9 (fcs_one _)
        have hW := C_R04Write' _ _ _ _ w9 (by simp only [List.length_append, TFls_len, HML.out]; simp [RHd] <;> omega) hSl (by
            intro f hf
            simp only [List.mem_append, List.mem_flatMap] at hf
            rcases hf with (hf | ⟨t, ht, hf⟩) | hf
            · simp only [RHd, List.mem_cons, List.mem_nil_iff, or_false] at hf
              rcases hf with rfl | rfl | rfl <;> refine ⟨by simp, by simp [Fld.width], by simp [Fld.width], ?_⟩ <;> simp [Fld.width] <;> omega
            · exact TFl_ok t (HALL.out t ht) f hf
            · exact HMOK.out f hf) (by simp only [List.length_append, TFls_len, HML.out]; simp [RHd] <;> omega)
        have HW := Lib.hid hW; have HB9 := Lib.hid hB9
        clear hown9 hgrow9 hat9 c0 hSl hW hB9
        go_wp2_with (go_at_call 58; refine HW.out.mono ?_; rintro e w2 ⟨rfl, hb2⟩)
        go_ret
        refine ⟨by rw [HTT.out]; simp only [List.flatMap_append, List.append_assoc]; rfl, ?_⟩
        exact Tr.below_trans HB9.out hb2
  | false =>
    obtain ⟨T, hT⟩ : ∃ T, T = (SW ⟨keep, next, false, ⟨n, s, v, r, io, o⟩, cl⟩).toArray := ⟨_, rfl⟩
    have hTT : T = ((RHd next 0 cl.length ++ cl.flatMap TFl).flatMap Fld.bytes).toArray := by
      rw [hT]
      unfold SW SWh
      simp only [List.flatMap_append, TFls_bytes]
      first
        | (congr 1; done)
        | (congr 1; simp [RHd, Fld.bytes, Fld.width]; done)
    rw [← hT]
    have HTT := Lib.hid hTT
    clear hT hTT
    unfold RV
    dsimp only
    go_enter Try.func38, Try.ntmps38
    go_wp2_with fail
    go_loopw [4, 5] (fun s4 s5 wr => RTxtInv (RHd next 0 cl.length) cl w #[.int .i64 keep, .int .i64 next, .bool false, .int .i64 n, .int .i64 s, .int .i64 v, .int .i64 r, .int .i64 io, .int .i64 o, .slice a cl.length cap] s4 s5 wr) (fun _ s5 _ => cl.length - (intOf s5).toNat)
    case atStart =>
      refine ⟨0, by omega, rfl, ?_, ?_, ?_, ?_⟩
      · refine Tr.ownsRow_of_blk (Tr.blk_at (by simp)) (by simp) ?_ rfl (by decide)
        simp [fcs, RHd, Fld.cells, wn, wl]
      · (repeat (first | with_reducible assumption | with_reducible refine Tr.blk_drew ?_ | with_reducible refine Tr.blk_drewN ?_ | (refine Tr.blk_at ?_; focus (first | (simp; done) | (simp; omega))) | with_reducible refine Tr.blk_old ?_ | ((with_reducible refine Tr.blk_set_ne ?_ _ ?_); rotate_left; focus (first | (simp; done) | (simp; omega) | (simp; assumption)))))
      · (repeat (first | with_reducible assumption | (with_reducible exact Below.refl _ _) | ((with_reducible refine Tr.below_alloc ?_ ?_); rotate_left; focus (first | omega | exact Nat.le_refl _)) | (with_reducible refine Tr.below_drew ?_) | (with_reducible refine Tr.below_drewN ?_) | ((with_reducible refine Tr.below_set ?_ ?_); rotate_left; focus (first | omega | (simp; done) | (simp; omega))) | ((with_reducible refine Tr.below_trans ?_ (by assumption) ?_); rotate_left; focus (first | exact Nat.le_refl _ | omega))))
      · simp
    case round =>
      obtain ⟨j, hj, rfl, hown, b0, hB, hsz⟩ := hrel
      have c0 := fun o => Tr.cell_blk (o := o) b0
      have B0 := Lib.hid b0; have HOWN := Lib.hid hown
      obtain ⟨a4, cp4, rfl, -⟩ := Tr.ownsRow_cells hown
      clear b0 hown
      have hk4 : ∀ k, (Value.slice a4 (3 + 6 * j) cp4).ownBlock = some k → w.heap.size + 1 ≤ k := fun k hk => Tr.ownsRow_base HOWN.out hk
      have HK4 := Lib.hid hk4
      clear hk4
      by_cases hlt : j < cl.length
      · obtain ⟨g, off, rfl, hg, hcell⟩ := sl_at6 HSL.out j hlt
        obtain ⟨t, ht⟩ : ∃ t, t = cl.getD j .zero := ⟨_, rfl⟩
        rw [← ht] at hcell
        have htok : t.ok := by rw [ht]; simp only [List.getD, List.getElem?_eq_getElem hlt, Option.getD_some]; exact HALL.out _ (List.getElem_mem _)
        have htk : (cl.take (j + 1)).flatMap TFl = (cl.take j).flatMap TFl ++ TFl t := by
          rw [List.take_succ_eq_append_getElem hlt, List.flatMap_append, ht]; simp [List.getD, hlt]
        have hcw := hcell wr hB
        have hC : ∀ W, Calls Try.prog 57 #[t.val] W _ := fun W => C_RTotal26 t W htok
        obtain ⟨M, hM⟩ : ∃ M, M = TFl t := ⟨_, rfl⟩
        rw [← hM] at hC htk
        have hMl : M.length = 6 := by rw [hM]; rfl
        obtain ⟨tn, ts, tv, tr, ti, tq⟩ := t
        simp only [Tot.cells] at hcw
        unfold Tot.val at hC
        dsimp only at hC
        have q0 := hcw 0 (by omega)
        have q1 := hcw 1 (by omega)
        have q2 := hcw 2 (by omega)
        have q3 := hcw 3 (by omega)
        have q4 := hcw 4 (by omega)
        have q5 := hcw 5 (by omega)
        simp only [Nat.add_zero] at q0 q1 q2 q3 q4 q5
        have HC := Lib.hid hC; have HTK := Lib.hid htk; have HB := Lib.hid hB; have HML := Lib.hid hMl
        clear hcw hcell ht htok htk hC hM hB hMl
        go_wp2_with (first
          | (go_at_call 57; refine (HC.out _).mono ?_; rintro e w1 ⟨⟨a1, cp1, rfl, hsl1⟩, hb1⟩; obtain ⟨gb, goff, rfl, hsrc⟩ := sl_open hsl1 (by decide); have HSRC := Lib.hid hsrc; have HB1 := Lib.hid hb1; have hsz1 := hb1.size; clear hsl1 hsrc hb1)
          | (at_builtin; refine wpList_append_lies _ rfl _ _ 119 rfl (w.heap.size + 1) 118 i0' (.agg #[.int .i64 0, .int .i64 0, .int .u64 0, .string ⟨#[]⟩]) 4 40 Try.underlying119 hi hz0 hz1 hz2 rfl (by decide) _ (3 + 6 * j) _ rfl (Tr.ownsRow_keep HB1.out HOWN.out) ⟨gb, goff, none⟩ 6 cp1 (fcs M) rfl (by rw [fcs_len, HML.out]) HSRC.out (fcs_one _) (by decide) (by unfold maxLen; omega) (by omega) (by omega) _ rfl ?_)
          | fail)
        intro g9 cp9 w9 hown9 hgrow9 hat9 hlt9
        have b09 : w9.heap[w.heap.size]? = some (.cells #[.int .i64 keep, .int .i64 next, .bool false, .int .i64 n, .int .i64 s, .int .i64 v, .int .i64 r, .int .i64 io, .int .i64 o, .slice (some ⟨g, off, none⟩) cl.length cap] 74 (0, 0)) := by
          rw [hgrow9.block _ (by omega) (fun e => by have := HK4.out _ e.symm; omega)]
          exact Tr.blk_keep HB1.out B0.out
        have hB9 : Below w.heap.size w w9 := (Tr.below_trans HB.out HB1.out).grown hgrow9 (by omega) (fun k hk => by have := HK4.out _ hk; omega)
        have hs9 : w.heap.size + 1 ≤ w9.heap.size := by have := hgrow9.size; omega
        have HOWN9 := Lib.hid hown9; have B09 := Lib.hid b09; have HB9 := Lib.hid hB9
        clear hown9 hgrow9 hat9 b09 c0 hB9
        go_wp2_with fail
        go_roundw
        case rel =>
          refine ⟨j + 1, by omega, by go_num, ?_, B09.out, HB9.out, hs9⟩
          rw [HTK.out, ← List.append_assoc, fcs_app, show 3 + 6 * (j + 1) = 3 + 6 * j + 6 by omega]
          exact HOWN9.out
        case measure => simp [intOf]; omega
      · have hje : j = cl.length := by omega
        subst hje
        rw [List.take_length] at HOWN
        have HB := Lib.hid hB
        have hSl := Tr.Sl.of_row HOWN.out (fcs_one _)
        have hW := C_R04Write' _ _ _ _ wr (by simp only [List.length_append, TFls_len]; simp [RHd]) hSl (by
            intro f hf
            simp only [List.mem_append, List.mem_flatMap] at hf
            rcases hf with hf | ⟨t, ht, hf⟩
            · simp only [RHd, List.mem_cons, List.mem_nil_iff, or_false] at hf
              rcases hf with rfl | rfl | rfl <;> refine ⟨by simp, by simp [Fld.width], by simp [Fld.width], ?_⟩ <;> simp [Fld.width] <;> omega
            · exact TFl_ok t (HALL.out t ht) f hf) (by simp only [List.length_append, TFls_len]; simp [RHd] <;> omega)
        have HW := Lib.hid hW
        clear hSl hW hB
        go_wp2_with (go_at_call 58; refine HW.out.mono ?_; rintro e w2 ⟨rfl, hb2⟩)
        go_ret
        refine ⟨by rw [HTT.out]; simp only [List.flatMap_append, List.append_assoc]; rfl, ?_⟩
        exact Tr.below_trans HB.out hb2
end Go.Proofs.Ytjkfkgpdlflbhaa

/- Books: the list, Apply, for callers. -/
import Derived.Test.YteakfibolfapiaaTrBl2
namespace Go.Proofs.Yteakfibolfapiaa.Ab
open Go Go.RowKit Go.Sort
set_option linter.unusedVariables false
set_option linter.unusedSimpArgs false
set_option maxRecDepth 100000
set_option maxHeartbeats 4000000
/-- The balances by rising accounts. -/
structure BL (m : ML) (xs : List (Int × Int)) : Prop where
  p : (xs.map Bl.prE).Perm m
  s : xs.Pairwise fun x y => x.1 < y.1
theorem BL.of {m : ML} (hm : gB m) {xs : List (Int × Int)} (h1 : (xs.map Bl.prE).Perm m) (h2 : xs.Pairwise fun x y => x.1 ≤ y.1) : BL m xs := by
  refine ⟨h1, ?_⟩
  have h3 := (h1.map (·.1)).nodup_iff.2 hm.nd
  rw [List.map_map] at h3
  have h4 : xs.Pairwise fun x y => x.1 ≠ y.1 := by
    rw [List.Nodup, List.pairwise_map] at h3
    exact h3
  exact (h2.and h4).imp fun ⟨a, b⟩ => by omega
theorem lnR_flat : ∀ (xs : List (Int × Int)), Bl.cellsE xs = xs.flatMap fun p => [.int .i64 p.1, .int .i64 p.2] := fun _ => rfl
theorem rowsE_rel {w : World} {M : Nat → Prop} : ∀ (xs : List (Int × Int)) (rest : List Value), RelRows w M (lnR xs) (Bl.cellsE xs ++ rest)
  | [], rest => trivial
  | a :: xs, rest => by
    refine ⟨?_, ?_⟩
    · exact ⟨_, _, rfl, rfl, _, _, rfl, rfl, rfl⟩
    · exact rowsE_rel xs rest
def S_BList (i : Nat) (K : CallK) (n : Nat) (h : Hp) : Prop := pat2 h i fun j m => Nd (fun _ => gB m) ∧ Al (fun rows => ∃ xs, rows = lnR xs ∧ BL m xs) fun rows => K (.sl n) (n + 1) (h ++ [(n, .row 2 rows)])
theorem L_BList {i n : Nat} {h : Hp} {K : CallK} (hK : S_BList i K n h) : CallE Try.prog 46 [.ptr i 0] n h K := by
  obtain ⟨j, m, hg, hg2, ⟨hm⟩, hk⟩ := pat2_elim hK
  refine .enter _ Try.func46 (by kernel_rfl) (by kernel_rfl) (fun ρ w vs r a => ?_)
  obtain ⟨v0, rest, rfl, ⟨b, hb, rfl⟩, hrest⟩ := a
  obtain rfl : rest = [] := hrest
  obtain ⟨b1, cs, ty, h1, h2, h3⟩ := obj_cells r hg
  obtain ⟨bj, h4, h5⟩ := obj_mp r hg2
  rw [hb] at h1
  obtain rfl : b = b1 := by
    have := Option.some.inj h1
    simpa using this
  obtain ⟨cv, t, hcs, ⟨hv, -⟩, ht⟩ := h3
  obtain rfl : t = [] := ht
  rw [h4] at hv
  have hcell : w.cell? ⟨b, 0, none⟩ = some (.map (some bj)) := by
    obtain ⟨cl⟩ := cs
    have hcs : cl = [cv] := hcs
    subst hcs
    simp [World.cell?, h2, ← Option.some.inj hv]
  refine (Bl.C_List b bj m hm w hcell h5).mono ?_
  rintro e w' ⟨v, xs, rfl, k1, k2, k3, k4⟩
  have hgr : Grows w w' := fun b o hbo => by rw [k4.block b (lt_of_get hbo)]; exact hbo
  have hnew : ∀ b, blkIn v b → w.heap.size ≤ b := by
    intro b hb
    rcases k3.2 with ⟨rfl, -⟩ | ⟨g, cap, cur, rfl, hbg, -⟩
    · cases hb
    · simp [blkIn, blkOf] at hb
      omega
  have hll : (lnR xs).length = xs.length := by simp [lnR]
  refine ⟨v, rfl, .sl n, upd ρ n v, n + 1, h ++ [(n, .row 2 (lnR xs))], hk.h _ ⟨xs, rfl, BL.of hm k1 k2⟩, r.new hgr hnew (fun hkp => ?_), by omega, ⟨upd_same _ _ _, ?_⟩, goes_new r hgr hnew k4.os k4.tape k4.output k4.size⟩
  · refine ⟨v, Bl.cellsE xs, 118, upd_same _ _ _, by decide, ⟨by rw [hll]; exact k3.1, ?_⟩, ?_, ?_⟩
    · rw [hll]
      rcases k3.2 with ⟨h6, h7⟩ | ⟨g, cap, cur, hv, hbg, rest⟩
      · exact .inl ⟨h6, h7⟩
      · exact .inr ⟨g, cap, cur, hv, Nat.zero_le _, rest⟩
    · intro q hq
      obtain ⟨a, -, rfl⟩ := List.mem_map.1 hq
      rfl
    · have := rowsE_rel (w := w') (M := Mut (upd ρ n v) (h ++ [(n, .row 2 (lnR xs))])) xs []
      rwa [List.append_nil] at this
  · rcases k3.2 with ⟨rfl, -⟩ | ⟨g, cap, cur, rfl, -⟩
    · exact ⟨_, _, _, rfl⟩
    · exact ⟨_, _, _, rfl⟩
/-! Apply -/
def S_Apply (i : Nat) (r : List (List D)) (K : CallK) (n : Nat) (h : Hp) : Prop := pat2 h i fun j m => Nd (fun _ => i < n ∧ j < n ∧ i ≠ j ∧ gB m ∧ ∃ qs, r = lnR qs ∧ qs.length ≤ 1000 ∧ ∀ q ∈ qs, I64 q.2) ∧
  Al (fun q : Int × ML => ∃ qs, r = lnR qs ∧ AppR m qs q.1 q.2) fun q => K (.d (.int .i64 q.1)) n (out2 i j h q.2)
theorem L_Apply {i n : Nat} {r : List (List D)} {h : Hp} {K : CallK} (hK : S_Apply i r K n h) : CallE Try.prog 16 [.ptr i 0, .d (.imm r)] n h K := by
  obtain ⟨j, m, hg, hg2, ⟨⟨hi, hj, hij, hm, qs, hr, hl, hq⟩⟩, hk⟩ := pat2_elim hK
  refine call_recv2 (CallE.fin (K_Apply0 m hm r qs hr hl hq)) rfl hi hj hij hg hg2 ?_
  rintro v n1 h1 ⟨e, m', rfl, rfl, rfl, hA⟩ -
  exact hk.h (e, m') ⟨qs, hr, hA⟩
end Go.Proofs.Yteakfibolfapiaa.Ab

/- Charts: the list, as the executor is told of it. -/
import Derived.Test.YteakfibolfapiaaTrCh1
import Derived.Test.YteakfibolfapiaaTrIt5
namespace Go.Proofs.Yteakfibolfapiaa.Ab
open Go Go.RowKit Go.Sort
set_option linter.unusedVariables false
set_option linter.unusedSimpArgs false
set_option maxRecDepth 100000
set_option maxHeartbeats 4000000
def rowA (a : It.Acc) : List D := [.int .i64 a.c, .int .u8 a.k, .str a.s]
/-- The accounts of a map by rising codes. -/
def isList (m : ML) (rows : List (List D)) : Prop := ∃ xs : List It.Acc, (xs.map It.pr).Perm m ∧ (xs.Pairwise fun x y => x.c ≤ y.c) ∧ rows = xs.map rowA
theorem rows_rel {w : World} {M : Nat → Prop} : ∀ (xs : List It.Acc) (rest : List Value), RelRows w M (xs.map rowA) (It.cellsA xs ++ rest)
  | [], rest => trivial
  | a :: xs, rest => by
    refine ⟨?_, ?_⟩
    · exact ⟨_, _, rfl, rfl, _, _, rfl, rfl, _, _, rfl, rfl, rfl⟩
    · exact rows_rel xs rest
def S_List (i : Nat) (K : CallK) (n : Nat) (h : Hp) : Prop := pat2 h i fun j m => Nd (fun _ => gC m ∧ m.length ≤ 1000) ∧ Al (isList m) fun rows => K (.sl n) (n + 1) (h ++ [(n, .row 3 rows)])
theorem L_List {i n : Nat} {h : Hp} {K : CallK} (hK : S_List i K n h) : CallE Try.prog 10 [.ptr i 0] n h K := by
  obtain ⟨j, m, hg, hg2, ⟨⟨hm, hl⟩⟩, hk⟩ := pat2_elim hK
  refine .enter _ Try.func10 (by kernel_rfl) (by kernel_rfl) (fun ρ w vs r a => ?_)
  obtain ⟨v0, rest, rfl, ⟨b, hb, rfl⟩, hrest⟩ := a
  obtain rfl : rest = [] := hrest
  obtain ⟨b1, cs, ty, h1, h2, h3⟩ := obj_cells r hg
  obtain ⟨bj, h4, h5⟩ := obj_mp r hg2
  rw [hb] at h1
  obtain rfl : b = b1 := by
    have := Option.some.inj h1
    simpa using this
  obtain ⟨cv, t, hcs, ⟨hv, -⟩, ht⟩ := h3
  obtain rfl : t = [] := ht
  rw [h4] at hv
  have hcell : w.cell? ⟨b, 0, none⟩ = some (.map (some bj)) := by
    obtain ⟨cl⟩ := cs
    have hcs : cl = [cv] := hcs
    subst hcs
    simp [World.cell?, h2, ← Option.some.inj hv]
  refine (It.C_List b bj m (fun p hp => hm.h p hp) hl w hcell h5).mono ?_
  rintro e w' ⟨v, xs, rfl, k1, k2, k3, k4⟩
  have hgr : Grows w w' := fun b o hbo => by rw [k4.block b (lt_of_get hbo)]; exact hbo
  have hnew : ∀ b, blkOf v = some b → w.heap.size ≤ b := by
    intro b hb
    rcases k3.2 with ⟨rfl, -⟩ | ⟨g, cap, cur, rfl, hbg, -⟩
    · cases hb
    · simp [blkOf] at hb
      omega
  refine ⟨v, rfl, .sl n, upd ρ n v, n + 1, h ++ [(n, .row 3 (xs.map rowA))], hk.h _ ⟨xs, k1, k2, rfl⟩, r.new hgr hnew (fun hkp => ?_), by omega, ⟨upd_same _ _ _, ?_⟩, goes_new r hgr hnew k4.os k4.tape k4.output k4.size⟩
  · refine ⟨v, It.cellsA xs, 31, upd_same _ _ _, by decide, ⟨by simpa using k3.1, ?_⟩, ?_, ?_⟩
    · rcases k3.2 with ⟨h6, h7⟩ | ⟨g, cap, cur, hv, hbg, rest⟩
      · exact .inl ⟨h6, by simpa using h7⟩
      · exact .inr ⟨g, cap, cur, by simpa using hv, Nat.zero_le _, by simpa using rest⟩
    · intro q hq
      obtain ⟨a, -, rfl⟩ := List.mem_map.1 hq
      rfl
    · have := rows_rel (w := w') (M := Mut (upd ρ n v) (h ++ [(n, .row 3 (xs.map rowA))])) xs []
      rwa [List.append_nil] at this
  · rcases k3.2 with ⟨rfl, -⟩ | ⟨g, cap, cur, rfl, -⟩
    · exact ⟨_, _, _, rfl⟩
    · exact ⟨_, _, _, rfl⟩
end Go.Proofs.Yteakfibolfapiaa.Ab

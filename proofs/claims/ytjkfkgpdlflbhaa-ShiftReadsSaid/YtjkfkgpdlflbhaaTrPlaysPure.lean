/- What stays of shifts under Start, Add, End. -/
import Derived.Test.YtjkfkgpdlflbhaaTrRText2
import Derived.Test.YtjkfkgpdlflbhaaTrSayShiftPlays
namespace Go.Proofs.Ytjkfkgpdlflbhaa
open Go.RowKit Go.Sort
open Tr (Sl Chg)
set_option linter.unusedVariables false
set_option linter.unusedSimpArgs false

theorem Sh.start_ok {x : Sh} (h : x.ok) : x.start.1.ok := by
  obtain ⟨keep, next, op, now, cl⟩ := x
  have h' := h
  obtain ⟨h1, ⟨h2, h3⟩, h4, h5, h6, h7⟩ := h
  unfold Sh.start
  dsimp only at *
  cases op with
  | true => exact h'
  | false =>
    simp only [Bool.false_eq_true, if_false] at h7 ⊢
    split
    · exact h'
    · refine ⟨h1, ⟨?_, ?_⟩, Tot.zero_ok, h5, h6, ?_⟩ <;> dsimp only <;> (try simp only [if_true]) <;> omega
theorem Sh.start_cl (x : Sh) : x.start.1.cl = x.cl := by
  unfold Sh.start
  split
  · rfl
  · split <;> rfl
theorem Sh.add_cl (x : Sh) (k : Nat) (a : Int) : (x.add k a).1.cl = x.cl := by
  unfold Sh.add
  repeat (split; · rfl)
  rfl
theorem Sh.add_ok {x : Sh} (h : x.ok) (k : Nat) (a : Int) : (x.add k a).1.ok := by
  have h' := h
  obtain ⟨h1, ⟨h2, h3⟩, h4, h5, h6, h7⟩ := h
  unfold Sh.add
  split
  · exact h'
  · rename_i hb
    split
    · exact h'
    · split
      · exact h'
      · rename_i hn
        split
        · exact h'
        · rename_i hov
          refine ⟨h1, ⟨h2, h3⟩, ?_, h5, h6, h7⟩
          dsimp only
          obtain ⟨keep, next, op, ⟨n, s, v, r, i, o⟩, cl⟩ := x
          obtain ⟨⟨n0, n1⟩, ⟨s0, s1⟩, ⟨v0, v1⟩, ⟨r0, r1⟩, ⟨i0, i1⟩, ⟨o0, o1⟩⟩ := h4
          dsimp only at *
          have : k = 1 ∨ k = 2 ∨ k = 3 ∨ k = 4 ∨ k = 5 ∨ k = 6 := by omega
          unfold Tot.ok Amt
          rcases this with rfl | rfl | rfl | rfl | rfl | rfl <;> simp only [Tot.get, Tot.put] at hov ⊢ <;> refine ⟨⟨?_, ?_⟩, ⟨?_, ?_⟩, ⟨?_, ?_⟩, ⟨?_, ?_⟩, ⟨?_, ?_⟩, ⟨?_, ?_⟩⟩ <;> omega
theorem Sh.stop_ok {keep next : Int} {now : Tot} {cl : List Tot} (h : (Sh.mk keep next true now cl).ok) : (Sh.mk keep next false now ((cl ++ [now]).drop (cl.length + 1 - keep.toNat))).ok := by
  obtain ⟨⟨h1, h1'⟩, ⟨h2, h3⟩, h4, h5, h6, h7⟩ := h
  dsimp only at *
  simp only [if_true] at h7
  refine ⟨⟨h1, h1'⟩, ⟨h2, h3⟩, h4, ?_, ?_, ?_⟩
  · intro t ht
    have := List.mem_of_mem_drop ht
    simp only [List.mem_append, List.mem_singleton] at this
    rcases this with h | rfl
    · exact h5 t h
    · exact h4
  · simp only [List.length_drop, List.length_append, List.length_singleton]; omega
  · simp only [List.length_drop, List.length_append, List.length_singleton, Bool.false_eq_true, if_false]; omega
theorem acts_of {w : World} {a : Option Addr} {rows : List (List Value)} {cap : Nat} (h : Tr.Rows [.int .i64, .int .u8, .int .i64] w a rows cap) (i : Nat) (hi : i < rows.length) :
    ∃ bb off, a = some ⟨bb, off, none⟩ ∧ ∃ d k am : Int, (I64 d ∧ (0 ≤ k ∧ k ≤ 255) ∧ I64 am) ∧ w.cell? ⟨bb, off + i * 3, none⟩ = some (.int .i64 d) ∧ w.cell? ⟨bb, off + i * 3 + 1, none⟩ = some (.int .u8 k) ∧ w.cell? ⟨bb, off + i * 3 + 2, none⟩ = some (.int .i64 am) := by
  obtain ⟨_, _, _, hc, hcell⟩ := h
  obtain ⟨bb, off, rfl, hx⟩ := hcell i _ (List.getElem?_eq_getElem hi)
  obtain ⟨v1, r1, e1, ⟨d, rfl, hd⟩, v2, r2, rfl, ⟨k, rfl, hk⟩, v3, r3, rfl, ⟨am, rfl, ham⟩, rfl⟩ := hc i _ (List.getElem?_eq_getElem hi)
  rw [e1] at hx
  refine ⟨bb, off, rfl, d, k, am, ⟨bounds_i64 hd, by simp [Lit.wf] at hk; have e1 : IntKind.u8.min = 0 := rfl; have e2 : IntKind.u8.max = 255 := rfl; omega, bounds_i64 ham⟩, ?_, ?_, ?_⟩
  · exact hx 0 _ rfl
  · exact hx 1 _ rfl
  · exact hx 2 _ rfl
theorem C_New_any (k : Int) (w : World) : Calls Try.prog 21 #[.int .i64 k] w fun e w' => ∃ p e8, e = .returned (.tuple #[.pointer p, .int .i64 e8]) ∧
    (((1 ≤ k ∧ k ≤ 64) ∧ e8 = 0 ∧ ∃ b, p = some b) ∨ ((k < 1 ∨ 64 < k) ∧ e8 = 2 ∧ p = none)) ∧ Below w.heap.size w w' := by
  by_cases h : 1 ≤ k ∧ k ≤ 64
  · refine (C_New_yes k h.1 h.2 w).mono ?_
    rintro e w' ⟨rfl, -, hb⟩
    exact ⟨_, _, rfl, .inl ⟨h, rfl, _, rfl⟩, hb⟩
  · refine (C_New_no k (by omega) w).mono ?_
    rintro e w' ⟨rfl, hb⟩
    exact ⟨_, _, rfl, .inr ⟨by omega, rfl, rfl⟩, hb⟩
/-- Shifts of the reference that stand in a block. -/
def RIs (w : World) (m : Nat) (x : Sh) : Prop :=
  ∃ a cap, w.heap[m]? = some (.cells #[.int .i64 x.keep, .int .i64 x.next, .bool x.op, .int .i64 x.now.n, .int .i64 x.now.s, .int .i64 x.now.v, .int .i64 x.now.r, .int .i64 x.now.i, .int .i64 x.now.o, .slice a x.cl.length cap] 74 (0, 0)) ∧
    Sl 69 6 w (.slice a x.cl.length cap) x.cl.length (tots x.cl)
theorem RIs.keep {w w' : World} {m : Nat} {x : Sh} (h : RIs w m x) (hb : Below w.heap.size w w') : RIs w' m x := by
  obtain ⟨a, cap, h1, h2⟩ := h
  exact ⟨a, cap, Tr.blk_keep hb h1, h2.keep hb⟩
theorem RIs.lt {w : World} {m : Nat} {x : Sh} (h : RIs w m x) : m < w.heap.size := by
  obtain ⟨a, cap, h1, h2⟩ := h
  exact Tr.blk_lt h1
theorem Sh.is_lt {w : World} {m : Nat} {x : Sh} (h : x.is w m) : m < w.heap.size := by
  obtain ⟨a, cap, h1, h2⟩ := h
  exact Tr.blk_lt h1
theorem RIs.chg {w w' : World} {b g T : Nat} {x : Sh} (h : RIs w g x) (hc : Chg b w w') (hne : g ≠ b) {cs : Array Value} {f : Nat × Nat} (hb : w.heap[b]? = some (.cells cs T f)) (hT : T ≠ 69) : RIs w' g x := by
  obtain ⟨a, cap, h1, h2⟩ := h
  exact ⟨a, cap, hc.keep h1 hne, Sl.chg h2 hc hb hT⟩
theorem Sh.is_chgT {w w' : World} {b b' T : Nat} {x : Sh} (h : x.is w b) (hc : Chg b' w w') (hne : b ≠ b') {cs : Array Value} {f : Nat × Nat} (hb : w.heap[b']? = some (.cells cs T f)) (hT : T ≠ 55) : x.is w' b := by
  obtain ⟨a, cap, h1, h2⟩ := h
  exact ⟨a, cap, hc.keep h1 hne, Sl.chg h2 hc hb hT⟩
/-- Behind the act. -/
def PMid (w : World) (b m c g : Nat) (x : Sh) (s17 : Value) (wx : World) : Prop :=
  s17 = .bool true ∧ x.is wx c ∧ RIs wx m x ∧ (∃ x' : Sh, x'.ok ∧ x'.is wx b ∧ RIs wx g x') ∧ Below w.heap.size w wx
theorem PMid.fin {w w7 W8 : World} {b m c g : Nat} {x x' : Sh} {a : Option Addr} {cap : Nat} {cs : Array Value} {f : Nat × Nat} {s17 : Value} (h17 : s17 = .bool true) (hc : Chg g w7 W8) (hg7 : w7.heap[g]? = some (.cells cs 74 f))
    (hok : x'.ok) (hb : x'.is w7 b) (hcc : x.is w7 c) (hr : RIs w7 m x)
    (hg8 : W8.heap[g]? = some (.cells #[.int .i64 x'.keep, .int .i64 x'.next, .bool x'.op, .int .i64 x'.now.n, .int .i64 x'.now.s, .int .i64 x'.now.v, .int .i64 x'.now.r, .int .i64 x'.now.i, .int .i64 x'.now.o, .slice a x'.cl.length cap] 74 (0, 0)))
    (hsl : Sl 69 6 w7 (.slice a x'.cl.length cap) x'.cl.length (tots x'.cl)) (h1 : b ≠ g) (h2 : c ≠ g) (h3 : m ≠ g) (hB : Below w.heap.size w w7) (h4 : w.heap.size ≤ g) : PMid w b m c g x s17 W8 :=
  ⟨h17, Sh.is_chgT hcc hc h2 hg7 (by decide), RIs.chg hr hc h3 hg7 (by decide), ⟨x', hok, Sh.is_chgT hb hc h1 hg7 (by decide), a, cap, hg8, Sl.chg hsl hc hg7 (by decide)⟩, hc.below hB h4 (Nat.le_refl _)⟩
theorem Sh.blk {w : World} {b : Nat} {x : Sh} (h : x.is w b) : ∃ cs, w.heap[b]? = some (.cells cs 104 (0, 0)) := by
  obtain ⟨a, cap, h1, h2⟩ := h
  exact ⟨_, h1⟩
theorem C_End_any (b : Nat) (x : Sh) (w : World) (h : x.is w b) (ho : x.ok) :
    Calls Try.prog 24 #[.pointer (some ⟨b, 0, none⟩)] w fun e w' =>
    e = .returned (.tuple #[.int .i64 x.end_.2.1, x.end_.2.2.1.val, .int .i64 x.end_.2.2.2]) ∧ x.end_.1.is w' b ∧ Chg b w w' := by
  obtain ⟨keep, next, op, now, cl⟩ := x
  cases op with
  | true => exact C_End_yes b keep next now cl w h ho
  | false =>
    refine (C_End_no b keep next now cl w h).mono ?_
    rintro e w' ⟨rfl, hb⟩
    exact ⟨rfl, Sh.is_keep h hb, Chg.of_below hb⟩
theorem C_REnd_any (x : Sh) (a : Option Addr) (cap : Nat) (w : World) (hl : Sl 69 6 w (.slice a x.cl.length cap) x.cl.length (tots x.cl)) (ho : x.ok) :
    Calls Try.prog 32 #[RV x (.slice a x.cl.length cap)] w fun e w' =>
      (∃ a' cap', e = .returned (.tuple #[RV x.end_.1 (.slice a' x.end_.1.cl.length cap'), .int .i64 x.end_.2.1, x.end_.2.2.1.val, .int .i64 x.end_.2.2.2]) ∧
        Sl 69 6 w' (.slice a' x.end_.1.cl.length cap') x.end_.1.cl.length (tots x.end_.1.cl)) ∧ Below w.heap.size w w' := by
  obtain ⟨keep, next, op, now, cl⟩ := x
  cases op with
  | true => exact C_REnd_yes keep next now cl a cap w hl ho
  | false =>
    refine (C_REnd_no keep next now cl a cl.length cap w).mono ?_
    rintro e w' ⟨rfl, hb⟩
    exact ⟨⟨a, cap, rfl, Sl.keep hb hl⟩, hb⟩
theorem Sh.end_ok {x : Sh} (h : x.ok) : x.end_.1.ok := by
  obtain ⟨keep, next, op, now, cl⟩ := x
  cases op with
  | true => exact Sh.stop_ok h
  | false => exact h
theorem below_tr {B : Nat} {w w1 w2 : World} (h : Below B w w1) (k : Below B w1 w2) : Below B w w2 :=
  ⟨k.os.trans h.os, k.tape.trans h.tape, k.output.trans h.output, Nat.le_trans h.size k.size, fun j hj => by rw [k.block j hj, h.block j hj]⟩
end Go.Proofs.Ytjkfkgpdlflbhaa

/- What both readers say of all bytes. -/
import Derived.Test.YtjkfkgpdlflbhaaTrShNil2
import Derived.Test.YtjkfkgpdlflbhaaTrR26f
import Derived.Test.YtjkfkgpdlflbhaaTrPlaysPure
import Derived.Test.YtjkfkgpdlflbhaaTrSayShiftReads
namespace Go.Proofs.Ytjkfkgpdlflbhaa
open Go.RowKit Go.Sort
open Tr (Sl Chg)
set_option linter.unusedVariables false
set_option linter.unusedSimpArgs false

theorem shL_len (keep : Int) (l : List UInt8) : (shL keep l).cl.length = bL l 6 := by simp [shL]
/-- The reference, of good bytes. -/
theorem C_R26_good (l : List UInt8) (keep : Int) (k0 : 1 ≤ keep) (k1 : keep ≤ 64) (hlen : l.length ≤ 1000000) (h : goodL keep l) (w : World) : Calls Try.prog 41 #[.string ⟨l.toArray⟩, .int .i64 keep] w fun e w' =>
    (∃ a cap, e = .returned (.tuple #[RV (shL keep l) (.slice a (shL keep l).cl.length cap), .int .i64 (7 + 44 * ((bL l 6 : Int) + bL l 5)), .int .i64 0]) ∧ Sl 69 6 w' (.slice a (shL keep l).cl.length cap) (shL keep l).cl.length (tots (shL keep l).cl)) ∧ Below w.heap.size w w' := by
  have h7 := h.1
  have h1 := h.2.1
  unfold rdBad at h1
  refine (C_R26Read_main l keep k0 k1 w h7 (by omega) hlen).mono ?_
  rintro e w' ⟨⟨_, a, cap, he, hs⟩ | ⟨hn, _⟩, hb⟩
  · rw [shL_len]
    exact ⟨⟨a, cap, he, hs⟩, hb⟩
  · exact absurd h hn
theorem C_R26_bad (l : List UInt8) (keep : Int) (k0 : 1 ≤ keep) (k1 : keep ≤ 64) (hlen : l.length ≤ 1000000) (h : ¬ goodL keep l) (w : World) : Calls Try.prog 41 #[.string ⟨l.toArray⟩, .int .i64 keep] w fun e w' =>
    e = .returned (.tuple #[.agg #[.int .i64 0, .int .i64 0, .bool false, .int .i64 0, .int .i64 0, .int .i64 0, .int .i64 0, .int .i64 0, .int .i64 0, .slice none 0 0], .int .i64 0, .int .i64 4]) ∧ Below w.heap.size w w' := by
  by_cases hb : l.length < 7 ∨ 1 < bL l 5
  · exact C_R26Read_no l keep k0 k1 w hb
  · refine (C_R26Read_main l keep k0 k1 w (by omega) (by omega) hlen).mono ?_
    rintro e w' ⟨⟨hg, _⟩ | ⟨_, he⟩, hb⟩
    · exact absurd hg h
    · exact ⟨he, hb⟩
theorem C_Sh_good (g : Nat) (l : List UInt8) (keep : Int) (k0 : 1 ≤ keep) (k1 : keep ≤ 64) (h : goodL keep l) (w : World) (hr : Rd w g (l, false)) : Calls Try.prog 40 #[.pointer (some ⟨g, 0, none⟩), .int .i64 keep] w fun e w' =>
    (∃ b, e = .returned (.tuple #[.pointer (some ⟨b, 0, none⟩), .int .i64 0]) ∧ (shL keep l).is w' b ∧ Rd w' g (l.drop (7 + 44 * (bL l 6 + bL l 5)), false)) ∧ Chg g w w' := by
  refine (C_ShRead g keep (l, false) w hr k0 k1).mono ?_
  rintro e w' ⟨⟨_, b, he, hs, hr'⟩ | ⟨hn, _⟩, hc⟩
  · obtain ⟨e1, e2⟩ := sh_eq keep l h
    rw [e1] at hs
    rw [e2] at hr'
    exact ⟨⟨b, he, hs, hr'⟩, hc⟩
  · exact absurd ((good_iff keep l).2 h) hn
theorem C_Sh_bad (g : Nat) (l : List UInt8) (keep : Int) (k0 : 1 ≤ keep) (k1 : keep ≤ 64) (h : ¬ goodL keep l) (w : World) (hr : Rd w g (l, false)) : Calls Try.prog 40 #[.pointer (some ⟨g, 0, none⟩), .int .i64 keep] w fun e w' =>
    e = .returned (.tuple #[.pointer none, .int .i64 4]) ∧ Chg g w w' := by
  refine (C_ShRead g keep (l, false) w hr k0 k1).mono ?_
  rintro e w' ⟨⟨hg, _⟩ | ⟨_, he⟩, hc⟩
  · exact absurd ((good_iff keep l).1 hg) h
  · exact ⟨he, hc⟩
theorem SW_len (x : Sh) (h : x.ok) : 7 ≤ (SW x).length ∧ (SW x).length ≤ 3000 := by
  obtain ⟨⟨h1, h2⟩, -, -, -, h6, -⟩ := h
  unfold SW SWh
  simp only [List.length_append, TWs_len, BE_len _ 5 (by omega), BE_len _ 1 (by omega)]
  split
  · rw [TW_len]; omega
  · simp; omega
end Go.Proofs.Ytjkfkgpdlflbhaa

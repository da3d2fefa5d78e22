/- Readings of arguments at flat types (numbers, bools, strings, structs and arrays of these; slices of such), opened: what the cells hold. No program in sight. -/
import Derived.WalkKit
import Derived.ProofKit
import Derived.OpenShut
import Derived.ShutString
import Derived.ChangeOld
import Derived.Below
import Derived.SizedLaws
import Derived.Deep.Slices
namespace Go.Proofs.Yteakfibolfapiaa.Tr
open Go.ChangeShapes Go.WideShapes Go.ChangeAt Go.RowKit Go.Deep
set_option linter.unusedVariables false
set_option linter.unusedSimpArgs false

/-- What one cell of a flat type holds. -/
inductive CK where
  | int (k : IntKind)
  | bool
  | str
  deriving DecidableEq

def CK.ok : CK → Value → Prop
  | .int k, v => ∃ n, v = .int k n ∧ (Lit.int k n).wf = true
  | .bool, v => ∃ b, v = .bool b
  | .str, v => ∃ s : ByteArray, v = .string s ∧ s.size ≤ maxLen

/-- A type's cells, where it is flat. -/
def flat (P : Program) : Nat → TypeId → Option (List CK)
  | 0, _ => none
  | n + 1, t =>
    match P.underlying t with
    | some .bool => some [.bool]
    | some (.int k) => some [.int k]
    | some .string => some [.str]
    | some (.struct fs) =>
      (fs.toList.mapM fun f => (flat P n f.type).bind fun l => if l.length = P.cellsOf f.type then some (f.offset, l) else none).bind fun ls =>
        if (ls.foldl (fun (a : Option Nat) x => a.bind fun o => if x.1 = o then some (o + x.2.length) else none) (some 0)) = some (P.cellsOf t) then some (ls.flatMap (·.2)) else none
    | some (.array m e) => (flat P n e).bind fun l => if l.length = P.cellsOf e ∧ m * P.cellsOf e = P.cellsOf t then some (List.replicate m l).flatten else none
    | _ => none

/-- Each cell is of its kind. -/
def Cells : List CK → List Value → Prop
  | [], vs => vs = []
  | k :: ks, vs => ∃ v r, vs = v :: r ∧ k.ok v ∧ Cells ks r

theorem Cells.append {a b : List CK} {x y : List Value} (h : Cells a x) (g : Cells b y) : Cells (a ++ b) (x ++ y) := by
  induction a generalizing x with
  | nil => cases h; exact g
  | cons k ks ih =>
    obtain ⟨v, r, rfl, hv, hr⟩ := h
    exact ⟨v, r ++ y, rfl, hv, ih hr⟩

theorem Cells.length {a : List CK} {x : List Value} (h : Cells a x) : x.length = a.length := by
  induction a generalizing x with
  | nil => cases h; rfl
  | cons k ks ih =>
    obtain ⟨v, r, rfl, hv, hr⟩ := h
    simp [ih hr]

section
variable {H : Type} {enc : TypeId × Value → H} {P : Program} {w : World} {base : Nat} {spare : Nat → Bool} {held : Bool}

private theorem struct_step {n : Nat} {cs : List Value}
    (ih : ∀ t ks cs fuel x, flat P n t = some ks → DataW.trod enc P w base spare held fuel t cs = some x → Cells ks cs)
    (fs : List Field) : ∀ (o e : Nat) (ls : List (Nat × List CK)),
    (fs.mapM fun f => (flat P n f.type).bind fun l => if l.length = P.cellsOf f.type then some (f.offset, l) else none) = some ls →
    (ls.foldl (fun (a : Option Nat) x => a.bind fun o => if x.1 = o then some (o + x.2.length) else none) (some o)) = some e →
    (∀ f ∈ fs, ∃ fuel x, DataW.trod enc P w base spare held fuel f.type ((cs.drop f.offset).take (P.cellsOf f.type)) = some x) →
    o ≤ e ∧ Cells (ls.flatMap (·.2)) ((cs.drop o).take (e - o)) := by
  induction fs with
  | nil =>
    intro o e ls hl hf _
    simp at hl
    subst hl
    simp at hf
    subst hf
    simp [Cells]
  | cons f fs ihf =>
    intro o e ls hl hf hx
    rw [List.mapM_cons] at hl
    simp only [Option.bind_eq_bind, Option.bind_eq_some_iff, Option.pure_def, Option.some.injEq] at hl
    obtain ⟨p, ⟨l, hfl, hp⟩, ls', hls', rfl⟩ := hl
    split at hp
    case isFalse => cases hp
    case isTrue hlen =>
      cases hp
      simp only [List.foldl_cons, Option.bind_some] at hf
      by_cases ho : f.offset = o
      · rw [if_pos ho] at hf
        subst ho
        have hx' : ∀ g ∈ fs, ∃ fuel x, DataW.trod enc P w base spare held fuel g.type ((cs.drop g.offset).take (P.cellsOf g.type)) = some x := fun g hg => hx g (List.mem_cons_of_mem _ hg)
        obtain ⟨h1, h2⟩ := ihf (f.offset + l.length) e ls' hls' hf hx'
        obtain ⟨fuel, x, hd⟩ := hx f List.mem_cons_self
        have hc := ih _ _ _ _ _ hfl hd
        refine ⟨by omega, ?_⟩
        simp only [List.flatMap_cons]
        have : (cs.drop f.offset).take (e - f.offset) = (cs.drop f.offset).take (P.cellsOf f.type) ++ ((cs.drop (f.offset + l.length)).take (e - (f.offset + l.length))) := by
          rw [show e - f.offset = l.length + (e - (f.offset + l.length)) by omega, List.take_add, ← hlen, List.drop_drop]
        rw [this]
        exact hc.append h2
      · rw [if_neg ho] at hf
        have : ∀ (l : List (Nat × List CK)), (l.foldl (fun (a : Option Nat) x => a.bind fun o => if x.1 = o then some (o + x.2.length) else none) none) = none := by
          intro l; induction l with
          | nil => rfl
          | cons a l ih => simpa using ih
        rw [this] at hf
        cases hf

private theorem array_step {ks : List CK} {c : Nat} {cs : List Value} (hc : ks.length = c) : ∀ (m : Nat), cs.length = m * c →
    (∀ i, i < m → Cells ks ((cs.drop (i * c)).take c)) → Cells (List.replicate m ks).flatten cs := by
  intro m
  induction m generalizing cs with
  | zero => intro hl _; simp at hl; subst hl; simp [Cells]
  | succ m ih =>
    intro hl h
    have h0 := h 0 (by omega)
    simp only [Nat.zero_mul, List.drop_zero] at h0
    rw [List.replicate_succ, List.flatten_cons]
    have e : cs = cs.take c ++ cs.drop c := (List.take_append_drop c cs).symm
    rw [e]
    refine h0.append (ih (by rw [List.length_drop, hl]; rw [Nat.succ_mul]; omega) fun i hi => ?_)
    have := h (i + 1) (by omega)
    rw [List.drop_drop]
    rwa [show c + i * c = (i + 1) * c by rw [Nat.succ_mul]; omega]

/-- WHAT READS AT A FLAT TYPE HOLDS CELLS OF ITS KINDS. -/
theorem cells_of_trod (n : Nat) : ∀ (t : TypeId) (ks : List CK) (cs : List Value) (fuel : Nat) (x : DataW H × List MemPlace), flat P n t = some ks →
    DataW.trod enc P w base spare held fuel t cs = some x → Cells ks cs := by
  induction n with
  | zero => intro t ks cs fuel x h; cases h
  | succ n ih =>
    intro t ks cs fuel x hf h
    unfold flat at hf
    cases fuel with
    | zero => simp [DataW.trod] at h
    | succ fuel =>
    split at hf
    · rename_i hu
      cases hf
      simp only [DataW.trod, hu] at h
      split at h <;> simp_all [Cells, CK.ok]
    · rename_i k hu
      cases hf
      simp only [DataW.trod, hu] at h
      split at h <;> simp_all [Cells, CK.ok]
    · rename_i hu
      cases hf
      simp only [DataW.trod, hu] at h
      split at h <;> simp_all [Cells, CK.ok]
    · rename_i fs hu
      rw [Option.bind_eq_some_iff] at hf
      obtain ⟨ls, hls, hf⟩ := hf
      split at hf
      case isFalse => cases hf
      case isTrue hfold =>
        cases hf
        obtain ⟨xs, m, _, _, hlen, hxs, hfl⟩ := DataW.trod_struct hu h
        have := struct_step (cs := cs) ih fs.toList 0 (P.cellsOf t) ls hls hfold (fun f hfm => by
          obtain ⟨i, hi⟩ := List.getElem?_of_mem hfm
          have hi' : fs[i]? = some f := by rw [← Array.getElem?_toList]; exact hi
          have hlt : i < fs.size := by
            rcases Nat.lt_or_ge i fs.size with g | g
            · exact g
            · rw [Array.getElem?_eq_none g] at hi'; cases hi'
          refine ⟨m, xs[i]'(by omega), ?_⟩
          rw [hfl i f hi', List.getElem?_eq_getElem])
        have h2 := this.2
        rw [List.drop_zero, Nat.sub_zero, ← hlen, List.take_length] at h2
        exact h2
    · rename_i m e hu
      rw [Option.bind_eq_some_iff] at hf
      obtain ⟨l, hl, hf⟩ := hf
      split at hf
      case isFalse => cases hf
      case isTrue hcc =>
        cases hf
        obtain ⟨xs, m', _, _, hlen, hxs, hfl⟩ := DataW.trod_array hu h
        refine array_step hcc.1 m (by rw [hlen, hcc.2]) fun i hi => ?_
        have := hfl i hi
        rw [List.getElem?_eq_getElem (by omega)] at this
        exact ih _ _ _ _ _ hl this
    · cases hf

/-- A STRUCT OR AN ARRAY BY VALUE. -/
theorem open_flat_struct {r : Reach} {b0 n : Nat} {t : TypeId} {fs : Array Field} {ks : List CK} {v : Value} {d : DataW H} {p : List MemPlace}
    (hs : P.underlying t = some (.struct fs)) (hk : flat P n t = some ks) (hv : Value.okWide P w r b0 t v) (h : DataW.Trod enc P w base spare held t v d p) :
    ∃ cs : List Value, v = .agg cs.toArray ∧ Cells ks cs := by
  obtain ⟨cs, rfl, _⟩ := okWide_struct hs hv
  obtain ⟨fuel, hf⟩ := h
  exact ⟨cs.toList, by simp, by simpa [Value.cells] using cells_of_trod n t ks _ fuel _ hk hf⟩

theorem okWide_array {r : Reach} {b0 m : Nat} {t e : TypeId} {v : Value} (ht : P.underlying t = some (.array m e)) (h : Value.okWide P w r b0 t v) : ∃ cs, v = .agg cs := by
  simp only [Value.okWide, ht] at h
  obtain ⟨cs, h1, _⟩ := h
  exact ⟨cs, h1⟩

theorem open_flat_array {r : Reach} {b0 n m : Nat} {t e : TypeId} {ks : List CK} {v : Value} {d : DataW H} {p : List MemPlace}
    (hs : P.underlying t = some (.array m e)) (hk : flat P n t = some ks) (hv : Value.okWide P w r b0 t v) (h : DataW.Trod enc P w base spare held t v d p) :
    ∃ cs : List Value, v = .agg cs.toArray ∧ Cells ks cs := by
  obtain ⟨cs, rfl⟩ := okWide_array hs hv
  obtain ⟨fuel, hf⟩ := h
  exact ⟨cs.toList, by simp, by simpa [Value.cells] using cells_of_trod n t ks _ fuel _ hk hf⟩

/-- A slice of numbers: its numbers. -/
theorem rows_ints {k : IntKind} : ∀ (rows : List (List Value)), (∀ (i : Nat) (r : List Value), rows[i]? = some r → Cells [.int k] r) →
    ∃ xs : List Int, rows = xs.map (fun x => [.int k x]) ∧ ∀ x ∈ xs, (Lit.int k x).wf = true := by
  intro rows
  induction rows with
  | nil => intro _; exact ⟨[], rfl, fun x h => by cases h⟩
  | cons r rows ih =>
    intro h
    obtain ⟨xs, e, hw⟩ := ih (fun i s hs => h (i + 1) s (by simpa using hs))
    obtain ⟨v, r', rfl, ⟨n, rfl, wn⟩, rfl⟩ := h 0 r rfl
    exact ⟨n :: xs, by rw [e]; rfl, fun x hx => by rcases List.mem_cons.1 hx with rfl | hx; exact wn; exact hw x hx⟩

theorem Addr.add_eq (a : Addr) (n : Nat) (h : a.spot = none) : a.add n = ⟨a.block, a.off + n, none⟩ := by
  unfold Addr.add
  split
  · rename_i h0; subst h0; cases a; simp_all
  · simp

/-- What is known of a slice of flat elements: its rows of cells. -/
def Rows (ks : List CK) (w : World) (a : Option Addr) (rows : List (List Value)) (cap : Nat) : Prop :=
  rows.length ≤ cap ∧ cap ≤ maxLen ∧ (a = none → rows = [] ∧ cap = 0) ∧
      (∀ (i : Nat) (r : List Value), rows[i]? = some r → Cells ks r) ∧
      ∀ (i : Nat) (r : List Value), rows[i]? = some r → ∃ b off, a = some ⟨b, off, none⟩ ∧ ∀ (j : Nat) (x : Value), r[j]? = some x → w.cell? ⟨b, off + (i * ks.length + j), none⟩ = some x

theorem Rows.ints {k : IntKind} {w : World} {a : Option Addr} {rows : List (List Value)} {cap : Nat} (h : Rows [.int k] w a rows cap) :
    ∃ xs : List Int, rows = xs.map (fun x => [.int k x]) ∧ (∀ x ∈ xs, (Lit.int k x).wf = true) ∧
      (0 < xs.length → ∃ b off, a = some ⟨b, off, none⟩ ∧ ∀ j, j < xs.length → w.cell? ⟨b, off + j, none⟩ = some (.int k (xs.getD j 0))) := by
  obtain ⟨_, _, _, hc, hcell⟩ := h
  obtain ⟨xs, rfl, hw⟩ := rows_ints rows hc
  refine ⟨xs, rfl, hw, fun h0 => ?_⟩
  obtain ⟨b, off, rfl, _⟩ := hcell 0 _ (List.getElem?_eq_getElem (by simpa using h0))
  refine ⟨b, off, rfl, fun j hj => ?_⟩
  obtain ⟨b', off', e, hx⟩ := hcell j [.int k (xs.getD j 0)] (by simp [List.getD, List.getElem?_eq_getElem hj])
  cases e
  have := hx 0 _ rfl
  simpa using this

/-- A SLICE OF FLAT ELEMENTS (a nil or an empty one of whatever place has no rows). -/
theorem open_flat_slice {r : Reach} {b0 n : Nat} {t e : TypeId} {ks : List CK} {v : Value} {d : DataW H} {p : List MemPlace}
    (hs : P.underlying t = some (.slice e)) (hk : flat P n e = some ks) (hc : P.cellsOf e = ks.length) (h0 : 0 < ks.length) (hv : Value.okWide P w r b0 t v)
    (h : DataW.Trod enc P w base spare held t v d p) :
    ∃ (a : Option Addr) (rows : List (List Value)) (cap : Nat), v = .slice a rows.length cap ∧ Rows ks w a rows cap := by
  obtain ⟨a, len, cap, rfl⟩ := okWide_slice hs hv
  obtain ⟨fuel, hf⟩ := h
  rcases open_slice hs (by simpa [Value.cells] using hf) with ⟨hcs, hx⟩ | ⟨a', len', cap', m, n', D, Pl, hcs, hb, hl, hm, hmm, hx, hcell⟩
  · simp at hcs
    obtain ⟨rfl, rfl, rfl⟩ := hcs
    exact ⟨none, [], 0, rfl, Nat.le_refl _, Nat.zero_le _, fun _ => ⟨rfl, rfl⟩, fun i r h => by simp at h, fun i r h => by simp at h⟩
  · simp at hcs
    obtain ⟨rfl, rfl, rfl⟩ := hcs
    have hlm : len ≤ m := by rw [hmm]; split <;> omega
    obtain ⟨R, hR⟩ := choose_lt (n := len) (α := List Value) (p := fun i cs' => w.cells? base (a'.add (i * P.cellsOf e)) (P.cellsOf e) = some cs' ∧ Cells ks cs') (fun i hi => by
      obtain ⟨cs', h1, h2⟩ := hcell i (by omega)
      exact ⟨cs', h1, cells_of_trod n e ks _ _ _ hk h2⟩)
    refine ⟨some a', (List.range len).map R, cap, by simp, by simpa using hl, hm, (fun h => by cases h), ?_, ?_⟩
    · intro i r hr
      simp only [List.getElem?_map, List.getElem?_range, Option.map_eq_some_iff] at hr
      obtain ⟨i', hi', rfl⟩ := hr
      rw [List.getElem?_eq_some_iff] at hi'
      obtain ⟨hlt, e'⟩ := hi'
      simp at e' hlt
      subst e'
      exact (hR _ hlt).2
    · intro i r hr
      simp only [List.getElem?_map, List.getElem?_range, Option.map_eq_some_iff] at hr
      obtain ⟨i', hi', rfl⟩ := hr
      rw [List.getElem?_eq_some_iff] at hi'
      obtain ⟨hlt, e'⟩ := hi'
      simp at e' hlt
      subst e'
      obtain ⟨h1, h2⟩ := hR i hlt
      obtain ⟨_, hlen, hget⟩ := World.cells?_some h1
      have hsp : a'.spot = none := by
        have hc0 := hget 0 (by omega)
        cases hs' : a'.spot with
        | none => rfl
        | some s =>
          exfalso
          have h00 := (hR 0 (by omega)).1
          obtain ⟨_, hlen0, hget0⟩ := World.cells?_some h00
          have := hget0 0 (by omega)
          simp only [Nat.zero_mul] at this
          rw [show (a'.add 0).add 0 = a' by simp [Addr.add]] at this
          unfold World.cell? at this
          rw [hs'] at this
          rw [List.getElem?_eq_getElem (by omega)] at this
          split at this <;> simp at this
      refine ⟨a'.block, a'.off, by cases a'; simp_all, fun j x hj => ?_⟩
      have hjl : j < (R i).length := by
        rcases Nat.lt_or_ge j (R i).length with g | g
        · exact g
        · rw [List.getElem?_eq_none g] at hj; cases hj
      have := hget j (by omega)
      rw [Addr.add_eq _ _ hsp, Addr.add_eq _ _ rfl] at this
      simp only [hc, Nat.add_assoc] at this
      rw [this, hj]
end
end Go.Proofs.Yteakfibolfapiaa.Tr

/- The executor is sound: operations without memory. -/
import Derived.Test.YteakfibolfapiaaTrAb3
namespace Go.Proofs.Yteakfibolfapiaa.Ab
open Go.RowKit Go.Sort
set_option linter.unusedVariables false
set_option linter.unusedSimpArgs false

section
variable {P : Program} {T : Nat → TI} {ρ : Env} {w : World} {M : Nat → Prop}
/-- What an operation gives: a value, and the world as it is. -/
def Gives (P : Program) (ρ : Env) (w : World) (M : Nat → Prop) (K : AV → Prop) (s : Sem Value) : Prop := ∃ av v, K av ∧ RelV ρ w M av v ∧ s.run P w = .ok v w
/-- What an operation gives whichever the world. -/
def GivesU (P : Program) (ρ : Env) (w : World) (M : Nat → Prop) (U : World → Prop) (K : AV → Prop) (s : Sem Value) : Prop := ∃ av v, K av ∧ RelV ρ w M av v ∧ ∀ u, U u → s.run P u = .ok v u
abbrev GivesA (P : Program) (ρ : Env) (w : World) (M : Nat → Prop) (K : AV → Prop) (s : Sem Value) : Prop := GivesU P ρ w M (fun _ => True) K s
theorem GivesU.gives {U : World → Prop} {K : AV → Prop} {s : Sem Value} (h : GivesU P ρ w M U K s) (hu : U w) : Gives P ρ w M K s := let ⟨av, v, h1, h2, h3⟩ := h; ⟨av, v, h1, h2, h3 w hu⟩
theorem GivesU.mono {U U' : World → Prop} {K : AV → Prop} {s : Sem Value} (h : GivesU P ρ w M U K s) (hu : ∀ u, U' u → U u) : GivesU P ρ w M U' K s := let ⟨av, v, h1, h2, h3⟩ := h; ⟨av, v, h1, h2, fun u h => h3 u (hu u h)⟩
theorem bif_true {c : Bool} {a b : Prop} (h : bif c then a else b) (hb : ¬ b) : c = true ∧ a := by
  cases c
  · exact absurd h hb
  · exact ⟨rfl, h⟩
theorem relInt {k : IntKind} {n : Int} {v : Value} (h : RelV ρ w M (.d (.int k n)) v) : v = .int k n := h
theorem relStr {s : List UInt8} {v : Value} (h : RelV ρ w M (.d (.str s)) v) : v = .string ⟨s.toArray⟩ := h
theorem relBool {b : Bool} {v : Value} (h : RelV ρ w M (.d (.bool b)) v) : v = .bool b := h

theorem toList_mk (s : List UInt8) : (ByteArray.mk s.toArray).toList = s := by
  rw [ByteArray.toList_eq]
theorem bin_gives {K : AV → Prop} {op : BinOp} {x y : AV} {vx vy : Value} (hx : RelV ρ w M x vx) (hy : RelV ρ w M y vy) (h : binA real op x y K) (t : Nat) (X Y : Operand) :
    GivesA P ρ w M K (do eqGuard op t X Y vx vy; binOp op t vx vy) := by
  unfold binA at h
  split at h
  · rename_i k a k' b
    rw [relInt hx, relInt hy]
    cases op
    all_goals
      dsimp only at h
    case shl =>
      obtain ⟨h0, h⟩ := h
      refine ⟨_, _, h, rfl, fun u _ => ?_⟩
      have h0 : 0 ≤ b := by simpa [real, rCmp] using h0
      have h1 : ¬ b < 0 := by omega
      simp [eqGuard, binOp, Op.shift, h1, real, rBin]
    case shr =>
      obtain ⟨h0, h⟩ := h
      refine ⟨_, _, h, rfl, fun u _ => ?_⟩
      have h0 : 0 ≤ b := by simpa [real, rCmp] using h0
      have h1 : ¬ b < 0 := by omega
      simp [eqGuard, binOp, Op.shift, h1, real, rBin]
    case quo =>
      obtain ⟨e, h0, h1⟩ := bif_true h not_false
      clear h
      have e : k = k' := by simpa using e
      subst e
      refine ⟨_, _, h1, rfl, fun u _ => ?_⟩
      have h0 : b ≠ 0 := by simpa [real, rCmp] using h0
      simp [eqGuard, binOp, Op.intDiv, h0, real, rBin]
    case rem =>
      obtain ⟨e, h0, h1⟩ := bif_true h not_false
      clear h
      have e : k = k' := by simpa using e
      subst e
      refine ⟨_, _, h1, rfl, fun u _ => ?_⟩
      have h0 : b ≠ 0 := by simpa [real, rCmp] using h0
      simp [eqGuard, binOp, Op.intDiv, h0, real, rBin]
    all_goals
      obtain ⟨e, h1⟩ := bif_true h not_false
      clear h
      have e : k = k' := by simpa using e
      subst e
      refine ⟨_, _, h1, rfl, fun u _ => ?_⟩
      simp [eqGuard, binOp, Op.intArith, Op.intBits, Op.intCmp, real, rBin, rCmp]
  · rename_i a b
    rw [relStr hx, relStr hy]
    cases op
    all_goals
      dsimp only at h
    case add =>
      obtain ⟨h0, h⟩ := h
      refine ⟨_, _, h, rfl, fun u _ => ?_⟩
      have h0 : (a.length + b.length : Int) ≤ 9223372036854775807 := by simpa [real] using h0
      have hm : IntKind.i64.max = 9223372036854775807 := by decide
      have h1 : ¬ ((((ByteArray.mk a.toArray).size + (ByteArray.mk b.toArray).size : Nat) : Int) > IntKind.i64.max) := by
        rw [hm]; simp only [ByteArray.size, List.size_toArray]; omega
      have e : (ByteArray.mk a.toArray) ++ (ByteArray.mk b.toArray) = ⟨(a ++ b).toArray⟩ := by
        apply ByteArray.ext; simp
      simp only [eqGuard, binOp, Op.stringOp]
      rw [if_neg h1, e]
      simp [real]
    all_goals
      first
        | exact h.elim
        | (refine ⟨_, _, h, rfl, fun u _ => ?_⟩
           simp [eqGuard, binOp, Op.stringOp, real, rScmp, toList_mk])
  · exact h.elim
theorem un_gives {K : AV → Prop} {op : UnOp} {x : AV} {vx : Value} (hx : RelV ρ w M x vx) (h : unA real op x K) : GivesA P ρ w M K (Op.unary op vx) := by
  unfold unA at h
  split at h
  · rw [relInt hx]; exact ⟨_, _, h, rfl, fun u _ => by simp [Op.unary, Op.intArith, real]⟩
  · rw [relInt hx]; exact ⟨_, _, h, rfl, fun u _ => by simp [Op.unary, Op.intBits, real]⟩
  · rw [relBool hx]; exact ⟨_, _, h, rfl, fun u _ => by simp [Op.unary, real]⟩
  · exact h.elim
theorem pick_gives {K : AV → Prop} {c x y : AV} {vc vx vy : Value} (hc : RelV ρ w M c vc) (hx : RelV ρ w M x vx) (hy : RelV ρ w M y vy) (h : pickA real c x y K) :
    GivesA P ρ w M K (do pure (if ← asBool vc then vx else vy)) := by
  unfold pickA at h
  split at h
  · rename_i b
    rw [relBool hc]
    split at h
    · rw [relBool hx, relBool hy]
      refine ⟨_, _, h, rfl, fun u _ => ?_⟩
      cases b <;> simp [asBool, real]
    · rename_i k x k' y
      obtain ⟨e, h1⟩ := bif_true h not_false
      clear h
      have e : k = k' := by simpa using e
      subst e
      rw [relInt hx, relInt hy]
      refine ⟨_, _, h1, rfl, fun u _ => ?_⟩
      cases b <;> simp [asBool, real]
    · rw [relStr hx, relStr hy]
      refine ⟨_, _, h, rfl, fun u _ => ?_⟩
      cases b <;> simp [asBool, real]
    · cases b
      · exact ⟨_, _, h, hy, fun u _ => by simp [asBool]⟩
      · exact ⟨_, _, h, hx, fun u _ => by simp [asBool]⟩
  · exact h.elim
theorem extract_gives {K : AV → Prop} {t : AV} {vt : Value} {i : Nat} (ht : RelV ρ w M t vt) (h : extractA t i K) :
    GivesA P ρ w M K (Instr.extract vt i) := by
  unfold extractA at h
  cases t with
  | tup l =>
    obtain ⟨cs, rfl, hl⟩ := ht
    cases hv : l[i]? with
    | none => simp [hv] at h
    | some v =>
      simp only [hv] at h
      obtain ⟨x, hx, hr⟩ := RelVs.get _ _ hl i v hv
      refine ⟨v, x, h, hr, fun u _ => ?_⟩
      have : cs[i]? = some x := by simpa using hx
      simp [Instr.extract, this]
  | _ => exact h.elim
theorem dsOf_map : ∀ (l : List AV) (x : List D), dsOf l = some x → l = x.map .d
  | [], x, h => by simp [dsOf] at h; subst h; rfl
  | .d y :: r, x, h => by
    simp only [dsOf] at h
    cases hr : dsOf r with
    | none => simp [hr] at h
    | some z =>
      simp [hr] at h
      subst h
      rw [dsOf_map r z hr]
      rfl
  | .ptr _ _ :: r, x, h => by simp [dsOf] at h
  | .iptr _ _ _ :: r, x, h => by simp [dsOf] at h
  | .rptr _ _ _ _ :: r, x, h => by simp [dsOf] at h
  | .aptr _ _ _ _ _ _ :: r, x, h => by simp [dsOf] at h
  | .sl _ :: r, x, h => by simp [dsOf] at h
  | .map _ :: r, x, h => by simp [dsOf] at h
  | .iter _ :: r, x, h => by simp [dsOf] at h
  | .agg _ :: r, x, h => by simp [dsOf] at h
  | .tup _ :: r, x, h => by simp [dsOf] at h
  | .fn _ _ :: r, x, h => by simp [dsOf] at h
  | .ifc _ _ :: r, x, h => by simp [dsOf] at h
  | .top :: r, x, h => by simp [dsOf] at h
  | .raw _ :: r, x, h => by simp [dsOf] at h
theorem rels_ds : ∀ (l : List D) (vs : List Value), RelVs ρ w M (l.map .d) vs → RelDs w M l vs
  | [], vs, r => r
  | d :: ds, vs, ⟨v, rest, hv, r1, r2⟩ => ⟨v, rest, hv, r1, rels_ds ds rest r2⟩
theorem mkAgg_rel {l : List AV} {cs : Array Value} (h : RelVs ρ w M l cs.toList) : RelV ρ w M (mkAgg l) (.agg cs) := by
  unfold mkAgg
  cases hd : dsOf l with
  | none => exact ⟨cs, rfl, h⟩
  | some x =>
    rw [dsOf_map l x hd] at h
    exact ⟨cs, rfl, rels_ds x _ h⟩
theorem aggOf_rel {x : AV} {v : Value} {l : List AV} (h : RelV ρ w M x v) (hl : aggOf x = some l) : ∃ cs, v = .agg cs ∧ RelVs ρ w M l cs.toList := by
  unfold aggOf at hl
  split at hl
  · cases hl; exact h
  · cases hl
    obtain ⟨cs, hv, r⟩ := h
    exact ⟨cs, hv, RelDs.rels _ _ r⟩
  · cases hl
/-- A cell's value is no struct. -/
def scalV : AV → Bool
  | .agg _ => false
  | .d (.agg _) => false
  | .top => false
  | .tup _ => false
  | _ => true
theorem cells_rel {x : AV} {v : Value} (h : RelV ρ w M x v) (ht : x ≠ .top) : RelVs ρ w M (cellsOf x) v.cells.toList := by
  unfold cellsOf
  split
  · obtain ⟨cs, rfl, r⟩ := h; exact r
  · obtain ⟨cs, rfl, r⟩ := h; exact RelDs.rels _ _ r
  · rename_i h1 h2
    have hv : v.cells.toList = [v] := by
      cases x with
      | d y =>
        cases y with
        | int k n => cases h; rfl
        | bool b => cases h; rfl
        | str s => cases h; rfl
        | nilp => cases h; rfl
        | nilsl => cases h; rfl
        | nilm => cases h; rfl
        | nili => cases h; rfl
        | agg l => exact absurd rfl (h2 l)
        | imm l => obtain ⟨a, cap, rfl, -⟩ := h; rfl
        | fm k l => obtain ⟨r, rfl, -⟩ := h; rfl
      | ptr id off => obtain ⟨b, hb, rfl⟩ := h; rfl
      | iptr l i f => obtain ⟨b, off, cs, e, fz, c, rfl, -⟩ := h; rfl
      | rptr id c i f => obtain ⟨g, n, cap, hb, h0, rfl⟩ := h; rfl
      | aptr id off n c i f => obtain ⟨b, hb, h0, h1, rfl⟩ := h; rfl
      | sl id => obtain ⟨hb, a, n, cap, rfl⟩ := h; rfl
      | map id => obtain ⟨hb, r, rfl⟩ := h; rfl
      | iter id => obtain ⟨hb, r, rfl⟩ := h; rfl
      | agg l => exact absurd rfl (h1 l)
      | tup l => obtain ⟨cs, rfl, -⟩ := h; rfl
      | fn f c => obtain ⟨cs, rfl, -⟩ := h; rfl
      | ifc t x => obtain ⟨cs, rfl, -⟩ := h; rfl
      | top => exact absurd rfl ht
      | raw v0 => obtain ⟨rfl, a, n, cap, rfl⟩ := h; rfl
    rw [hv]
    exact ⟨v, [], rfl, h, rfl⟩
end
end Go.Proofs.Yteakfibolfapiaa.Ab

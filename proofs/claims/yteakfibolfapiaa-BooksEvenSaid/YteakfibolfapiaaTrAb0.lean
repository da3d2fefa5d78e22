/- The abstract states: data, values, objects; how they stand to a world. No program in sight. -/
import Derived.Test.YteakfibolfapiaaTrAbJ
import Derived.Test.YteakfibolfapiaaTrMapsK
namespace Go.Proofs.Yteakfibolfapiaa.Ab
open Go.RowKit Go.Sort
set_option linter.unusedVariables false
set_option linter.unusedSimpArgs false

/-- Data without places of its own: what never turns any more. -/
inductive D where
  | int (k : IntKind) (n : Int)
  | bool (b : Bool)
  | str (s : List UInt8)
  | nilp
  | nilsl
  | nilm
  | nili
  | agg (l : List D)
  | imm (l : List (List D))
  | fm (k : IntKind) (l : List (Int × Value))
  deriving Inhabited
/-- Values: data, and places by their numbers. -/
inductive AV where
  | d (x : D)
  | ptr (id off : Nat)
  | iptr (l : List (List D)) (i : Int) (f : Nat)
  | rptr (id c : Nat) (i : Int) (f : Nat)
  | aptr (id off n c : Nat) (i : Int) (f : Nat)
  | sl (id : Nat)
  | map (id : Nat)
  | iter (id : Nat)
  | agg (l : List AV)
  | tup (l : List AV)
  | fn (f : Nat) (caps : List AV)
  | ifc (t : Nat) (x : AV)
  | top
  | raw (v : Value)
  deriving Inhabited
/-- What stands in a place. -/
inductive Ob where
  | cells (l : List AV)
  | row (c : Nat) (l : List (List D))
  | mp (k : IntKind) (l : List (Int × Value))
  | it (k : IntKind) (e : Nat) (l : List (Int × Value)) (cur : Option (Int × Value))
  | sit (s : List UInt8) (pos : Int)
  | bag (c : Nat) (l : List (Value × List (List D)))
  deriving Inhabited
abbrev Hp := List (Nat × Ob)

mutual
def RelD (w : World) (M : Nat → Prop) : D → Value → Prop
  | .int k n, v => v = .int k n
  | .bool b, v => v = .bool b
  | .str s, v => v = .string ⟨s.toArray⟩
  | .nilp, v => v = .pointer none
  | .nilsl, v => v = .slice none 0 0
  | .nilm, v => v = .map none
  | .nili, v => v = .nilIface
  | .agg l, v => ∃ cs, v = .agg cs ∧ RelDs w M l cs.toList
  | .imm l, v => ∃ a cap, v = .slice a l.length cap ∧ l.length ≤ cap ∧
      (l = [] ∨ ∃ b off cs e fz c, a = some ⟨b, off, none⟩ ∧ w.heap[b]? = some (.cells cs e fz) ∧ ¬ M b ∧ (∀ r ∈ l, r.length = c) ∧ RelRows w M l (cs.toList.drop off))
  | .fm k l, v => ∃ r, v = .map (some r) ∧ Mk.IMap k w r l ∧ ¬ M r
def RelDs (w : World) (M : Nat → Prop) : List D → List Value → Prop
  | [], vs => vs = []
  | d :: ds, vs => ∃ v r, vs = v :: r ∧ RelD w M d v ∧ RelDs w M ds r
def RelRows (w : World) (M : Nat → Prop) : List (List D) → List Value → Prop
  | [], _ => True
  | r :: rest, vs => RelDs w M r (vs.take r.length) ∧ RelRows w M rest (vs.drop r.length)
end
/-- What a world has to keep of another one, for data to stay. -/
def Keeps (w : World) (M : Nat → Prop) (w' : World) (M' : Nat → Prop) : Prop := ∀ b o, w.heap[b]? = some o → ¬ M b → w'.heap[b]? = some o ∧ ¬ M' b
theorem Keeps.refl (w : World) (M : Nat → Prop) : Keeps w M w M := fun b o h hm => ⟨h, hm⟩
theorem Keeps.trans {w1 w2 w3 : World} {M1 M2 M3 : Nat → Prop} (h : Keeps w1 M1 w2 M2) (g : Keeps w2 M2 w3 M3) : Keeps w1 M1 w3 M3 :=
  fun b o hb hm => let ⟨h1, h2⟩ := h b o hb hm; g b o h1 h2
mutual
theorem RelD.mono {w w' : World} {M M' : Nat → Prop} (h : Keeps w M w' M') : ∀ (d : D) (v : Value), RelD w M d v → RelD w' M' d v
  | .int k n, v, r => r
  | .bool b, v, r => r
  | .str s, v, r => r
  | .nilp, v, r => r
  | .nilsl, v, r => r
  | .nilm, v, r => r
  | .nili, v, r => r
  | .agg l, v, ⟨cs, hv, r⟩ => ⟨cs, hv, RelDs.mono h l _ r⟩
  | .imm l, v, ⟨a, cap, hv, hc, r⟩ => ⟨a, cap, hv, hc, by
      rcases r with r | ⟨b, off, cs, e, fz, c, ha, hb, hm, hl, hr⟩
      · exact .inl r
      · obtain ⟨h1, h2⟩ := h b _ hb hm
        exact .inr ⟨b, off, cs, e, fz, c, ha, h1, h2, hl, RelRows.mono h l _ hr⟩⟩
  | .fm k l, v, ⟨r, hv, hm, hn⟩ => by
      obtain ⟨hd, E, c, hb, rest⟩ := hm
      obtain ⟨h1, h2⟩ := h r _ hb hn
      exact ⟨r, hv, ⟨hd, E, c, h1, rest⟩, h2⟩
theorem RelDs.mono {w w' : World} {M M' : Nat → Prop} (h : Keeps w M w' M') : ∀ (l : List D) (vs : List Value), RelDs w M l vs → RelDs w' M' l vs
  | [], vs, r => r
  | d :: ds, vs, ⟨v, rest, hv, r1, r2⟩ => ⟨v, rest, hv, RelD.mono h d v r1, RelDs.mono h ds rest r2⟩
theorem RelRows.mono {w w' : World} {M M' : Nat → Prop} (h : Keeps w M w' M') : ∀ (l : List (List D)) (vs : List Value), RelRows w M l vs → RelRows w' M' l vs
  | [], vs, r => r
  | r :: rest, vs, ⟨r1, r2⟩ => ⟨RelDs.mono h r _ r1, RelRows.mono h rest _ r2⟩
end
/-- The places by their numbers, the blocks that are others'. -/
structure Env where
  f : Nat → Option Value
  F : Nat → Prop
instance : CoeFun Env (fun _ => Nat → Option Value) := ⟨Env.f⟩
mutual
/-- A value, by the places' numbers. -/
def RelV (ρ : Env) (w : World) (M : Nat → Prop) : AV → Value → Prop
  | .d x, v => RelD w M x v
  | .ptr id off, v => ∃ b, ρ id = some (.pointer (some ⟨b, 0, none⟩)) ∧ v = .pointer (some ⟨b, off, none⟩)
  | .iptr l i f, v => ∃ b off cs e fz c, v = .pointer (some ⟨b, off + i.toNat * c + f, none⟩) ∧ 0 ≤ i ∧ w.heap[b]? = some (.cells cs e fz) ∧ ¬ M b ∧ (∀ r ∈ l, r.length = c) ∧ RelRows w M l (cs.toList.drop off)
  | .rptr id c i f, v => ∃ g n cap, ρ id = some (.slice (some ⟨g, 0, none⟩) n cap) ∧ 0 ≤ i ∧ v = .pointer (some ⟨g, i.toNat * c + f, none⟩)
  | .aptr id off n c i f, v => ∃ b, ρ id = some (.pointer (some ⟨b, 0, none⟩)) ∧ 0 ≤ i ∧ i < n ∧ v = .pointer (some ⟨b, off + i.toNat * c + f, none⟩)
  | .sl id, v => ρ id = some v ∧ ∃ a n cap, v = .slice a n cap
  | .map id, v => ρ id = some v ∧ ∃ r, v = .map (some r)
  | .iter id, v => ρ id = some v ∧ ∃ r, v = .pointer (some ⟨r, 0, none⟩)
  | .agg l, v => ∃ cs, v = .agg cs ∧ RelVs ρ w M l cs.toList
  | .tup l, v => ∃ cs, v = .tuple cs ∧ RelVs ρ w M l cs.toList
  | .fn f caps, v => ∃ cs, v = .func (.func f) #[] cs ∧ RelVs ρ w M caps cs.toList
  | .ifc t x, v => ∃ y, v = .iface t y ∧ RelV ρ w M x y
  | .top, _ => True
  | .raw v0, v => v = v0 ∧ ∃ a n cap, v0 = .slice a n cap
def RelVs (ρ : Env) (w : World) (M : Nat → Prop) : List AV → List Value → Prop
  | [], vs => vs = []
  | d :: ds, vs => ∃ v r, vs = v :: r ∧ RelV ρ w M d v ∧ RelVs ρ w M ds r
end
def EnvExt (n : Nat) (ρ ρ' : Env) : Prop := ∀ id, id < n → ρ' id = ρ id
/-- All that an environment knows stands in another one. -/
def EnvSub (ρ ρ' : Env) : Prop := ∀ id v, ρ id = some v → ρ' id = some v
theorem EnvSub.refl (ρ : Env) : EnvSub ρ ρ := fun _ _ h => h
theorem EnvSub.trans {ρ ρ' ρ'' : Env} (h : EnvSub ρ ρ') (g : EnvSub ρ' ρ'') : EnvSub ρ ρ'' := fun id v hv => g id v (h id v hv)
mutual
theorem RelV.mono {ρ ρ' : Env} {w w' : World} {M M' : Nat → Prop} (hs : EnvSub ρ ρ') (h : Keeps w M w' M') : ∀ (d : AV) (v : Value), RelV ρ w M d v → RelV ρ' w' M' d v
  | .d x, v, r => RelD.mono h x v r
  | .ptr id off, v, ⟨b, hb, hv⟩ => ⟨b, hs _ _ hb, hv⟩
  | .iptr l i f, v, ⟨b, off, cs, e, fz, c, hv, h0, hb, hm, hl, hr⟩ => by
      obtain ⟨h1, h2⟩ := h b _ hb hm
      exact ⟨b, off, cs, e, fz, c, hv, h0, h1, h2, hl, RelRows.mono h l _ hr⟩
  | .rptr id c i f, v, ⟨g, n, cap, hb, h0, hv⟩ => ⟨g, n, cap, hs _ _ hb, h0, hv⟩
  | .aptr id off n c i f, v, ⟨b, hb, h0, h1, hv⟩ => ⟨b, hs _ _ hb, h0, h1, hv⟩
  | .sl id, v, ⟨r, h2⟩ => ⟨hs _ _ r, h2⟩
  | .map id, v, ⟨r, h2⟩ => ⟨hs _ _ r, h2⟩
  | .iter id, v, ⟨r, h2⟩ => ⟨hs _ _ r, h2⟩
  | .agg l, v, ⟨cs, hv, r⟩ => ⟨cs, hv, RelVs.mono hs h l _ r⟩
  | .tup l, v, ⟨cs, hv, r⟩ => ⟨cs, hv, RelVs.mono hs h l _ r⟩
  | .fn f caps, v, ⟨cs, hv, r⟩ => ⟨cs, hv, RelVs.mono hs h caps _ r⟩
  | .ifc t x, v, ⟨y, hv, r⟩ => ⟨y, hv, RelV.mono hs h x _ r⟩
  | .top, v, r => trivial
  | .raw v0, v, r => r
theorem RelVs.mono {ρ ρ' : Env} {w w' : World} {M M' : Nat → Prop} (hs : EnvSub ρ ρ') (h : Keeps w M w' M') : ∀ (l : List AV) (vs : List Value), RelVs ρ w M l vs → RelVs ρ' w' M' l vs
  | [], vs, r => r
  | d :: ds, vs, ⟨v, rest, hv, r1, r2⟩ => ⟨v, rest, hv, RelV.mono hs h d v r1, RelVs.mono hs h ds rest r2⟩
end
/-- The block that a place's value names. -/
def blkOf : Value → Option Nat
  | .pointer (some a) => some a.block
  | .slice (some a) _ _ => some a.block
  | .map r => r
  | _ => none
/-- A block that a place's value names: of a tuple each part's. -/
def blkIn : Value → Nat → Prop
  | .tuple vs, b => ∃ v ∈ vs.toList, blkOf v = some b
  | v, b => blkOf v = some b
/-- The blocks of the places. -/
def Loc (ρ : Env) (h : Hp) (b : Nat) : Prop := ∃ id o v, (id, o) ∈ h ∧ ρ id = some v ∧ blkIn v b
/-- The blocks that may turn, or are others'. -/
def Mut (ρ : Env) (h : Hp) (b : Nat) : Prop := ρ.F b ∨ Loc ρ h b
def RelO (ρ : Env) (w : World) (M : Nat → Prop) (id : Nat) : Ob → Prop
  | .cells l => ∃ b cs ty, ρ id = some (.pointer (some ⟨b, 0, none⟩)) ∧ w.heap[b]? = some (.cells cs ty (0, 0)) ∧ RelVs ρ w M l cs.toList
  | .row c l => ∃ v xs ty, ρ id = some v ∧ 0 < c ∧ w.ownsRow 0 ty c v l.length xs ∧ (∀ r ∈ l, r.length = c) ∧ RelRows w M l xs
  | .mp k l => ∃ r, ρ id = some (.map (some r)) ∧ Mk.IMap k w r l
  | .it k e l c => ∃ b r, ρ id = some (.pointer (some ⟨b, 0, none⟩)) ∧ Mk.IIterC k w r b l c ∧ ¬ M r
  | .sit s p => ∃ b, ρ id = some (.pointer (some ⟨b, 0, none⟩)) ∧ 0 ≤ p ∧ w.heap[b]? = some (.stringIter ⟨s.toArray⟩ p.toNat)
  | .bag c l => ∃ vs, ρ id = some (.tuple vs) ∧ vs.toList = l.map (·.1) ∧ 0 < c ∧ (∀ p ∈ l, ∃ xs ty, w.ownsRow 0 ty c p.1 p.2.length xs ∧ (∀ r ∈ p.2, r.length = c) ∧ RelRows w M p.2 xs) ∧
      l.Pairwise (fun p q => ∀ b, blkOf p.1 = some b → blkOf q.1 ≠ some b)
/-- What is others' stands as it stood. -/
structure Old (ρ : Env) (w : World) : Prop where
  lt : ∀ b, ρ.F b → b < w.heap.size
  inv : J w
  stab : ∀ u u' : World, J u → (∀ b, ρ.F b → u'.heap[b]? = u.heap[b]?) → J u'
theorem Old.go {ρ : Env} {w w' : World} (o : Old ρ w) (h : ∀ b, b < w.heap.size → ρ.F b → w'.heap[b]? = w.heap[b]?) : Old ρ w' := by
  have h' : ∀ b, ρ.F b → w'.heap[b]? = w.heap[b]? := fun b hb => h b (o.lt b hb) hb
  refine ⟨fun b hb => ?_, o.stab w w' o.inv h', o.stab⟩
  have h1 := h' b hb
  rw [Array.getElem?_eq_getElem (o.lt b hb)] at h1
  exact (Array.getElem?_eq_some_iff.1 h1).1
theorem Old.as {ρ ρ' : Env} {w : World} (o : Old ρ w) (hF : ρ'.F = ρ.F) : Old ρ' w := by
  refine ⟨fun b hb => o.lt b (hF ▸ hb), o.inv, ?_⟩
  rw [hF]
  exact o.stab
structure Rep (ρ : Env) (n : Nat) (h : Hp) (w : World) : Prop where
  nodup : (h.map (·.1)).Nodup
  objs : ∀ id o, (id, o) ∈ h → RelO ρ w (Mut ρ h) id o
  inj : ∀ i o j o' v v' b, (i, o) ∈ h → (j, o') ∈ h → ρ i = some v → ρ j = some v' → blkIn v b → blkIn v' b → i = j
  fresh : ∀ id, n ≤ id → ρ id = none
  sep : ∀ id o v b, (id, o) ∈ h → ρ id = some v → blkIn v b → ¬ ρ.F b
  old : Old ρ w
/-- From one state to a later one: n0: the numbers that stay. -/
structure Goes (n0 : Nat) (ρ : Env) (h : Hp) (w : World) (ρ' : Env) (h' : Hp) (w' : World) : Prop where
  os : w'.os = w.os
  tape : w'.tape = w.tape
  output : w'.output = w.output
  size : w.heap.size ≤ w'.heap.size
  block : ∀ b, b < w.heap.size → ¬ Loc ρ h b → w'.heap[b]? = w.heap[b]?
  muts : ∀ b, b < w.heap.size → Loc ρ' h' b → Loc ρ h b
  ext : ∀ id, id < n0 → ρ' id = ρ id
  own : ρ'.F = ρ.F
theorem Goes.refl (n0 : Nat) (ρ : Env) (h : Hp) (w : World) : Goes n0 ρ h w ρ h w := ⟨rfl, rfl, rfl, Nat.le_refl _, fun _ _ _ => rfl, fun _ _ h => h, fun _ _ => rfl, rfl⟩
theorem Goes.trans {n0 : Nat} {ρ ρ1 ρ2 : Env} {h h1 h2 : Hp} {w w1 w2 : World} (g : Goes n0 ρ h w ρ1 h1 w1) (k : Goes n0 ρ1 h1 w1 ρ2 h2 w2) : Goes n0 ρ h w ρ2 h2 w2 :=
  ⟨k.os.trans g.os, k.tape.trans g.tape, k.output.trans g.output, Nat.le_trans g.size k.size,
   fun b hb hm => (k.block b (Nat.lt_of_lt_of_le hb g.size) (fun m => hm (g.muts b hb m))).trans (g.block b hb hm),
   fun b hb hm => g.muts b hb (k.muts b (Nat.lt_of_lt_of_le hb g.size) hm),
   fun id hid => (k.ext id hid).trans (g.ext id hid), k.own.trans g.own⟩
theorem lt_of_get {w : World} {b : Nat} {o : Obj} (h : w.heap[b]? = some o) : b < w.heap.size := Tr.blk_lt h
theorem Goes.keeps {n0 : Nat} {ρ ρ' : Env} {h h' : Hp} {w w' : World} (g : Goes n0 ρ h w ρ' h' w') : Keeps w (Mut ρ h) w' (Mut ρ' h') := fun b o hb hm =>
  ⟨by rw [g.block b (lt_of_get hb) (fun m => hm (.inr m))]; exact hb, fun m => hm (m.imp (fun f => by rw [g.own] at f; exact f) (g.muts b (lt_of_get hb)))⟩
theorem Goes.mono {n0 n1 : Nat} {ρ ρ' : Env} {h h' : Hp} {w w' : World} (g : Goes n1 ρ h w ρ' h' w') (hn : n0 ≤ n1) : Goes n0 ρ h w ρ' h' w' :=
  { g with ext := fun id hid => g.ext id (Nat.lt_of_lt_of_le hid hn) }
/-- Environments that only grow. -/
theorem Goes.sub {n : Nat} {ρ ρ' : Env} {h h' : Hp} {w w' : World} (g : Goes n ρ h w ρ' h' w') (hf : ∀ id, n ≤ id → ρ id = none) : EnvSub ρ ρ' := fun id v hv => by
  rcases Nat.lt_or_ge id n with hl | hl
  · rw [g.ext id hl]; exact hv
  · rw [hf id hl] at hv; cases hv

/-! lists of values -/
theorem RelVs.length {ρ : Env} {w : World} {M : Nat → Prop} : ∀ (l : List AV) (vs : List Value), RelVs ρ w M l vs → l.length = vs.length
  | [], vs, r => by rw [show vs = [] from r]; rfl
  | d :: ds, vs, ⟨v, rest, hv, r1, r2⟩ => by rw [hv, List.length_cons, List.length_cons, RelVs.length ds rest r2]
theorem RelDs.length {w : World} {M : Nat → Prop} : ∀ (l : List D) (vs : List Value), RelDs w M l vs → l.length = vs.length
  | [], vs, r => by rw [show vs = [] from r]; rfl
  | d :: ds, vs, ⟨v, rest, hv, r1, r2⟩ => by rw [hv, List.length_cons, List.length_cons, RelDs.length ds rest r2]
theorem RelVs.get {ρ : Env} {w : World} {M : Nat → Prop} : ∀ (l : List AV) (vs : List Value), RelVs ρ w M l vs → ∀ (i : Nat) (a : AV), l[i]? = some a → ∃ v, vs[i]? = some v ∧ RelV ρ w M a v
  | [], vs, r, i, a, h => by simp at h
  | d :: ds, vs, ⟨v, rest, hv, r1, r2⟩, 0, a, h => by simp at h; subst h hv; exact ⟨v, rfl, r1⟩
  | d :: ds, vs, ⟨v, rest, hv, r1, r2⟩, i + 1, a, h => by
    subst hv
    simp at h
    obtain ⟨x, hx, hr⟩ := RelVs.get ds rest r2 i a h
    exact ⟨x, by simpa using hx, hr⟩
theorem RelDs.get {w : World} {M : Nat → Prop} : ∀ (l : List D) (vs : List Value), RelDs w M l vs → ∀ (i : Nat) (a : D), l[i]? = some a → ∃ v, vs[i]? = some v ∧ RelD w M a v
  | [], vs, r, i, a, h => by simp at h
  | d :: ds, vs, ⟨v, rest, hv, r1, r2⟩, 0, a, h => by simp at h; subst h hv; exact ⟨v, rfl, r1⟩
  | d :: ds, vs, ⟨v, rest, hv, r1, r2⟩, i + 1, a, h => by
    subst hv
    simp at h
    obtain ⟨x, hx, hr⟩ := RelDs.get ds rest r2 i a h
    exact ⟨x, by simpa using hx, hr⟩
theorem RelVs.set {ρ : Env} {w : World} {M : Nat → Prop} {a : AV} {x : Value} (hx : RelV ρ w M a x) : ∀ (l : List AV) (vs : List Value), RelVs ρ w M l vs → ∀ i, RelVs ρ w M (l.set i a) (vs.set i x)
  | [], vs, r, i => by rw [r]; exact rfl
  | d :: ds, vs, ⟨v, rest, hv, r1, r2⟩, 0 => by subst hv; exact ⟨x, rest, rfl, hx, r2⟩
  | d :: ds, vs, ⟨v, rest, hv, r1, r2⟩, i + 1 => by subst hv; exact ⟨v, rest.set i x, rfl, r1, RelVs.set hx ds rest r2 i⟩
theorem RelVs.append {ρ : Env} {w : World} {M : Nat → Prop} : ∀ (l : List AV) (vs : List Value) (l' : List AV) (vs' : List Value), RelVs ρ w M l vs → RelVs ρ w M l' vs' → RelVs ρ w M (l ++ l') (vs ++ vs')
  | [], vs, l', vs', r, r' => by rw [r]; exact r'
  | d :: ds, vs, l', vs', ⟨v, rest, hv, r1, r2⟩, r' => by subst hv; exact ⟨v, rest ++ vs', rfl, r1, RelVs.append ds rest l' vs' r2 r'⟩
theorem RelDs.append {w : World} {M : Nat → Prop} : ∀ (l : List D) (vs : List Value) (l' : List D) (vs' : List Value), RelDs w M l vs → RelDs w M l' vs' → RelDs w M (l ++ l') (vs ++ vs')
  | [], vs, l', vs', r, r' => by rw [r]; exact r'
  | d :: ds, vs, l', vs', ⟨v, rest, hv, r1, r2⟩, r' => by subst hv; exact ⟨v, rest ++ vs', rfl, r1, RelDs.append ds rest l' vs' r2 r'⟩
theorem RelDs.rels {ρ : Env} {w : World} {M : Nat → Prop} : ∀ (l : List D) (vs : List Value), RelDs w M l vs → RelVs ρ w M (l.map .d) vs
  | [], vs, r => r
  | d :: ds, vs, ⟨v, rest, hv, r1, r2⟩ => ⟨v, rest, hv, r1, RelDs.rels ds rest r2⟩
theorem RelVs.take {ρ : Env} {w : World} {M : Nat → Prop} : ∀ (l : List AV) (vs : List Value), RelVs ρ w M l vs → ∀ i, RelVs ρ w M (l.take i) (vs.take i)
  | [], vs, r, i => by rw [r]; simp; exact rfl
  | d :: ds, vs, r, 0 => by simp; exact rfl
  | d :: ds, vs, ⟨v, rest, hv, r1, r2⟩, i + 1 => by subst hv; exact ⟨v, rest.take i, rfl, r1, RelVs.take ds rest r2 i⟩
theorem RelVs.drop {ρ : Env} {w : World} {M : Nat → Prop} : ∀ (l : List AV) (vs : List Value), RelVs ρ w M l vs → ∀ i, RelVs ρ w M (l.drop i) (vs.drop i)
  | [], vs, r, i => by rw [r]; simp; exact rfl
  | d :: ds, vs, r, 0 => r
  | d :: ds, vs, ⟨v, rest, hv, r1, r2⟩, i + 1 => by subst hv; exact RelVs.drop ds rest r2 i
theorem RelVs.replicate {ρ : Env} {w : World} {M : Nat → Prop} {a : AV} {x : Value} (h : RelV ρ w M a x) : ∀ n, RelVs ρ w M (List.replicate n a) (List.replicate n x)
  | 0 => rfl
  | n + 1 => ⟨x, List.replicate n x, rfl, h, RelVs.replicate h n⟩
theorem RelDs.take {w : World} {M : Nat → Prop} : ∀ (l : List D) (vs : List Value), RelDs w M l vs → ∀ i, RelDs w M (l.take i) (vs.take i)
  | [], vs, r, i => by rw [r]; simp; exact rfl
  | d :: ds, vs, r, 0 => by simp; exact rfl
  | d :: ds, vs, ⟨v, rest, hv, r1, r2⟩, i + 1 => by subst hv; exact ⟨v, rest.take i, rfl, r1, RelDs.take ds rest r2 i⟩
theorem RelDs.drop {w : World} {M : Nat → Prop} : ∀ (l : List D) (vs : List Value), RelDs w M l vs → ∀ i, RelDs w M (l.drop i) (vs.drop i)
  | [], vs, r, i => by rw [r]; simp; exact rfl
  | d :: ds, vs, r, 0 => r
  | d :: ds, vs, ⟨v, rest, hv, r1, r2⟩, i + 1 => by subst hv; exact RelDs.drop ds rest r2 i
/-- One cell of a data row. -/
theorem RelD.oneCell {w : World} {M : Nat → Prop} {d : D} {v : Value} (h : RelD w M d v) (hn : ∀ l, d ≠ .agg l) : v.oneCell' = true := by
  cases d with
  | int k n => cases h; rfl
  | bool b => cases h; rfl
  | str s => cases h; rfl
  | nilp => cases h; rfl
  | nilsl => cases h; rfl
  | nilm => cases h; rfl
  | nili => cases h; rfl
  | agg l => exact absurd rfl (hn l)
  | imm l => obtain ⟨a, cap, rfl, -⟩ := h; rfl
  | fm k l => obtain ⟨r, rfl, -⟩ := h; rfl
theorem RelRows.get {w : World} {M : Nat → Prop} {c : Nat} : ∀ (l : List (List D)) (vs : List Value), RelRows w M l vs → (∀ r ∈ l, r.length = c) → ∀ (i : Nat) (r : List D), l[i]? = some r → RelDs w M r ((vs.drop (i * c)).take c)
  | [], vs, _, _, i, r, h => by simp at h
  | r0 :: rest, vs, ⟨r1, r2⟩, hl, 0, r, h => by
    simp at h
    subst h
    have := hl r0 (by simp)
    simpa [this] using r1
  | r0 :: rest, vs, ⟨r1, r2⟩, hl, i + 1, r, h => by
    simp at h
    have h0 := hl r0 (by simp)
    have := RelRows.get rest _ r2 (fun x hx => hl x (by simp [hx])) i r h
    rw [List.drop_drop, h0] at this
    rw [Nat.add_mul, Nat.one_mul, Nat.add_comm]
    exact this
end Go.Proofs.Yteakfibolfapiaa.Ab

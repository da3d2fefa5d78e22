/- Several texts in one: Ab3, Ab4, Ab5, Ab6. -/
import Derived.Test.YteakfibolfapiaaTrPk2
import Derived.Laws.Cells
import Derived.Laws.CopyRow
import Derived.Laws.IdiomStrings
section
namespace Go.Proofs.Yteakfibolfapiaa.Ab
open Go.RowKit Go.Sort
set_option linter.unusedVariables false
set_option linter.unusedSimpArgs false

/-! data as it is -/
def rBin (op : BinOp) (k : IntKind) (x y : Int) : Int :=
  match op with
  | .add => k.wrap (x + y)
  | .sub => k.wrap (x - y)
  | .mul => k.wrap (x * y)
  | .quo => k.wrap (x.tdiv y)
  | .rem => x.tmod y
  | .and => k.wrap (BitVec.ofInt k.bits x &&& BitVec.ofInt k.bits y).toNat
  | .or => k.wrap (BitVec.ofInt k.bits x ||| BitVec.ofInt k.bits y).toNat
  | .xor => k.wrap (BitVec.ofInt k.bits x ^^^ BitVec.ofInt k.bits y).toNat
  | .andNot => k.wrap (BitVec.ofInt k.bits x &&& ~~~BitVec.ofInt k.bits y).toNat
  | .shl => k.wrap (x * 2 ^ (min y.toNat k.bits))
  | .shr => x.fdiv (2 ^ (min y.toNat k.bits))
  | _ => 0
def rCmp (op : BinOp) (x y : Int) : Bool :=
  match op with
  | .eql => x == y
  | .neq => x != y
  | .lss => decide (x < y)
  | .leq => decide (x ≤ y)
  | .gtr => decide (x > y)
  | .geq => decide (x ≥ y)
  | _ => false
def rScmp (op : BinOp) (x y : List UInt8) : Bool :=
  match op with
  | .eql => x == y
  | .neq => !(x == y)
  | .lss => Op.bytesLess x y
  | .leq => Op.bytesLess x y || x == y
  | .gtr => !(Op.bytesLess x y || x == y)
  | .geq => !Op.bytesLess x y
  | _ => false
def rCell (l : List (List D)) (i : Int) (f : Nat) : D := (l.getD i.toNat []).getD f .nilp
def kdOk : Kd → D → Bool
  | .int k, .int k' _ => decide (k = k')
  | .bool, .bool _ => true
  | .str, .str _ => true
  | .sl, .imm _ => true
  | .sl, .nilsl => true
  | .ptr, .nilp => true
  | .map, .nilm => true
  | _, _ => false
def rowOk : List D → List Kd → Bool
  | _, [] => true
  | [], _ :: _ => false
  | d :: ds, k :: ks => kdOk k d && rowOk ds ks
def immOf : D → List (List D)
  | .imm l => l
  | _ => []
def byteOf : List D → Option UInt8
  | [.int .u8 n] => if 0 ≤ n ∧ n < 256 then some (UInt8.ofNat n.toNat) else none
  | _ => none
def rWf (l : List (List D)) (c : Nat) : Bool := l.all fun r => r.length == c
/-- No struct or array as one cell. -/
def flatD : D → Bool
  | .agg _ => false
  | _ => true
/-- A cell of a map's element. -/
def mcell (l : List (Int × Value)) (k : Int) (j : Nat) : Option Value := (Mk.look l k).bind fun v => v.cells.toList[j]?
def kvOk : Kd → Value → Bool
  | .int k, .int k' _ => decide (k = k')
  | .bool, .bool _ => true
  | .str, .string _ => true
  | _, _ => false
def cvOk : List Kd → List Value → Bool
  | [], [] => true
  | k :: ks, v :: vs => kvOk k v && cvOk ks vs
  | _, _ => false
def valOk (ks : List Kd) : Bool → Value → Bool
  | true, .agg cs => cvOk ks cs.toList
  | true, _ => false
  | false, .agg _ => false
  | false, v => cvOk ks [v]
/-- Flat data are equal. -/
def deq1 : D → D → Bool
  | .int _ a, .int _ b => a == b
  | .bool a, .bool b => a == b
  | .str a, .str b => a == b
  | _, _ => false
def deqL : List D → List D → Bool
  | [], [] => true
  | d :: l, e :: l' => deq1 d e && deqL l l'
  | _, _ => false
def real : Ar where
  bin := rBin
  cmp := rCmp
  wrap := IntKind.wrap
  neg k n := k.wrap (0 - n)
  com k n := k.wrap (BitVec.ofInt k.bits (if k.signed then -1 else k.max) ^^^ BitVec.ofInt k.bits n).toNat
  bnot b := !b
  beq a b := a == b
  pickB c a b := bif c then a else b
  pickI c a b := bif c then a else b
  pickS c a b := bif c then a else b
  inb i n := decide (0 ≤ i ∧ i < n)
  sub2 l h n := decide (0 ≤ l ∧ l ≤ h ∧ h ≤ n)
  minI := min
  maxI := max
  slen s := s.length
  sidx s i := ((s.getD i.toNat 0).toNat : Int)
  scat a b := a ++ b
  ssub s l h := (s.take h.toNat).drop l.toNat
  scmp := rScmp
  scok a b := decide ((a.length + b.length : Int) ≤ 9223372036854775807)
  len l := l.length
  cI l i f := match rCell l i f with | .int _ n => n | _ => 0
  cB l i f := match rCell l i f with | .bool b => b | _ => false
  cS l i f := match rCell l i f with | .str s => s | _ => []
  cL l i f := immOf (rCell l i f)
  okR l i f ks := decide (i.toNat < l.length) && rowOk ((l.getD i.toNat []).drop f) ks
  app a b := a ++ b
  apok a b c bytes := decide (a.length + b.length ≤ maxLen ∧ (a.length + b.length) * bytes ≤ 140737488355328) && b.all fun r => r.length == c && r.all flatD
  sub l lo hi := (l.take hi.toNat).drop lo.toNat
  setc l i f ds := l.set i.toNat (((l.getD i.toNat []).take f) ++ ds ++ ((l.getD i.toNat []).drop (f + ds.length)))
  rep n z := List.replicate n.toNat z
  mkok l c bytes := decide (0 ≤ l ∧ l ≤ c ∧ c ≤ maxLen ∧ bytes * c ≤ 140737488355328)
  nthI l i := l.getD i.toNat 0
  nthB l i := l.getD i.toNat false
  nthS l i := l.getD i.toNat []
  iteI i j x y := if i = (j : Int) then x else y
  iteB i j x y := if i = (j : Int) then x else y
  iteS i j x y := if i = (j : Int) then x else y
  b2s l := l.map fun r => (byteOf r).getD 0
  s2b s := s.map fun b => [.int .u8 (b.toNat : Int)]
  allB l := l.all fun r => (byteOf r).isSome
  wf := rWf
  deq := deqL
  mlen l := l.length
  mhas l k := (Mk.look l k).isSome
  mI l k j := match mcell l k j with | some (.int _ n) => n | _ => 0
  mB l k j := match mcell l k j with | some (.bool b) => b | _ => false
  mS l k j := match mcell l k j with | some (.string s) => s.data.toList | _ => []
  mok l ks agg := l.all fun p => valOk ks agg p.2
  mput := Mk.put
  mdel := Mk.del
  sgo s p := decide (p.toNat < s.length)
  sru s p := ((Utf8.decode ⟨s.toArray⟩ p.toNat).1 : Int)
  snx s p := ((p.toNat + (Utf8.decode ⟨s.toArray⟩ p.toNat).2 : Nat) : Int)

/-! the types -/
def tuOf : Option TypeDesc → TU
  | some .bool => .bool
  | some (.int k) => .int k
  | some .string => .str
  | some (.pointer e) => .ptr e
  | some (.slice e) => .slice e
  | some (.array n e) => .array n e
  | some (.struct fs) => .struct (fs.toList.map fun f => (f.offset, f.type))
  | some (.map k e) => .map k e
  | some (.func _ _ _) => .func
  | some (.interface _) => .iface
  | _ => .other
def zeroD : Value → Option (List D)
  | .agg cs => cdatas cs.toList
  | v => match cdata v with | some d => some [d] | none => none
def tiOf (P : Program) (t : Nat) : TI :=
  ⟨tuOf (P.underlying t), ((P.info? t).map (·.size)).getD 0, ((P.info? t).map (·.bytes)).getD 0, ((P.info? t).bind (·.zero)).bind zeroD⟩
/-- The types that a run is told are the program's, or say nothing. -/
def TyOK (P : Program) (T : Nat → TI) : Prop := ∀ t, (T t).u = .other ∨ ((T t).u = tuOf (P.underlying t) ∧ (P.info? t).isSome = true ∧ (T t).size = ((P.info? t).map (·.size)).getD 0 ∧ (T t).bytes = ((P.info? t).map (·.bytes)).getD 0 ∧
  ((T t).zero = none ∨ (T t).zero = ((P.info? t).bind (·.zero)).bind zeroD))

/-! calls -/
/-- What is known behind a call. -/
def Done (K : CallK) (n : Nat) (ρ : Env) (h : Hp) (w : World) (v : Value) (w' : World) : Prop :=
  ∃ av ρ' n' h', K av n' h' ∧ Rep ρ' n' h' w' ∧ n ≤ n' ∧ RelV ρ' w' (Mut ρ' h') av v ∧ Goes n ρ h w ρ' h' w'
inductive CallE (P : Program) (f : Nat) (args : List AV) (n : Nat) (h : Hp) (K : CallK) : Prop where
  | enter (fn : Func) (hf : P.funcs[f]? = some fn) (hn : (fn.name == "runtime.NumGoroutine") = false) (hb : fn.body.isNone = false)
      (run : ∀ ρ w vs, Rep ρ n h w → RelVs ρ w (Mut ρ h) args vs → Calls P f vs.toArray w fun e w' =>
        ∃ v, e = .returned v ∧ Done K n ρ h w v w')
  | ext (run : ∀ ρ w vs, Rep ρ n h w → RelVs ρ w (Mut ρ h) args vs → ∃ v w', (callFunc f vs.toArray).run P w = .ok (.value v) w' ∧ Done K n ρ h w v w')

/-! states -/
structure RepS (ρ : Env) (st : St) (a : Act) (w : World) : Prop where
  defers : a.defers = []
  fr : RelVs ρ w (Mut ρ st.h) st.fr a.tmps.toList
  rep : Rep ρ st.n st.h w
def Out (K : St → Prop) (n0 : Nat) (ρ : Env) (h : Hp) (w : World) : Act → World → Prop := fun a' w' => ∃ ρ' st', K st' ∧ RepS ρ' st' a' w' ∧ n0 ≤ st'.n ∧ Goes n0 ρ h w ρ' st'.h w'
theorem RelVs.getD {ρ : Env} {w : World} {M : Nat → Prop} : ∀ (l : List AV) (vs : List Value), RelVs ρ w M l vs → ∀ i, RelV ρ w M (l.getD i (.tup [])) (vs.getD i undef)
  | [], vs, r, i => by rw [show vs = [] from r]; exact ⟨#[], rfl, rfl⟩
  | d :: ds, vs, ⟨v, rest, hv, r1, r2⟩, 0 => by subst hv; exact r1
  | d :: ds, vs, ⟨v, rest, hv, r1, r2⟩, i + 1 => by subst hv; exact RelVs.getD ds rest r2 i
theorem cdata_rel {w : World} {M : Nat → Prop} {v : Value} {d : D} (h : cdata v = some d) : RelD w M d v := by
  cases v with
  | int k n => simp [cdata] at h; subst h; rfl
  | bool b => simp [cdata] at h; subst h; rfl
  | string s => simp [cdata] at h; subst h; simp [RelD]
  | pointer a => cases a <;> simp [cdata] at h; subst h; rfl
  | slice a n c =>
    cases a with
    | some a => simp [cdata] at h
    | none => cases n <;> cases c <;> simp [cdata] at h; subst h; rfl
  | map r => cases r <;> simp [cdata] at h; subst h; rfl
  | nilIface => simp [cdata] at h; subst h; rfl
  | _ => simp [cdata] at h
theorem cdatas_rel {w : World} {M : Nat → Prop} : ∀ (l : List Value) (x : List D), cdatas l = some x → RelDs w M x l
  | [], x, h => by simp [cdatas] at h; subst h; rfl
  | v :: r, x, h => by
    simp only [cdatas] at h
    cases hd : cdata v with
    | none => simp [hd] at h
    | some d =>
      cases hr : cdatas r with
      | none => simp [hd, hr] at h
      | some y =>
        simp [hd, hr] at h
        subst h
        exact ⟨v, r, rfl, cdata_rel hd, cdatas_rel r y hr⟩
theorem cval_rel (ρ : Env) (w : World) (M : Nat → Prop) (v : Value) : RelV ρ w M (cval v) v := by
  have key : ∀ v : Value, RelV ρ w M (match cdata v with | some d => .d d | none => .top) v := by
    intro v
    cases h : cdata v with
    | none => exact trivial
    | some d => exact cdata_rel h
  unfold cval
  split
  · exact ⟨#[], rfl, rfl⟩
  · exact ⟨#[], rfl, rfl⟩
  · rename_i l
    cases h : cdatas l with
    | none => exact trivial
    | some x => exact ⟨⟨l⟩, rfl, cdatas_rel l x h⟩
  · exact key v
theorem ev_rel {ρ : Env} {st : St} {a : Act} {w : World} (h : RepS ρ st a w) (x : Operand) : RelV ρ w (Mut ρ st.h) (st.ev x) (a.eval x) := by
  cases x with
  | tmp t =>
    have := RelVs.getD _ _ h.fr t
    simpa [St.ev, Act.eval] using this
  | const v => exact cval_rel _ _ _ v
  | global g => exact trivial
  | func f => exact ⟨#[], rfl, rfl⟩
theorem evs_rel {ρ : Env} {st : St} {a : Act} {w : World} (h : RepS ρ st a w) : ∀ l : List Operand, RelVs ρ w (Mut ρ st.h) (evs st l) (l.map a.eval)
  | [] => rfl
  | x :: r => ⟨_, _, rfl, ev_rel h x, evs_rel h r⟩
theorem put_rel {ρ : Env} {w : World} {st : St} {a : Act} {M : Nat → Prop} {av : AV} {v : Value} (dst : Option Nat) (h : RelVs ρ w M st.fr a.tmps.toList) (r : RelV ρ w M av v) : RelVs ρ w M (st.put dst av).fr (a.put dst v).tmps.toList := by
  cases dst with
  | none => exact h
  | some d =>
    have := RelVs.set r st.fr a.tmps.toList h d
    simpa [St.put, Act.put] using this
theorem put_h (st : St) (dst : Option Nat) (v : AV) : (st.put dst v).h = st.h := by cases dst <;> rfl
theorem put_n (st : St) (dst : Option Nat) (v : AV) : (st.put dst v).n = st.n := by cases dst <;> rfl
theorem put_defers (a : Act) (dst : Option Nat) (v : Value) : (a.put dst v).defers = a.defers := by cases dst <;> rfl
/-- Behind an operation that gives a value. -/
theorem out_value {K : St → Prop} {ρ ρ' : Env} {st : St} {a : Act} {w w' : World} {n' : Nat} {h' : Hp} {dst : Option Nat} {av : AV} {v : Value} (h : RepS ρ st a w) (rep : Rep ρ' n' h' w') (rel : RelV ρ' w' (Mut ρ' h') av v)
    (g : Goes st.n ρ st.h w ρ' h' w') (hn : st.n ≤ n') (hK : K (({ st with n := n', h := h' } : St).put dst av)) : Out K st.n ρ st.h w (a.put dst v) w' := by
  refine ⟨ρ', _, hK, ⟨?_, ?_, ?_⟩, ?_, ?_⟩
  · rw [put_defers]; exact h.defers
  · rw [put_h]; exact put_rel (st := { st with n := n', h := h' }) dst (RelVs.mono (g.sub h.rep.fresh) g.keeps _ _ h.fr) rel
  · rw [put_h, put_n]; exact rep
  · rw [put_n]; exact hn
  · rw [put_h]; exact g
theorem out_same {K : St → Prop} {ρ : Env} {st : St} {a : Act} {w : World} {dst : Option Nat} {av : AV} {v : Value} (h : RepS ρ st a w) (rel : RelV ρ w (Mut ρ st.h) av v) (hK : K (st.put dst av)) : Out K st.n ρ st.h w (a.put dst v) w :=
  out_value (n' := st.n) (h' := st.h) h h.rep rel (Goes.refl _ _ _ _) (Nat.le_refl _) hK
theorem wp_value {P : Program} {o : Oper} {a : Act} {w w' : World} {v : Value} {next : Act → World → Prop} {Q : Exit → Act → World → Prop} (hr : (execOp a.eval o).run P w = .ok (.value v) w') (h : next (a.put o.dst v) w') : o.wp P a w next Q := by
  unfold Oper.wp
  rw [hr]
  exact h
end Go.Proofs.Yteakfibolfapiaa.Ab
end
section
namespace Go.Proofs.Yteakfibolfapiaa.Ab
open Go.RowKit Go.Sort
set_option linter.unusedVariables false
set_option linter.unusedSimpArgs false

section
variable {P : Program} {T : Nat → TI} {ρ : Env} {w : World} {M : Nat → Prop}
/-- What an operation gives: a value, and the world as it is. -/
def Gives (P : Program) (ρ : Env) (w : World) (M : Nat → Prop) (K : AV → Prop) (s : Sem Value) : Prop := ∃ av v, K av ∧ RelV ρ w M av v ∧ s.run P w = .ok v w
/-- What an operation gives whichever the world. -/
def GivesU (P : Program) (ρ : Env) (w : World) (M : Nat → Prop) (U : World → Prop) (K : AV → Prop) (s : Sem Value) : Prop := ∃ av v, K av ∧ RelV ρ w M av v ∧ ∀ u, U u → s.run P u = .ok v u
abbrev GivesA (P : Program) (ρ : Env) (w : World) (M : Nat → Prop) (K : AV → Prop) (s : Sem Value) : Prop := GivesU P ρ w M (fun _ => True) K s
theorem GivesU.gives {U : World → Prop} {K : AV → Prop} {s : Sem Value} (h : GivesU P ρ w M U K s) (hu : U w) : Gives P ρ w M K s := let ⟨av, v, h1, h2, h3⟩ := h; ⟨av, v, h1, h2, h3 w hu⟩
theorem GivesU.mono {U U' : World → Prop} {K : AV → Prop} {s : Sem Value} (h : GivesU P ρ w M U K s) (hu : ∀ u, U' u → U u) : GivesU P ρ w M U' K s := let ⟨av, v, h1, h2, h3⟩ := h; ⟨av, v, h1, h2, fun u h => h3 u (hu u h)⟩
theorem bif_true {c : Bool} {a b : Prop} (h : bif c then a else b) (hb : ¬ b) : c = true ∧ a := by
  cases c
  · exact absurd h hb
  · exact ⟨rfl, h⟩
theorem relInt {k : IntKind} {n : Int} {v : Value} (h : RelV ρ w M (.d (.int k n)) v) : v = .int k n := h
theorem relStr {s : List UInt8} {v : Value} (h : RelV ρ w M (.d (.str s)) v) : v = .string ⟨s.toArray⟩ := h
theorem relBool {b : Bool} {v : Value} (h : RelV ρ w M (.d (.bool b)) v) : v = .bool b := h

theorem toList_mk (s : List UInt8) : (ByteArray.mk s.toArray).toList = s := by
  rw [ByteArray.toList_eq]
theorem bin_gives {K : AV → Prop} {op : BinOp} {x y : AV} {vx vy : Value} (hx : RelV ρ w M x vx) (hy : RelV ρ w M y vy) (h : binA real op x y K) (t : Nat) (X Y : Operand) :
    GivesA P ρ w M K (do eqGuard op t X Y vx vy; binOp op t vx vy) := by
  unfold binA at h
  split at h
  · rename_i k a k' b
    rw [relInt hx, relInt hy]
    cases op
    all_goals
      dsimp only at h
    case shl =>
      obtain ⟨h0, h⟩ := h
      refine ⟨_, _, h, rfl, fun u _ => ?_⟩
      have h0 : 0 ≤ b := by simpa [real, rCmp] using h0
      have h1 : ¬ b < 0 := by omega
      simp [eqGuard, binOp, Op.shift, h1, real, rBin]
    case shr =>
      obtain ⟨h0, h⟩ := h
      refine ⟨_, _, h, rfl, fun u _ => ?_⟩
      have h0 : 0 ≤ b := by simpa [real, rCmp] using h0
      have h1 : ¬ b < 0 := by omega
      simp [eqGuard, binOp, Op.shift, h1, real, rBin]
    case quo =>
      obtain ⟨e, h0, h1⟩ := bif_true h not_false
      clear h
      have e : k = k' := by simpa using e
      subst e
      refine ⟨_, _, h1, rfl, fun u _ => ?_⟩
      have h0 : b ≠ 0 := by simpa [real, rCmp] using h0
      simp [eqGuard, binOp, Op.intDiv, h0, real, rBin]
    case rem =>
      obtain ⟨e, h0, h1⟩ := bif_true h not_false
      clear h
      have e : k = k' := by simpa using e
      subst e
      refine ⟨_, _, h1, rfl, fun u _ => ?_⟩
      have h0 : b ≠ 0 := by simpa [real, rCmp] using h0
      simp [eqGuard, binOp, Op.intDiv, h0, real, rBin]
    all_goals
      obtain ⟨e, h1⟩ := bif_true h not_false
      clear h
      have e : k = k' := by simpa using e
      subst e
      refine ⟨_, _, h1, rfl, fun u _ => ?_⟩
      simp [eqGuard, binOp, Op.intArith, Op.intBits, Op.intCmp, real, rBin, rCmp]
  · rename_i a b
    rw [relStr hx, relStr hy]
    cases op
    all_goals
      dsimp only at h
    case add =>
      obtain ⟨h0, h⟩ := h
      refine ⟨_, _, h, rfl, fun u _ => ?_⟩
      have h0 : (a.length + b.length : Int) ≤ 9223372036854775807 := by simpa [real] using h0
      have hm : IntKind.i64.max = 9223372036854775807 := by decide
      have h1 : ¬ ((((ByteArray.mk a.toArray).size + (ByteArray.mk b.toArray).size : Nat) : Int) > IntKind.i64.max) := by
        rw [hm]; simp only [ByteArray.size, List.size_toArray]; omega
      have e : (ByteArray.mk a.toArray) ++ (ByteArray.mk b.toArray) = ⟨(a ++ b).toArray⟩ := by
        apply ByteArray.ext; simp
      simp only [eqGuard, binOp, Op.stringOp]
      rw [if_neg h1, e]
      simp [real]
    all_goals
      first
        | exact h.elim
        | (refine ⟨_, _, h, rfl, fun u _ => ?_⟩
           simp [eqGuard, binOp, Op.stringOp, real, rScmp, toList_mk])
  · exact h.elim
theorem un_gives {K : AV → Prop} {op : UnOp} {x : AV} {vx : Value} (hx : RelV ρ w M x vx) (h : unA real op x K) : GivesA P ρ w M K (Op.unary op vx) := by
  unfold unA at h
  split at h
  · rw [relInt hx]; exact ⟨_, _, h, rfl, fun u _ => by simp [Op.unary, Op.intArith, real]⟩
  · rw [relInt hx]; exact ⟨_, _, h, rfl, fun u _ => by simp [Op.unary, Op.intBits, real]⟩
  · rw [relBool hx]; exact ⟨_, _, h, rfl, fun u _ => by simp [Op.unary, real]⟩
  · exact h.elim
theorem pick_gives {K : AV → Prop} {c x y : AV} {vc vx vy : Value} (hc : RelV ρ w M c vc) (hx : RelV ρ w M x vx) (hy : RelV ρ w M y vy) (h : pickA real c x y K) :
    GivesA P ρ w M K (do pure (if ← asBool vc then vx else vy)) := by
  unfold pickA at h
  split at h
  · rename_i b
    rw [relBool hc]
    split at h
    · rw [relBool hx, relBool hy]
      refine ⟨_, _, h, rfl, fun u _ => ?_⟩
      cases b <;> simp [asBool, real]
    · rename_i k x k' y
      obtain ⟨e, h1⟩ := bif_true h not_false
      clear h
      have e : k = k' := by simpa using e
      subst e
      rw [relInt hx, relInt hy]
      refine ⟨_, _, h1, rfl, fun u _ => ?_⟩
      cases b <;> simp [asBool, real]
    · rw [relStr hx, relStr hy]
      refine ⟨_, _, h, rfl, fun u _ => ?_⟩
      cases b <;> simp [asBool, real]
    · cases b
      · exact ⟨_, _, h, hy, fun u _ => by simp [asBool]⟩
      · exact ⟨_, _, h, hx, fun u _ => by simp [asBool]⟩
  · exact h.elim
theorem extract_gives {K : AV → Prop} {t : AV} {vt : Value} {i : Nat} (ht : RelV ρ w M t vt) (h : extractA t i K) :
    GivesA P ρ w M K (Instr.extract vt i) := by
  unfold extractA at h
  cases t with
  | tup l =>
    obtain ⟨cs, rfl, hl⟩ := ht
    cases hv : l[i]? with
    | none => simp [hv] at h
    | some v =>
      simp only [hv] at h
      obtain ⟨x, hx, hr⟩ := RelVs.get _ _ hl i v hv
      refine ⟨v, x, h, hr, fun u _ => ?_⟩
      have : cs[i]? = some x := by simpa using hx
      simp [Instr.extract, this]
  | _ => exact h.elim
theorem dsOf_map : ∀ (l : List AV) (x : List D), dsOf l = some x → l = x.map .d
  | [], x, h => by simp [dsOf] at h; subst h; rfl
  | .d y :: r, x, h => by
    simp only [dsOf] at h
    cases hr : dsOf r with
    | none => simp [hr] at h
    | some z =>
      simp [hr] at h
      subst h
      rw [dsOf_map r z hr]
      rfl
  | .ptr _ _ :: r, x, h => by simp [dsOf] at h
  | .iptr _ _ _ :: r, x, h => by simp [dsOf] at h
  | .rptr _ _ _ _ :: r, x, h => by simp [dsOf] at h
  | .aptr _ _ _ _ _ _ :: r, x, h => by simp [dsOf] at h
  | .sl _ :: r, x, h => by simp [dsOf] at h
  | .map _ :: r, x, h => by simp [dsOf] at h
  | .iter _ :: r, x, h => by simp [dsOf] at h
  | .agg _ :: r, x, h => by simp [dsOf] at h
  | .tup _ :: r, x, h => by simp [dsOf] at h
  | .fn _ _ :: r, x, h => by simp [dsOf] at h
  | .ifc _ _ :: r, x, h => by simp [dsOf] at h
  | .top :: r, x, h => by simp [dsOf] at h
  | .raw _ :: r, x, h => by simp [dsOf] at h
theorem rels_ds : ∀ (l : List D) (vs : List Value), RelVs ρ w M (l.map .d) vs → RelDs w M l vs
  | [], vs, r => r
  | d :: ds, vs, ⟨v, rest, hv, r1, r2⟩ => ⟨v, rest, hv, r1, rels_ds ds rest r2⟩
theorem mkAgg_rel {l : List AV} {cs : Array Value} (h : RelVs ρ w M l cs.toList) : RelV ρ w M (mkAgg l) (.agg cs) := by
  unfold mkAgg
  cases hd : dsOf l with
  | none => exact ⟨cs, rfl, h⟩
  | some x =>
    rw [dsOf_map l x hd] at h
    exact ⟨cs, rfl, rels_ds x _ h⟩
theorem aggOf_rel {x : AV} {v : Value} {l : List AV} (h : RelV ρ w M x v) (hl : aggOf x = some l) : ∃ cs, v = .agg cs ∧ RelVs ρ w M l cs.toList := by
  unfold aggOf at hl
  split at hl
  · cases hl; exact h
  · cases hl
    obtain ⟨cs, hv, r⟩ := h
    exact ⟨cs, hv, RelDs.rels _ _ r⟩
  · cases hl
/-- A cell's value is no struct. -/
def scalV : AV → Bool
  | .agg _ => false
  | .d (.agg _) => false
  | .top => false
  | .tup _ => false
  | _ => true
theorem cells_rel {x : AV} {v : Value} (h : RelV ρ w M x v) (ht : x ≠ .top) : RelVs ρ w M (cellsOf x) v.cells.toList := by
  unfold cellsOf
  split
  · obtain ⟨cs, rfl, r⟩ := h; exact r
  · obtain ⟨cs, rfl, r⟩ := h; exact RelDs.rels _ _ r
  · rename_i h1 h2
    have hv : v.cells.toList = [v] := by
      cases x with
      | d y =>
        cases y with
        | int k n => cases h; rfl
        | bool b => cases h; rfl
        | str s => cases h; rfl
        | nilp => cases h; rfl
        | nilsl => cases h; rfl
        | nilm => cases h; rfl
        | nili => cases h; rfl
        | agg l => exact absurd rfl (h2 l)
        | imm l => obtain ⟨a, cap, rfl, -⟩ := h; rfl
        | fm k l => obtain ⟨r, rfl, -⟩ := h; rfl
      | ptr id off => obtain ⟨b, hb, rfl⟩ := h; rfl
      | iptr l i f => obtain ⟨b, off, cs, e, fz, c, rfl, -⟩ := h; rfl
      | rptr id c i f => obtain ⟨g, n, cap, hb, h0, rfl⟩ := h; rfl
      | aptr id off n c i f => obtain ⟨b, hb, h0, h1, rfl⟩ := h; rfl
      | sl id => obtain ⟨hb, a, n, cap, rfl⟩ := h; rfl
      | map id => obtain ⟨hb, r, rfl⟩ := h; rfl
      | iter id => obtain ⟨hb, r, rfl⟩ := h; rfl
      | agg l => exact absurd rfl (h1 l)
      | tup l => obtain ⟨cs, rfl, -⟩ := h; rfl
      | fn f c => obtain ⟨cs, rfl, -⟩ := h; rfl
      | ifc t x => obtain ⟨cs, rfl, -⟩ := h; rfl
      | top => exact absurd rfl ht
      | raw v0 => obtain ⟨rfl, a, n, cap, rfl⟩ := h; rfl
    rw [hv]
    exact ⟨v, [], rfl, h, rfl⟩
end
end Go.Proofs.Yteakfibolfapiaa.Ab
end
section
namespace Go.Proofs.Yteakfibolfapiaa.Ab
open Go.RowKit Go.Sort
set_option linter.unusedVariables false
set_option linter.unusedSimpArgs false

/-- The types that a run is told are the program's. -/
def TyIs (P : Program) (x : TI) (t : Nat) : Prop :=
  ∃ i d, P.info? t = some i ∧ P.underlying t = some d ∧ x.u = tuOf (some d) ∧ x.size = i.size ∧ x.bytes = i.bytes ∧ (x.zero = none ∨ x.zero = i.zero.bind zeroD) ∧ ((∃ k, x.u = .int k) → i.comparable = true)
/-- A zero value is an aggregate where its type is one. -/
def zshape (P : Program) (t : Nat) : Bool := match (P.info? t).bind (·.zero) with
  | some (.agg _) => isAggT (tiOf P t)
  | some _ => !isAggT (tiOf P t)
  | none => true
/-- What is asked of a struct that is compared. -/
def StructEq (P : Program) (T : Nat → TI) (t : Nat) : Prop := ∀ (neq : Bool) (l l' : List D) (X Y : Operand) (xs ys : Array Value) (w u : World) (M : Nat → Prop), ksOk l (kinds T 8 t) = true → ksOk l' (kinds T 8 t) = true → RelDs w M l xs.toList → RelDs w M l' ys.toList →
  ((do eqGuard (if neq then .neq else .eql) t X Y (.agg xs) (.agg ys); binOp (if neq then .neq else .eql) t (.agg xs) (.agg ys) : Sem Value)).run P u = .ok (.bool (if neq then !(deqL l l') else deqL l l')) u
structure TysOK (P : Program) (T : Nat → TI) : Prop where
  tys : ∀ t, ((T t).u = .other ∧ (T t).size = 0) ∨ TyIs P (T t) t
  zsh : ∀ t, (T t).size ≠ 0 → zshape P t = true ∧ isAggT (T t) = isAggT (tiOf P t)
  seq : ∀ t, eqT t = true → StructEq P T t
  globs : ∀ t g w, globs t g = true → J w → ∃ v, (Instr.loadAt t (.pointer (some ⟨g, 0, none⟩))).run P w = .ok v w
section
variable {P : Program} {T : Nat → TI} {ρ : Env} {w : World} {M : Nat → Prop}
theorem TysOK.of_u (hT : TysOK P T) {t : Nat} {u : TU} (h : (T t).u = u) (hu : u ≠ .other) : TyIs P (T t) t := by
  rcases hT.tys t with ⟨h1, -⟩ | h1
  · exact absurd (h.symm.trans h1) hu
  · exact h1
theorem TysOK.of_size (hT : TysOK P T) {t : Nat} (h : (T t).size ≠ 0) : TyIs P (T t) t := by
  rcases hT.tys t with ⟨-, h1⟩ | h1
  · exact absurd h1 h
  · exact h1
theorem TysOK.slice (hT : TysOK P T) {t e : Nat} (h : (T t).u = .slice e) : P.underlying t = some (.slice e) := by
  obtain ⟨i, d, -, hd, hu, -⟩ := hT.of_u h (by simp)
  rw [h] at hu
  cases d <;> simp [tuOf] at hu
  subst hu; exact hd
theorem TysOK.int (hT : TysOK P T) {t : Nat} {k : IntKind} (h : (T t).u = .int k) : P.underlying t = some (.int k) := by
  obtain ⟨i, d, -, hd, hu, -⟩ := hT.of_u h (by simp)
  rw [h] at hu
  cases d <;> simp [tuOf] at hu
  subst hu; exact hd
theorem TysOK.str (hT : TysOK P T) {t : Nat} (h : (T t).u = .str) : P.underlying t = some .string := by
  obtain ⟨i, d, -, hd, hu, -⟩ := hT.of_u h (by simp)
  rw [h] at hu
  cases d <;> simp [tuOf] at hu
  exact hd
theorem TysOK.bool (hT : TysOK P T) {t : Nat} (h : (T t).u = .bool) : P.underlying t = some .bool := by
  obtain ⟨i, d, -, hd, hu, -⟩ := hT.of_u h (by simp)
  rw [h] at hu
  cases d <;> simp [tuOf] at hu
  exact hd
theorem TysOK.ptr (hT : TysOK P T) {t e : Nat} (h : (T t).u = .ptr e) : P.underlying t = some (.pointer e) := by
  obtain ⟨i, d, -, hd, hu, -⟩ := hT.of_u h (by simp)
  rw [h] at hu
  cases d <;> simp [tuOf] at hu
  subst hu; exact hd
theorem TysOK.map (hT : TysOK P T) {t k e : Nat} (h : (T t).u = .map k e) : P.underlying t = some (.map k e) := by
  obtain ⟨i, d, -, hd, hu, -⟩ := hT.of_u h (by simp)
  rw [h] at hu
  cases d <;> simp [tuOf] at hu
  obtain ⟨rfl, rfl⟩ := hu; exact hd
theorem TysOK.iface (hT : TysOK P T) {t : Nat} (h : (T t).u = .iface) : ∃ ms, P.underlying t = some (.interface ms) := by
  obtain ⟨i, d, -, hd, hu, -⟩ := hT.of_u h (by simp)
  rw [h] at hu
  cases d <;> simp [tuOf] at hu
  exact ⟨_, hd⟩
theorem TysOK.array (hT : TysOK P T) {t n e : Nat} (h : (T t).u = .array n e) : P.underlying t = some (.array n e) := by
  obtain ⟨i, d, -, hd, hu, -⟩ := hT.of_u h (by simp)
  rw [h] at hu
  cases d <;> simp [tuOf] at hu
  obtain ⟨rfl, rfl⟩ := hu; exact hd
theorem TysOK.struct (hT : TysOK P T) {t : Nat} {fs : List (Nat × Nat)} (h : (T t).u = .struct fs) : ∃ gs, P.underlying t = some (.struct gs) ∧ fs = gs.toList.map fun f => (f.offset, f.type) := by
  obtain ⟨i, d, -, hd, hu, -⟩ := hT.of_u h (by simp)
  rw [h] at hu
  cases d <;> simp [tuOf] at hu
  exact ⟨_, hd, hu⟩
theorem TysOK.size (hT : TysOK P T) {t : Nat} (h : (T t).size ≠ 0) (w : World) : (sizeOf t).run P w = .ok (T t).size w := by
  obtain ⟨i, d, hi, hd, hu, hs, -⟩ := hT.of_size h
  simp [sizeOf, typeInfo, hi, hs]
theorem TysOK.size? (hT : TysOK P T) {t : Nat} (h : (T t).size ≠ 0) : (P.info? t).map (·.size) = some (T t).size := by
  obtain ⟨i, d, hi, hd, hu, hs, -⟩ := hT.of_size h
  simp [hi, hs]
theorem TysOK.agg (hT : TysOK P T) {t : Nat} (h : (T t).size ≠ 0) (w : World) : (isAgg t).run P w = .ok (isAggT (T t)) w := by
  obtain ⟨i, d, hi, hd, hu, hs, -⟩ := hT.of_size h
  unfold isAgg isAggT
  rw [hu]
  cases d <;> simp [run_underlying hd, tuOf]
theorem TysOK.agg_u (hT : TysOK P T) {t : Nat} (h : (T t).u ≠ .other) (w : World) : (isAgg t).run P w = .ok (isAggT (T t)) w := by
  obtain ⟨i, d, hi, hd, hu, hs, -⟩ := hT.of_u rfl h
  unfold isAgg isAggT
  rw [hu]
  cases d <;> simp [run_underlying hd, tuOf]

theorem addr_add (b off j : Nat) : (⟨b, off, none⟩ : Addr).add j = ⟨b, off + j, none⟩ := by unfold Addr.add; split <;> simp_all
theorem cells_at {b off : Nat} {cs : Array Value} {e : TypeId} {fz : Nat × Nat} (h : w.heap[b]? = some (.cells cs e fz)) (j : Nat) : w.cell? ((⟨b, off, none⟩ : Addr).add j) = cs[off + j]? := by
  rw [addr_add, Tr.cell_blk h]
theorem run_load_agg (hT : TysOK P T) {t : Nat} (hs : (T t).size ≠ 0) (ha : isAggT (T t) = true) (a : Addr) (vs : List Value) (hl : vs.length = (T t).size) (hc : ∀ (j : Nat) v, vs[j]? = some v → w.cell? (a.add j) = some v) :
    (loadVar t a).run P w = .ok (.agg vs.toArray) w := by
  have h1 := run_loadCells_list (P := P) w a vs hc
  rw [hl] at h1
  simp [loadVar, hT.agg hs, ha, hT.size hs, h1]
theorem run_load_one (hT : TysOK P T) {t : Nat} (hs : (T t).size ≠ 0) (ha : isAggT (T t) = false) (a : Addr) (v : Value) (hc : w.cell? a = some v) :
    (loadVar t a).run P w = .ok v w := by
  simp [loadVar, hT.agg hs, ha, run_load, hc]

theorem hget_mem {h : Hp} {id : Nat} {o : Ob} (hg : hget h id = some o) : (id, o) ∈ h := by
  induction h with
  | nil => simp [hget] at hg
  | cons x r ih =>
    obtain ⟨i, o'⟩ := x
    simp only [hget] at hg
    cases hb : i == id with
    | true => simp [hb] at hg; have := eq_of_beq hb; subst this hg; simp
    | false => simp [hb] at hg; simp [ih hg]

theorem cellK_rel {l : List (List D)} {i : Int} {f : Nat} {k : Kd} {v : Value} (hk : kdOk k (rCell l i f) = true) (h : RelD w M (rCell l i f) v) : RelD w M (cellK real l i f k) v := by
  unfold cellK
  generalize hd : rCell l i f = d at *
  cases k <;> cases d <;> simp [kdOk] at hk
  · subst hk; simp only [real, hd]; exact h
  · simp only [real, hd]; exact h
  · simp only [real, hd]; exact h
  · simp only [real, hd, immOf]
    cases h
    exact ⟨none, 0, rfl, Nat.le_refl _, .inl rfl⟩
  · simp only [real, hd, immOf]; exact h
  · exact h
  · exact h
theorem cellsK_rel {l : List (List D)} {i : Int} : ∀ (ks : List Kd) (f : Nat) (vs : List Value), RelDs w M (l.getD i.toNat []) vs → rowOk ((l.getD i.toNat []).drop f) ks = true → RelDs w M (cellsK real l i f ks) ((vs.drop f).take ks.length)
  | [], f, vs, _, _ => by simp [cellsK]; exact rfl
  | k :: ks, f, vs, hr, ho => by
    have hlen := RelDs.length _ _ hr
    cases hd : (l.getD i.toNat []).drop f with
    | nil => rw [hd] at ho; simp [rowOk] at ho
    | cons d ds =>
      rw [hd] at ho
      simp only [rowOk, Bool.and_eq_true] at ho
      have hf : f < (l.getD i.toNat []).length := by
        rcases Nat.lt_or_ge f (l.getD i.toNat []).length with h | h
        · exact h
        · rw [List.drop_eq_nil_of_le h] at hd; cases hd
      have hget : (l.getD i.toNat [])[f]? = some d := by
        have := congrArg (·[0]?) hd
        simpa using this
      have hcell : rCell l i f = d := by
        unfold rCell
        rw [List.getD_eq_getElem?_getD (l := l.getD i.toNat []), hget]; rfl
      obtain ⟨v, hv, hrel⟩ := RelDs.get _ _ hr f d hget
      have hv' : vs.drop f = v :: vs.drop (f + 1) := by
        have hlt : f < vs.length := by omega
        rw [List.drop_eq_getElem_cons hlt]
        congr 1
        rw [List.getElem?_eq_getElem hlt] at hv
        exact Option.some.inj hv
      rw [hv']
      refine ⟨v, (vs.drop (f + 1)).take ks.length, by simp, ?_, ?_⟩
      · exact cellK_rel (by rw [hcell]; exact ho.1) (by rw [hcell]; exact hrel)
      · refine cellsK_rel ks (f + 1) vs hr ?_
        have : (l.getD i.toNat []).drop (f + 1) = ds := by
          have := congrArg List.tail hd
          simpa [List.tail_drop] using this
        rw [this]; exact ho.2
theorem cellsK_length (A : Ar) (l : List (List D)) (i : Int) : ∀ (ks : List Kd) (f : Nat), (cellsK A l i f ks).length = ks.length
  | [], f => rfl
  | k :: ks, f => by simp [cellsK, cellsK_length A l i ks (f + 1)]
theorem rowOk_len : ∀ (r : List D) (ks : List Kd), rowOk r ks = true → ks.length ≤ r.length
  | _, [], _ => Nat.zero_le _
  | [], _ :: _, h => by simp [rowOk] at h
  | d :: ds, k :: ks, h => by
    simp only [rowOk, Bool.and_eq_true] at h
    have := rowOk_len ds ks h.2
    simp; omega

/-- A typed load out of a row of data that stands at an offset of a block. -/
theorem load_row (hT : TysOK P T) {K : AV → Prop} {t b off c : Nat} {l : List (List D)} {i : Int} {f : Nat} {cs : Array Value} {e : TypeId} {fz : Nat × Nat} (hb : w.heap[b]? = some (.cells cs e fz))
    (hl : ∀ r ∈ l, r.length = c) (hr : RelRows w M l (cs.toList.drop off)) (hi : 0 ≤ i)
    (hok : real.okR l i f (kinds T 8 t) = true ∧ (kinds T 8 t).length = (T t).size)
    (h : match isAggT (T t) with | true => K (.d (.agg (cellsK real l i f (kinds T 8 t)))) | false => (match kinds T 8 t with | [k] => K (.d (cellK real l i f k)) | _ => False)) :
    GivesU P ρ w M (fun u => u.heap[b]? = w.heap[b]?) K (loadVar t ⟨b, off + i.toNat * c + f, none⟩) := by
  obtain ⟨hok, hlen⟩ := hok
  have hok' : i.toNat < l.length ∧ rowOk ((l.getD i.toNat []).drop f) (kinds T 8 t) = true := by simpa [real] using hok
  obtain ⟨hil, hro⟩ := hok'
  generalize hks : kinds T 8 t = ks at *
  have hget : l[i.toNat]? = some (l.getD i.toNat []) := by rw [List.getD_eq_getElem?_getD, List.getElem?_eq_getElem hil]; rfl
  have hrow := RelRows.get l _ hr hl i.toNat _ hget
  rw [List.drop_drop] at hrow
  have hc : (l.getD i.toNat []).length = c := hl _ (List.mem_of_getElem? hget)
  have hrl := RelDs.length _ _ hrow
  have hle := rowOk_len _ _ hro
  rw [List.length_drop, hc] at hle
  have hrel := cellsK_rel ks f _ hrow hro
  have hcell : ∀ (u : World), u.heap[b]? = w.heap[b]? → ∀ (j : Nat) v, (((cs.toList.drop (off + i.toNat * c)).take c).drop f |>.take ks.length)[j]? = some v → u.cell? ((⟨b, off + i.toNat * c + f, none⟩ : Addr).add j) = some v := by
    intro u hu j v hj
    rw [cells_at (hu.trans hb)]
    rw [List.getElem?_take] at hj
    split at hj
    · rw [List.getElem?_drop, List.getElem?_take] at hj
      split at hj
      · rw [List.getElem?_drop] at hj
        rw [← hj, ← Nat.add_assoc, Array.getElem?_toList]
      · cases hj
    · cases hj
  have hlen2 : (((cs.toList.drop (off + i.toNat * c)).take c).drop f |>.take ks.length).length = ks.length := by
    rw [← RelDs.length _ _ hrel, cellsK_length]
  generalize (((cs.toList.drop (off + i.toNat * c)).take c).drop f |>.take ks.length) = vs at *
  by_cases hs : (T t).size = 0
  · rw [hs] at hlen
    rw [List.length_eq_zero_iff.1 hlen] at h
    have ha : isAggT (T t) = true := by
      cases ha : isAggT (T t) with
      | true => rfl
      | false => simp [ha] at h
    have hu : (T t).u ≠ .other := by
      intro e; unfold isAggT at ha; rw [e] at ha; simp at ha
    obtain ⟨ti, d, hti, hd, hu2, hs2, -⟩ := hT.of_u rfl hu
    have hz : ti.size = 0 := by rw [← hs2, hs]
    rw [ha] at h
    refine ⟨_, .agg #[], h, ⟨#[], rfl, ?_⟩, fun u _ => ?_⟩
    · exact rfl
    · simp [loadVar, hT.agg_u hu, ha, sizeOf, typeInfo, hti, hz, loadCells, loadCellsFrom]
  · cases ha : isAggT (T t) with
    | true =>
      rw [ha] at h
      refine ⟨_, .agg vs.toArray, h, ⟨vs.toArray, rfl, by simpa using hrel⟩, fun u hu => run_load_agg hT hs ha _ vs (by rw [hlen2, hlen]) (hcell u hu)⟩
    | false =>
      rw [ha] at h
      dsimp only at h
      match ks, h, hrel, hlen2 with
      | [k], h, hrel, hlen2 =>
        simp only [cellsK] at hrel
        obtain ⟨v, r, hv, h1, h2⟩ := hrel
        have h0 := fun u hu => hcell u hu 0 v (by rw [hv]; rfl)
        refine ⟨_, v, h, h1, fun u hu => run_load_one hT hs ha _ v ?_⟩
        have h0 := h0 u hu
        rw [addr_add] at h0
        simpa using h0
end
end Go.Proofs.Yteakfibolfapiaa.Ab
end
section
namespace Go.Proofs.Yteakfibolfapiaa.Ab
open Go.RowKit Go.Sort
set_option linter.unusedVariables false
set_option linter.unusedSimpArgs false

section
variable {P : Program} {T : Nat → TI} {ρ : Env} {w : World} {M : Nat → Prop}
theorem part_rel {l : List AV} {cs : List Value} {off size : Nat} {v : AV} (h : RelVs ρ w M l cs) (hp : partOf l off size true = some v) :
    off + size ≤ cs.length ∧ RelV ρ w M v (.agg ((cs.drop off).take size).toArray) := by
  unfold partOf at hp
  cases hb : Nat.ble (off + size) l.length with
  | false => simp [hb] at hp
  | true =>
    simp [hb] at hp
    have hle := Nat.le_of_ble_eq_true hb
    have hlen := RelVs.length _ _ h
    subst hp
    exact ⟨by omega, mkAgg_rel (by simpa using RelVs.take _ _ (RelVs.drop _ _ h off) size)⟩
theorem part_one {l : List AV} {cs : List Value} {off size : Nat} {v : AV} (h : RelVs ρ w M l cs) (hp : partOf l off size false = some v) :
    ∃ x, cs[off]? = some x ∧ RelV ρ w M v x := by
  unfold partOf at hp
  cases hb : Nat.ble (off + size) l.length with
  | false => simp [hb] at hp
  | true =>
    cases hs : (size == 1) with
    | false => simp [hb, hs] at hp
    | true =>
      simp [hb, hs] at hp
      exact RelVs.get _ _ h off v hp
theorem steps_get : ∀ (n off c : Nat) (l xs : List AV), stepsA l off c n = some xs → xs.length = n ∧ ∀ j, j < n → xs[j]? = l[off + j * c]?
  | 0, off, c, l, xs, h => by simp [stepsA] at h; subst h; exact ⟨rfl, fun j hj => absurd hj (Nat.not_lt_zero _)⟩
  | n + 1, off, c, l, xs, h => by
    simp only [stepsA] at h
    cases hx : l[off]? with
    | none => simp [hx] at h
    | some x =>
      cases hr : stepsA l (off + c) c n with
      | none => simp [hx, hr] at h
      | some r =>
        simp [hx, hr] at h
        subst h
        obtain ⟨h1, h2⟩ := steps_get n (off + c) c l r hr
        refine ⟨by simp [h1], fun j hj => ?_⟩
        cases j with
        | zero => simp [hx]
        | succ j =>
          have := h2 j (by omega)
          simp only [List.getElem?_cons_succ]
          rw [this, Nat.add_mul]
          congr 1
          omega
theorem sel_ints {k : IntKind} : ∀ (l : List AV) (xs : List Int), selA.ints k l = some xs → l = xs.map fun x => .d (.int k x)
  | [], xs, h => by simp [selA.ints] at h; subst h; rfl
  | v :: r, xs, h => by
    unfold selA.ints at h
    split at h
    · rename_i heq; cases heq
    · rename_i k' x r' heq
      obtain ⟨rfl, rfl⟩ := List.cons.inj heq
      cases hb : decide (k = k') with
      | false => simp [hb] at h
      | true =>
        have : k = k' := by simpa using hb
        subst this
        cases hr : selA.ints k r with
        | none => simp [hr] at h
        | some ys =>
          simp [hr] at h
          subst h
          rw [sel_ints r ys hr]
          rfl
    · cases h
theorem sel_strs : ∀ (l : List AV) (xs : List (List UInt8)), selA.strs l = some xs → l = xs.map fun x => .d (.str x)
  | [], xs, h => by simp [selA.strs] at h; subst h; rfl
  | v :: r, xs, h => by
    unfold selA.strs at h
    split at h
    · rename_i heq; cases heq
    · rename_i x r' heq
      obtain ⟨rfl, rfl⟩ := List.cons.inj heq
      cases hr : selA.strs r with
      | none => simp [hr] at h
      | some ys =>
        simp [hr] at h
        subst h
        rw [sel_strs r ys hr]
        rfl
    · cases h
theorem sel_bools : ∀ (l : List AV) (xs : List Bool), selA.bools l = some xs → l = xs.map fun x => .d (.bool x)
  | [], xs, h => by simp [selA.bools] at h; subst h; rfl
  | v :: r, xs, h => by
    unfold selA.bools at h
    split at h
    · rename_i heq; cases heq
    · rename_i x r' heq
      obtain ⟨rfl, rfl⟩ := List.cons.inj heq
      cases hr : selA.bools r with
      | none => simp [hr] at h
      | some ys =>
        simp [hr] at h
        subst h
        rw [sel_bools r ys hr]
        rfl
    · cases h
/-- What a letter picks is one of them. -/
theorem sel_eq {i : Int} {xs : List AV} {v : AV} (h : selA real i xs = some v) {x : AV} (hx : xs[i.toNat]? = some x) : v = x := by
  unfold selA at h
  split at h
  · rename_i k x0 r
    cases hr : selA.ints k r with
    | none => simp [hr] at h
    | some ys =>
      simp [hr] at h
      subst h
      rw [sel_ints r ys hr, ← List.map_cons (f := fun x => AV.d (.int k x)), List.getElem?_map] at hx
      simp only [real]
      rw [List.getD_eq_getElem?_getD]
      cases hg : (x0 :: ys)[i.toNat]? with
      | none => rw [hg] at hx; simp at hx
      | some y => rw [hg] at hx; simpa using hx
  · rename_i x0 r
    cases hr : selA.strs r with
    | none => simp [hr] at h
    | some ys =>
      simp [hr] at h
      subst h
      rw [sel_strs r ys hr, ← List.map_cons (f := fun x => AV.d (.str x)), List.getElem?_map] at hx
      simp only [real]
      rw [List.getD_eq_getElem?_getD]
      cases hg : (x0 :: ys)[i.toNat]? with
      | none => rw [hg] at hx; simp at hx
      | some y => rw [hg] at hx; simpa using hx
  · rename_i x0 r
    cases hr : selA.bools r with
    | none => simp [hr] at h
    | some ys =>
      simp [hr] at h
      subst h
      rw [sel_bools r ys hr, ← List.map_cons (f := fun x => AV.d (.bool x)), List.getElem?_map] at hx
      simp only [real]
      rw [List.getD_eq_getElem?_getD]
      cases hg : (x0 :: ys)[i.toNat]? with
      | none => rw [hg] at hx; simp at hx
      | some y => rw [hg] at hx; simpa using hx
  · cases h

theorem obj_cells {n : Nat} {h : Hp} {id : Nat} {l : List AV} (r : Rep ρ n h w) (hg : hget h id = some (.cells l)) :
    ∃ b cs ty, ρ id = some (.pointer (some ⟨b, 0, none⟩)) ∧ w.heap[b]? = some (.cells cs ty (0, 0)) ∧ RelVs ρ w (Mut ρ h) l cs.toList := r.objs id _ (hget_mem hg)
theorem obj_row {n : Nat} {h : Hp} {id c : Nat} {l : List (List D)} (r : Rep ρ n h w) (hg : hget h id = some (.row c l)) :
    ∃ v xs ty, ρ id = some v ∧ 0 < c ∧ w.ownsRow 0 ty c v l.length xs ∧ (∀ r ∈ l, r.length = c) ∧ RelRows w (Mut ρ h) l xs := r.objs id _ (hget_mem hg)

theorem load_gives (hT : TysOK P T) {K : AV → Prop} {st : St} {a : Act} {t : Nat} {x : AV} {vx : Value} (hs : RepS ρ st a w) (hx : RelV ρ w (Mut ρ st.h) x vx) (h : loadA T real st t x K) :
    Gives P ρ w (Mut ρ st.h) K (Instr.loadAt t vx) := by
  have fin : ∀ ad : Addr, Gives P ρ w (Mut ρ st.h) K (loadVar t ad) → Gives P ρ w (Mut ρ st.h) K (Instr.loadAt t (.pointer (some ad))) := by
    rintro ad ⟨av, v, h1, h2, h3⟩
    exact ⟨av, v, h1, h2, by simp [Instr.loadAt, Instr.sureAddr, h3]⟩
  cases x with
  | ptr id off =>
    obtain ⟨b, hb, rfl⟩ := hx
    refine fin _ ?_
    simp only [loadA, ty] at h
    cases hg : hget st.h id with
    | none => simp [hg] at h
    | some o =>
      cases o with
      | row c l => simp [hg] at h
      | mp k m => simp [hg] at h
      | it k e m c0 => simp [hg] at h
      | sit s p => simp [hg] at h
      | bag s p => simp [hg] at h
      | cells l =>
        simp only [hg] at h
        obtain ⟨b', cs, e, hb', hcs, hl⟩ := obj_cells hs.rep hg
        obtain rfl : b = b' := by rw [hb] at hb'; simpa using hb'
        have hsz : (T t).size ≠ 0 ∨ isAggT (T t) = true := by
          cases ha : isAggT (T t) with
          | true => exact .inr rfl
          | false =>
            refine .inl fun e => ?_
            rw [ha, e] at h
            unfold partOf at h
            cases hb : Nat.ble (off + 0) l.length <;> simp [hb] at h
        cases ha : isAggT (T t) with
        | true =>
          rw [ha] at h
          cases hp : partOf l off (T t).size true with
          | none => simp [hp] at h
          | some v =>
            simp only [hp] at h
            obtain ⟨hle, hr⟩ := part_rel hl hp
            by_cases hs0 : (T t).size = 0
            · have hu : (T t).u ≠ .other := by
                intro e; unfold isAggT at ha; rw [e] at ha; simp at ha
              obtain ⟨ti, d, hti, hd, hu2, hs2, -⟩ := hT.of_u rfl hu
              have hz : ti.size = 0 := by rw [← hs2, hs0]
              refine ⟨v, _, h, hr, ?_⟩
              simp [loadVar, hT.agg_u hu, ha, sizeOf, typeInfo, hti, hz, loadCells, loadCellsFrom, hs0]
            · refine ⟨v, _, h, hr, run_load_agg hT hs0 ha _ ((cs.toList.drop off).take (T t).size) (by rw [List.length_take, List.length_drop]; omega) ?_⟩
              intro j y hj
              rw [cells_at hcs]
              rw [List.getElem?_take] at hj
              split at hj
              · rw [List.getElem?_drop] at hj
                rw [← hj, Array.getElem?_toList]
              · cases hj
        | false =>
          rw [ha] at h
          have hs0 : (T t).size ≠ 0 := hsz.resolve_right (by rw [ha]; decide)
          cases hp : partOf l off (T t).size false with
          | none => simp [hp] at h
          | some v =>
            simp only [hp] at h
            obtain ⟨y, hy, hr⟩ := part_one hl hp
            refine ⟨v, y, h, hr, run_load_one hT hs0 ha _ y ?_⟩
            rw [Tr.cell_blk hcs]
            rw [← hy, Array.getElem?_toList]
  | iptr l i f =>
    obtain ⟨b, off, cs, e, fz, c, rfl, h0, hb, hm, hl, hr⟩ := hx
    refine fin _ ?_
    simp only [loadA, ty] at h
    exact (load_row hT hb hl hr h0 h.1 h.2).gives rfl
  | rptr id c i f =>
    obtain ⟨g, n, cap, hg, h0, rfl⟩ := hx
    refine fin _ ?_
    simp only [loadA, ty] at h
    cases ho : hget st.h id with
    | none => simp [ho] at h
    | some o =>
      cases o with
      | cells l => simp [ho] at h
      | mp k m => simp [ho] at h
      | it k e m c0 => simp [ho] at h
      | sit s p => simp [ho] at h
      | bag s p => simp [ho] at h
      | row c' l =>
        simp only [ho] at h
        obtain ⟨rfl, hok, h⟩ := h
        obtain ⟨v, xs, e, hv, hc, hown, hl, hr⟩ := obj_row hs.rep ho
        rw [hg] at hv
        obtain rfl := Option.some.inj hv
        rcases hown.2 with ⟨hv, -⟩ | ⟨g', cap', cur, hv, hb, hgg, hcap, hmx, hsz, ht⟩
        · cases hv
        · simp only [Value.slice.injEq, Option.some.injEq, Addr.mk.injEq, and_true] at hv
          obtain ⟨rfl, rfl, rfl⟩ := hv
          have hpre : ∀ (l : List (List D)) (ys zs : List Value), (∀ r ∈ l, r.length = c') → RelRows w (Mut ρ st.h) l ys → RelRows w (Mut ρ st.h) l (ys ++ zs) ∨ ys.length < l.length * c' := by
            intro l
            induction l with
            | nil => intro ys zs _ _; exact .inl trivial
            | cons r rest ih =>
              intro ys zs hl hr
              obtain ⟨h1, h2⟩ := hr
              have hrl := hl r (by simp)
              have hlen := RelDs.length _ _ h1
              rw [List.length_take] at hlen
              rcases ih (ys.drop r.length) zs (fun x hx => hl x (by simp [hx])) h2 with h3 | h3
              · refine .inl ⟨?_, ?_⟩
                · rw [List.take_append_of_le_length (by omega)]; exact h1
                · rw [List.drop_append_of_le_length (by omega)]; exact h3
              · refine .inr ?_
                rw [List.length_drop] at h3
                rw [List.length_cons, Nat.add_mul]
                omega
          have hrr : RelRows w (Mut ρ st.h) l (cur.toList.drop 0) := by
            rw [List.drop_zero, ← List.take_append_drop (l.length * c') cur.toList, ht]
            rcases hpre l xs _ hl hr with h | h
            · exact h
            · rw [hown.1] at h; exact absurd h (Nat.lt_irrefl _)
          have := (load_row (ρ := ρ) (c := c') hT hgg hl hrr h0 hok h).gives rfl
          rwa [Nat.zero_add] at this
  | aptr id off n c i f =>
    obtain ⟨b, hb, h0, hin, rfl⟩ := hx
    refine fin _ ?_
    simp only [loadA, ty] at h
    cases hg : hget st.h id with
    | none => simp [hg] at h
    | some o =>
      cases o with
      | row c l => simp [hg] at h
      | mp k m => simp [hg] at h
      | it k e m c0 => simp [hg] at h
      | sit s p => simp [hg] at h
      | bag s p => simp [hg] at h
      | cells l =>
        simp only [hg] at h
        obtain ⟨b', cs, e, hb', hcs, hl⟩ := obj_cells hs.rep hg
        obtain rfl : b = b' := by rw [hb] at hb'; simpa using hb'
        cases ha : isAggT (T t) with
        | true => simp [ha] at h
        | false =>
          simp only [ha, cond_false] at h
          obtain ⟨hs1, h⟩ := bif_true h not_false
          have hs1 : (T t).size = 1 := by simpa using hs1
          cases hst : stepsA l (off + f) c n with
          | none => simp [hst] at h
          | some xs =>
            simp only [hst] at h
            cases hse : selA real i xs with
            | none => simp [hse] at h
            | some v =>
              simp only [hse] at h
              obtain ⟨hxl, hxs⟩ := steps_get n (off + f) c l xs hst
              have hiN : i.toNat < n := by omega
              obtain ⟨y, hy⟩ : ∃ y, xs[i.toNat]? = some y := ⟨xs[i.toNat]'(by omega), List.getElem?_eq_getElem (by omega)⟩
              obtain rfl := sel_eq hse hy
              rw [hxs _ hiN] at hy
              obtain ⟨z, hz, hr⟩ := RelVs.get _ _ hl _ _ hy
              refine ⟨v, z, h, hr, run_load_one hT (by omega) ha _ z ?_⟩
              rw [Tr.cell_blk hcs, ← Array.getElem?_toList, ← hz]
              congr 1
              omega
  | _ => simp [loadA] at h
/-- A load of what never turns. -/
def isImmP : AV → Bool
  | .iptr _ _ _ => true
  | _ => false
theorem load_imm (hT : TysOK P T) {K : AV → Prop} {st : St} {t : Nat} {x : AV} {vx : Value} (hi : isImmP x = true) (hx : RelV ρ w M x vx) (h : loadA T real st t x K) :
    GivesU P ρ w M (fun u => ∀ b o, w.heap[b]? = some o → ¬ M b → u.heap[b]? = some o) K (Instr.loadAt t vx) := by
  cases x with
  | iptr l i f =>
    obtain ⟨b, off, cs, e, fz, c, rfl, h0, hb, hm, hl, hr⟩ := hx
    simp only [loadA, ty] at h
    obtain ⟨av, v, h1, h2, h3⟩ := load_row (ρ := ρ) (M := M) hT hb hl hr h0 h.1 h.2
    exact ⟨av, v, h1, h2, fun u hu => by simp [Instr.loadAt, Instr.sureAddr, h3 u (show u.heap[b]? = w.heap[b]? from (hu b _ hb hm).trans hb.symm)]⟩
  | _ => simp [isImmP] at hi
end
end Go.Proofs.Yteakfibolfapiaa.Ab
end

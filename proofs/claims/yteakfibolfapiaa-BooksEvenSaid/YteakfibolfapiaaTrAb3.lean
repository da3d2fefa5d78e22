/- The executor is sound: what it rests on; the operations that touch no memory. -/
import Derived.Test.YteakfibolfapiaaTrAb2
namespace Go.Proofs.Yteakfibolfapiaa.Ab
open Go.RowKit Go.Sort
set_option linter.unusedVariables false
set_option linter.unusedSimpArgs false

/-! data as it is -/
def rBin (op : BinOp) (k : IntKind) (x y : Int) : Int :=
  match op with
  | .add => k.wrap (x + y)
  | .sub => k.wrap (x - y)
  | .mul => k.wrap (x * y)
  | .quo => k.wrap (x.tdiv y)
  | .rem => x.tmod y
  | .and => k.wrap (BitVec.ofInt k.bits x &&& BitVec.ofInt k.bits y).toNat
  | .or => k.wrap (BitVec.ofInt k.bits x ||| BitVec.ofInt k.bits y).toNat
  | .xor => k.wrap (BitVec.ofInt k.bits x ^^^ BitVec.ofInt k.bits y).toNat
  | .andNot => k.wrap (BitVec.ofInt k.bits x &&& ~~~BitVec.ofInt k.bits y).toNat
  | .shl => k.wrap (x * 2 ^ (min y.toNat k.bits))
  | .shr => x.fdiv (2 ^ (min y.toNat k.bits))
  | _ => 0
def rCmp (op : BinOp) (x y : Int) : Bool :=
  match op with
  | .eql => x == y
  | .neq => x != y
  | .lss => decide (x < y)
  | .leq => decide (x ≤ y)
  | .gtr => decide (x > y)
  | .geq => decide (x ≥ y)
  | _ => false
def rScmp (op : BinOp) (x y : List UInt8) : Bool :=
  match op with
  | .eql => x == y
  | .neq => !(x == y)
  | .lss => Op.bytesLess x y
  | .leq => Op.bytesLess x y || x == y
  | .gtr => !(Op.bytesLess x y || x == y)
  | .geq => !Op.bytesLess x y
  | _ => false
def rCell (l : List (List D)) (i : Int) (f : Nat) : D := (l.getD i.toNat []).getD f .nilp
def kdOk : Kd → D → Bool
  | .int k, .int k' _ => decide (k = k')
  | .bool, .bool _ => true
  | .str, .str _ => true
  | .sl, .imm _ => true
  | .sl, .nilsl => true
  | .ptr, .nilp => true
  | .map, .nilm => true
  | _, _ => false
def rowOk : List D → List Kd → Bool
  | _, [] => true
  | [], _ :: _ => false
  | d :: ds, k :: ks => kdOk k d && rowOk ds ks
def immOf : D → List (List D)
  | .imm l => l
  | _ => []
def byteOf : List D → Option UInt8
  | [.int .u8 n] => if 0 ≤ n ∧ n < 256 then some (UInt8.ofNat n.toNat) else none
  | _ => none
def rWf (l : List (List D)) (c : Nat) : Bool := l.all fun r => r.length == c
/-- No struct or array as one cell. -/
def flatD : D → Bool
  | .agg _ => false
  | _ => true
/-- A cell of a map's element. -/
def mcell (l : List (Int × Value)) (k : Int) (j : Nat) : Option Value := (Mk.look l k).bind fun v => v.cells.toList[j]?
def kvOk : Kd → Value → Bool
  | .int k, .int k' _ => decide (k = k')
  | .bool, .bool _ => true
  | .str, .string _ => true
  | _, _ => false
def cvOk : List Kd → List Value → Bool
  | [], [] => true
  | k :: ks, v :: vs => kvOk k v && cvOk ks vs
  | _, _ => false
def valOk (ks : List Kd) : Bool → Value → Bool
  | true, .agg cs => cvOk ks cs.toList
  | true, _ => false
  | false, .agg _ => false
  | false, v => cvOk ks [v]
/-- Flat data are equal. -/
def deq1 : D → D → Bool
  | .int _ a, .int _ b => a == b
  | .bool a, .bool b => a == b
  | .str a, .str b => a == b
  | _, _ => false
def deqL : List D → List D → Bool
  | [], [] => true
  | d :: l, e :: l' => deq1 d e && deqL l l'
  | _, _ => false
def real : Ar where
  bin := rBin
  cmp := rCmp
  wrap := IntKind.wrap
  neg k n := k.wrap (0 - n)
  com k n := k.wrap (BitVec.ofInt k.bits (if k.signed then -1 else k.max) ^^^ BitVec.ofInt k.bits n).toNat
  bnot b := !b
  beq a b := a == b
  pickB c a b := bif c then a else b
  pickI c a b := bif c then a else b
  pickS c a b := bif c then a else b
  inb i n := decide (0 ≤ i ∧ i < n)
  sub2 l h n := decide (0 ≤ l ∧ l ≤ h ∧ h ≤ n)
  minI := min
  maxI := max
  slen s := s.length
  sidx s i := ((s.getD i.toNat 0).toNat : Int)
  scat a b := a ++ b
  ssub s l h := (s.take h.toNat).drop l.toNat
  scmp := rScmp
  scok a b := decide ((a.length + b.length : Int) ≤ 9223372036854775807)
  len l := l.length
  cI l i f := match rCell l i f with | .int _ n => n | _ => 0
  cB l i f := match rCell l i f with | .bool b => b | _ => false
  cS l i f := match rCell l i f with | .str s => s | _ => []
  cL l i f := immOf (rCell l i f)
  okR l i f ks := decide (i.toNat < l.length) && rowOk ((l.getD i.toNat []).drop f) ks
  app a b := a ++ b
  apok a b c bytes := decide (a.length + b.length ≤ maxLen ∧ (a.length + b.length) * bytes ≤ 140737488355328) && b.all fun r => r.length == c && r.all flatD
  sub l lo hi := (l.take hi.toNat).drop lo.toNat
  setc l i f ds := l.set i.toNat (((l.getD i.toNat []).take f) ++ ds ++ ((l.getD i.toNat []).drop (f + ds.length)))
  rep n z := List.replicate n.toNat z
  mkok l c bytes := decide (0 ≤ l ∧ l ≤ c ∧ c ≤ maxLen ∧ bytes * c ≤ 140737488355328)
  nthI l i := l.getD i.toNat 0
  nthB l i := l.getD i.toNat false
  nthS l i := l.getD i.toNat []
  iteI i j x y := if i = (j : Int) then x else y
  iteB i j x y := if i = (j : Int) then x else y
  iteS i j x y := if i = (j : Int) then x else y
  b2s l := l.map fun r => (byteOf r).getD 0
  s2b s := s.map fun b => [.int .u8 (b.toNat : Int)]
  allB l := l.all fun r => (byteOf r).isSome
  wf := rWf
  deq := deqL
  mlen l := l.length
  mhas l k := (Mk.look l k).isSome
  mI l k j := match mcell l k j with | some (.int _ n) => n | _ => 0
  mB l k j := match mcell l k j with | some (.bool b) => b | _ => false
  mS l k j := match mcell l k j with | some (.string s) => s.data.toList | _ => []
  mok l ks agg := l.all fun p => valOk ks agg p.2
  mput := Mk.put
  mdel := Mk.del
  sgo s p := decide (p.toNat < s.length)
  sru s p := ((Utf8.decode ⟨s.toArray⟩ p.toNat).1 : Int)
  snx s p := ((p.toNat + (Utf8.decode ⟨s.toArray⟩ p.toNat).2 : Nat) : Int)

/-! the types -/
def tuOf : Option TypeDesc → TU
  | some .bool => .bool
  | some (.int k) => .int k
  | some .string => .str
  | some (.pointer e) => .ptr e
  | some (.slice e) => .slice e
  | some (.array n e) => .array n e
  | some (.struct fs) => .struct (fs.toList.map fun f => (f.offset, f.type))
  | some (.map k e) => .map k e
  | some (.func _ _ _) => .func
  | some (.interface _) => .iface
  | _ => .other
def zeroD : Value → Option (List D)
  | .agg cs => cdatas cs.toList
  | v => match cdata v with | some d => some [d] | none => none
def tiOf (P : Program) (t : Nat) : TI :=
  ⟨tuOf (P.underlying t), ((P.info? t).map (·.size)).getD 0, ((P.info? t).map (·.bytes)).getD 0, ((P.info? t).bind (·.zero)).bind zeroD⟩
/-- The types that a run is told are the program's, or say nothing. -/
def TyOK (P : Program) (T : Nat → TI) : Prop := ∀ t, (T t).u = .other ∨ ((T t).u = tuOf (P.underlying t) ∧ (P.info? t).isSome = true ∧ (T t).size = ((P.info? t).map (·.size)).getD 0 ∧ (T t).bytes = ((P.info? t).map (·.bytes)).getD 0 ∧
  ((T t).zero = none ∨ (T t).zero = ((P.info? t).bind (·.zero)).bind zeroD))

/-! calls -/
/-- What is known behind a call. -/
def Done (K : CallK) (n : Nat) (ρ : Env) (h : Hp) (w : World) (v : Value) (w' : World) : Prop :=
  ∃ av ρ' n' h', K av n' h' ∧ Rep ρ' n' h' w' ∧ n ≤ n' ∧ RelV ρ' w' (Mut ρ' h') av v ∧ Goes n ρ h w ρ' h' w'
inductive CallE (P : Program) (f : Nat) (args : List AV) (n : Nat) (h : Hp) (K : CallK) : Prop where
  | enter (fn : Func) (hf : P.funcs[f]? = some fn) (hn : (fn.name == "runtime.NumGoroutine") = false) (hb : fn.body.isNone = false)
      (run : ∀ ρ w vs, Rep ρ n h w → RelVs ρ w (Mut ρ h) args vs → Calls P f vs.toArray w fun e w' =>
        ∃ v, e = .returned v ∧ Done K n ρ h w v w')
  | ext (run : ∀ ρ w vs, Rep ρ n h w → RelVs ρ w (Mut ρ h) args vs → ∃ v w', (callFunc f vs.toArray).run P w = .ok (.value v) w' ∧ Done K n ρ h w v w')

/-! states -/
structure RepS (ρ : Env) (st : St) (a : Act) (w : World) : Prop where
  defers : a.defers = []
  fr : RelVs ρ w (Mut ρ st.h) st.fr a.tmps.toList
  rep : Rep ρ st.n st.h w
def Out (K : St → Prop) (n0 : Nat) (ρ : Env) (h : Hp) (w : World) : Act → World → Prop := fun a' w' => ∃ ρ' st', K st' ∧ RepS ρ' st' a' w' ∧ n0 ≤ st'.n ∧ Goes n0 ρ h w ρ' st'.h w'
theorem RelVs.getD {ρ : Env} {w : World} {M : Nat → Prop} : ∀ (l : List AV) (vs : List Value), RelVs ρ w M l vs → ∀ i, RelV ρ w M (l.getD i (.tup [])) (vs.getD i undef)
  | [], vs, r, i => by rw [show vs = [] from r]; exact ⟨#[], rfl, rfl⟩
  | d :: ds, vs, ⟨v, rest, hv, r1, r2⟩, 0 => by subst hv; exact r1
  | d :: ds, vs, ⟨v, rest, hv, r1, r2⟩, i + 1 => by subst hv; exact RelVs.getD ds rest r2 i
theorem cdata_rel {w : World} {M : Nat → Prop} {v : Value} {d : D} (h : cdata v = some d) : RelD w M d v := by
  cases v with
  | int k n => simp [cdata] at h; subst h; rfl
  | bool b => simp [cdata] at h; subst h; rfl
  | string s => simp [cdata] at h; subst h; simp [RelD]
  | pointer a => cases a <;> simp [cdata] at h; subst h; rfl
  | slice a n c =>
    cases a with
    | some a => simp [cdata] at h
    | none => cases n <;> cases c <;> simp [cdata] at h; subst h; rfl
  | map r => cases r <;> simp [cdata] at h; subst h; rfl
  | nilIface => simp [cdata] at h; subst h; rfl
  | _ => simp [cdata] at h
theorem cdatas_rel {w : World} {M : Nat → Prop} : ∀ (l : List Value) (x : List D), cdatas l = some x → RelDs w M x l
  | [], x, h => by simp [cdatas] at h; subst h; rfl
  | v :: r, x, h => by
    simp only [cdatas] at h
    cases hd : cdata v with
    | none => simp [hd] at h
    | some d =>
      cases hr : cdatas r with
      | none => simp [hd, hr] at h
      | some y =>
        simp [hd, hr] at h
        subst h
        exact ⟨v, r, rfl, cdata_rel hd, cdatas_rel r y hr⟩
theorem cval_rel (ρ : Env) (w : World) (M : Nat → Prop) (v : Value) : RelV ρ w M (cval v) v := by
  have key : ∀ v : Value, RelV ρ w M (match cdata v with | some d => .d d | none => .top) v := by
    intro v
    cases h : cdata v with
    | none => exact trivial
    | some d => exact cdata_rel h
  unfold cval
  split
  · exact ⟨#[], rfl, rfl⟩
  · exact ⟨#[], rfl, rfl⟩
  · rename_i l
    cases h : cdatas l with
    | none => exact trivial
    | some x => exact ⟨⟨l⟩, rfl, cdatas_rel l x h⟩
  · exact key v
theorem ev_rel {ρ : Env} {st : St} {a : Act} {w : World} (h : RepS ρ st a w) (x : Operand) : RelV ρ w (Mut ρ st.h) (st.ev x) (a.eval x) := by
  cases x with
  | tmp t =>
    have := RelVs.getD _ _ h.fr t
    simpa [St.ev, Act.eval] using this
  | const v => exact cval_rel _ _ _ v
  | global g => exact trivial
  | func f => exact ⟨#[], rfl, rfl⟩
theorem evs_rel {ρ : Env} {st : St} {a : Act} {w : World} (h : RepS ρ st a w) : ∀ l : List Operand, RelVs ρ w (Mut ρ st.h) (evs st l) (l.map a.eval)
  | [] => rfl
  | x :: r => ⟨_, _, rfl, ev_rel h x, evs_rel h r⟩
theorem put_rel {ρ : Env} {w : World} {st : St} {a : Act} {M : Nat → Prop} {av : AV} {v : Value} (dst : Option Nat) (h : RelVs ρ w M st.fr a.tmps.toList) (r : RelV ρ w M av v) : RelVs ρ w M (st.put dst av).fr (a.put dst v).tmps.toList := by
  cases dst with
  | none => exact h
  | some d =>
    have := RelVs.set r st.fr a.tmps.toList h d
    simpa [St.put, Act.put] using this
theorem put_h (st : St) (dst : Option Nat) (v : AV) : (st.put dst v).h = st.h := by cases dst <;> rfl
theorem put_n (st : St) (dst : Option Nat) (v : AV) : (st.put dst v).n = st.n := by cases dst <;> rfl
theorem put_defers (a : Act) (dst : Option Nat) (v : Value) : (a.put dst v).defers = a.defers := by cases dst <;> rfl
/-- Behind an operation that gives a value. -/
theorem out_value {K : St → Prop} {ρ ρ' : Env} {st : St} {a : Act} {w w' : World} {n' : Nat} {h' : Hp} {dst : Option Nat} {av : AV} {v : Value} (h : RepS ρ st a w) (rep : Rep ρ' n' h' w') (rel : RelV ρ' w' (Mut ρ' h') av v)
    (g : Goes st.n ρ st.h w ρ' h' w') (hn : st.n ≤ n') (hK : K (({ st with n := n', h := h' } : St).put dst av)) : Out K st.n ρ st.h w (a.put dst v) w' := by
  refine ⟨ρ', _, hK, ⟨?_, ?_, ?_⟩, ?_, ?_⟩
  · rw [put_defers]; exact h.defers
  · rw [put_h]; exact put_rel (st := { st with n := n', h := h' }) dst (RelVs.mono (g.sub h.rep.fresh) g.keeps _ _ h.fr) rel
  · rw [put_h, put_n]; exact rep
  · rw [put_n]; exact hn
  · rw [put_h]; exact g
theorem out_same {K : St → Prop} {ρ : Env} {st : St} {a : Act} {w : World} {dst : Option Nat} {av : AV} {v : Value} (h : RepS ρ st a w) (rel : RelV ρ w (Mut ρ st.h) av v) (hK : K (st.put dst av)) : Out K st.n ρ st.h w (a.put dst v) w :=
  out_value (n' := st.n) (h' := st.h) h h.rep rel (Goes.refl _ _ _ _) (Nat.le_refl _) hK
theorem wp_value {P : Program} {o : Oper} {a : Act} {w w' : World} {v : Value} {next : Act → World → Prop} {Q : Exit → Act → World → Prop} (hr : (execOp a.eval o).run P w = .ok (.value v) w') (h : next (a.put o.dst v) w') : o.wp P a w next Q := by
  unfold Oper.wp
  rw [hr]
  exact h
end Go.Proofs.Yteakfibolfapiaa.Ab

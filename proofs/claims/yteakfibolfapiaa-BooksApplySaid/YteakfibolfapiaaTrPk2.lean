/- Several texts in one: Ab1, Ab2. -/
import Derived.Test.YteakfibolfapiaaTrPk1
import Derived.Control
import Derived.Calls
section
namespace Go.Proofs.Yteakfibolfapiaa.Ab
open Go.RowKit Go.Sort
set_option linter.unusedVariables false
set_option linter.unusedSimpArgs false

/-- Kinds of one cell. -/
inductive Kd where
  | int (k : IntKind) | bool | str | sl | ptr | map
  deriving Inhabited, DecidableEq
inductive TU where
  | bool | int (k : IntKind) | str | ptr (e : Nat) | slice (e : Nat) | array (n e : Nat) | struct (fs : List (Nat × Nat)) | map (k e : Nat) | func | iface | other
  deriving Inhabited
/-- A type as a run needs it. -/
structure TI where
  u : TU
  size : Nat
  bytes : Nat
  zero : Option (List D)
  deriving Inhabited
/-- What is done with data. -/
structure Ar where
  bin : BinOp → IntKind → Int → Int → Int
  cmp : BinOp → Int → Int → Bool
  wrap : IntKind → Int → Int
  neg : IntKind → Int → Int
  com : IntKind → Int → Int
  bnot : Bool → Bool
  beq : Bool → Bool → Bool
  pickB : Bool → Bool → Bool → Bool
  pickI : Bool → Int → Int → Int
  pickS : Bool → List UInt8 → List UInt8 → List UInt8
  inb : Int → Int → Bool
  sub2 : Int → Int → Int → Bool
  minI : Int → Int → Int
  maxI : Int → Int → Int
  slen : List UInt8 → Int
  sidx : List UInt8 → Int → Int
  scat : List UInt8 → List UInt8 → List UInt8
  ssub : List UInt8 → Int → Int → List UInt8
  scmp : BinOp → List UInt8 → List UInt8 → Bool
  scok : List UInt8 → List UInt8 → Bool
  len : List (List D) → Int
  cI : List (List D) → Int → Nat → Int
  cB : List (List D) → Int → Nat → Bool
  cS : List (List D) → Int → Nat → List UInt8
  cL : List (List D) → Int → Nat → List (List D)
  okR : List (List D) → Int → Nat → List Kd → Bool
  app : List (List D) → List (List D) → List (List D)
  apok : List (List D) → List (List D) → Nat → Nat → Bool
  sub : List (List D) → Int → Int → List (List D)
  setc : List (List D) → Int → Nat → List D → List (List D)
  rep : Int → List D → List (List D)
  mkok : Int → Int → Nat → Bool
  nthI : List Int → Int → Int
  nthB : List Bool → Int → Bool
  nthS : List (List UInt8) → Int → List UInt8
  iteI : Int → Nat → Int → Int → Int
  iteB : Int → Nat → Bool → Bool → Bool
  iteS : Int → Nat → List UInt8 → List UInt8 → List UInt8
  b2s : List (List D) → List UInt8
  s2b : List UInt8 → List (List D)
  allB : List (List D) → Bool
  wf : List (List D) → Nat → Bool
  deq : List D → List D → Bool
  mlen : List (Int × Value) → Int
  mhas : List (Int × Value) → Int → Bool
  mI : List (Int × Value) → Int → Nat → Int
  mB : List (Int × Value) → Int → Nat → Bool
  mS : List (Int × Value) → Int → Nat → List UInt8
  mok : List (Int × Value) → List Kd → Bool → Bool
  mput : List (Int × Value) → Int → Value → List (Int × Value)
  mdel : List (Int × Value) → Int → List (Int × Value)
  sgo : List UInt8 → Int → Bool
  sru : List UInt8 → Int → Int
  snx : List UInt8 → Int → Int

structure St where
  fr : List AV
  n : Nat
  h : Hp
def St.put (st : St) (dst : Option Nat) (v : AV) : St :=
  match dst with
  | some d => { st with fr := st.fr.set d v }
  | none => st
def cdata : Value → Option D
  | .int k n => some (.int k n)
  | .bool b => some (.bool b)
  | .string s => some (.str s.data.toList)
  | .pointer none => some .nilp
  | .slice none 0 0 => some .nilsl
  | .map none => some .nilm
  | .nilIface => some .nili
  | _ => none
def cdatas : List Value → Option (List D)
  | [] => some []
  | v :: r => match cdata v, cdatas r with | some d, some l => some (d :: l) | _, _ => none
def cval : Value → AV
  | .func (.func f) ⟨[]⟩ ⟨[]⟩ => .fn f []
  | .tuple ⟨[]⟩ => .tup []
  | .agg ⟨l⟩ => match cdatas l with | some x => .d (.agg x) | none => .top
  | v => match cdata v with | some d => .d d | none => .top
def St.ev (st : St) : Operand → AV
  | .tmp t => st.fr.getD t (.tup [])
  | .const v => cval v
  | .global g => .top
  | .func f => .fn f []
def hget : Hp → Nat → Option Ob
  | [], _ => none
  | (i, o) :: r, id => bif i == id then some o else hget r id
def hset : Hp → Nat → Ob → Hp
  | [], _, _ => []
  | (i, o) :: r, id, o' => bif i == id then (i, o') :: r else (i, o) :: hset r id o'
def hdel : Hp → Nat → Hp
  | [], _ => []
  | (i, o) :: r, id => bif i == id then r else (i, o) :: hdel r id

/-! values and cells -/
def dsOf : List AV → Option (List D)
  | [] => some []
  | .d x :: r => match dsOf r with | some l => some (x :: l) | none => none
  | _ :: _ => none
/-- A struct or array of cells. -/
def mkAgg (l : List AV) : AV := match dsOf l with | some x => .d (.agg x) | none => .agg l
def cellsOf : AV → List AV
  | .agg l => l
  | .d (.agg l) => l.map .d
  | v => [v]
def aggOf : AV → Option (List AV)
  | .agg l => some l
  | .d (.agg l) => some (l.map .d)
  | _ => none
def isAggT (ti : TI) : Bool := match ti.u with | .struct _ => true | .array _ _ => true | _ => false
def kindOf (ti : TI) : Option Kd :=
  match ti.u with
  | .bool => some .bool | .int k => some (.int k) | .str => some .str | .ptr _ => some .ptr | .slice _ => some .sl | .map _ _ => some .map | _ => none
def ty (T : Nat → TI) (t : Nat) : TI := T t
/-- The kinds of a type's cells. -/
def kinds (T : Nat → TI) : Nat → Nat → List Kd
  | 0, _ => []
  | n + 1, t =>
    match (ty T t).u with
    | .struct fs => fs.flatMap fun f => kinds T n f.2
    | .array m e => (List.replicate m (kinds T n e)).flatten
    | _ => match kindOf (ty T t) with | some k => [k] | none => []
def cellK (A : Ar) (l : List (List D)) (i : Int) (f : Nat) : Kd → D
  | .int k => .int k (A.cI l i f)
  | .bool => .bool (A.cB l i f)
  | .str => .str (A.cS l i f)
  | .sl => .imm (A.cL l i f)
  | .ptr => .nilp
  | .map => .nilm
def cellsK (A : Ar) (l : List (List D)) (i : Int) (f : Nat) : List Kd → List D
  | [] => []
  | k :: ks => cellK A l i f k :: cellsK A l i (f + 1) ks
def setMany : List AV → Nat → List AV → List AV
  | l, _, [] => l
  | l, i, v :: vs => setMany (l.set i v) (i + 1) vs
def partOf (l : List AV) (off size : Nat) (agg : Bool) : Option AV :=
  bif Nat.ble (off + size) l.length then
    bif agg then some (mkAgg ((l.drop off).take size)) else (bif size == 1 then l[off]? else none)
  else none
/-- One of several like cells, by a letter. -/
def selA (A : Ar) (i : Int) : List AV → Option AV
  | .d (.int k x) :: r => match ints k r with | some xs => some (.d (.int k (A.nthI (x :: xs) i))) | none => none
  | .d (.str x) :: r => match strs r with | some xs => some (.d (.str (A.nthS (x :: xs) i))) | none => none
  | .d (.bool x) :: r => match bools r with | some xs => some (.d (.bool (A.nthB (x :: xs) i))) | none => none
  | _ => none
where
  ints (k : IntKind) : List AV → Option (List Int)
    | [] => some []
    | .d (.int k' x) :: r => bif decide (k = k') then (match ints k r with | some xs => some (x :: xs) | none => none) else none
    | _ => none
  strs : List AV → Option (List (List UInt8))
    | [] => some []
    | .d (.str x) :: r => match strs r with | some xs => some (x :: xs) | none => none
    | _ => none
  bools : List AV → Option (List Bool)
    | [] => some []
    | .d (.bool x) :: r => match bools r with | some xs => some (x :: xs) | none => none
    | _ => none
/-- The cells at j, j + c, .. -/
def stepsA (l : List AV) (off c : Nat) : Nat → Option (List AV)
  | 0 => some []
  | n + 1 => match l[off]?, stepsA l (off + c) c n with | some x, some r => some (x :: r) | _, _ => none
def iteA (A : Ar) (i : Int) (j : Nat) (new old : AV) : Option AV :=
  match new, old with
  | .d (.int k x), .d (.int k' y) => bif decide (k = k') then some (.d (.int k (A.iteI i j x y))) else none
  | .d (.str x), .d (.str y) => some (.d (.str (A.iteS i j x y)))
  | .d (.bool x), .d (.bool y) => some (.d (.bool (A.iteB i j x y)))
  | _, _ => none
/-- A cell that a letter picks becomes v: each of them, perhaps. -/
def setA (A : Ar) (i : Int) (v : AV) (l : List AV) (off c j : Nat) : Nat → Option (List AV)
  | 0 => some l
  | n + 1 =>
    match l[off]? with
    | none => none
    | some old =>
      match iteA A i j v old with
      | none => none
      | some x => setA A i v (l.set off x) (off + c) c (j + 1) n

/-! memory -/
def loadA (T : Nat → TI) (A : Ar) (st : St) (t : Nat) (a : AV) (K : AV → Prop) : Prop :=
  match a with
  | .ptr id off =>
    match hget st.h id with
    | some (.cells l) => match partOf l off (ty T t).size (isAggT (ty T t)) with | some v => K v | none => False
    | _ => False
  | .iptr l i f =>
    let ks := kinds T 8 t
    (A.okR l i f ks = true ∧ (ks.length = (ty T t).size)) ∧
      (match isAggT (ty T t) with | true => K (.d (.agg (cellsK A l i f ks))) | false => (match ks with | [k] => K (.d (cellK A l i f k)) | _ => False))
  | .rptr id c i f =>
    match hget st.h id with
    | some (.row c' l) =>
      let ks := kinds T 8 t
      (c' = c) ∧ (A.okR l i f ks = true ∧ (ks.length = (ty T t).size)) ∧
        (match isAggT (ty T t) with | true => K (.d (.agg (cellsK A l i f ks))) | false => (match ks with | [k] => K (.d (cellK A l i f k)) | _ => False))
    | _ => False
  | .aptr id off n c i f =>
    match hget st.h id with
    | some (.cells l) =>
      (bif isAggT (ty T t) then False else
        bif (ty T t).size == 1 then
          match stepsA l (off + f) c n with | some xs => (match selA A i xs with | some v => K v | none => False) | none => False
        else False)
    | _ => False
  | _ => False
/-- No struct or array as one cell, and known. -/
def flatV : AV → Bool
  | .agg _ => false
  | .d (.agg _) => false
  | .top => false
  | .tup _ => false
  | _ => true
def flatVs : List AV → Bool
  | [] => true
  | v :: r => bif flatV v then flatVs r else false
def storeA (T : Nat → TI) (A : Ar) (st : St) (t : Nat) (a v : AV) (K : St → Prop) : Prop :=
  bif (cellsOf v).length == (ty T t).size && flatVs (cellsOf v) && Nat.blt 0 (ty T t).size then
    match a with
    | .ptr id off =>
      match hget st.h id with
      | some (.cells l) => bif Nat.ble (off + (ty T t).size) l.length then K { st with h := hset st.h id (.cells (setMany l off (cellsOf v))) } else False
      | _ => False
    | .rptr id c i f =>
      match hget st.h id, dsOf (cellsOf v) with
      | some (.row c' l), some ds => (c' = c ∧ A.inb i (A.len l) = true) ∧ (bif Nat.ble (f + ds.length) c then K { st with h := hset st.h id (.row c (A.setc l i f ds)) } else False)
      | _, _ => False
    | .aptr id off n c i f =>
      match hget st.h id with
      | some (.cells l) =>
        (bif (ty T t).size == 1 then
          match cellsOf v with
          | [x] => (match setA A i x l (off + f) c 0 n with | some l' => K { st with h := hset st.h id (.cells l') } | none => False)
          | _ => False
        else False)
      | _ => False
    | _ => False
  else False
def fieldA (off : Nat) : AV → AV
  | .ptr id o => .ptr id (o + off)
  | .iptr l i f => .iptr l i (f + off)
  | .rptr id c i f => .rptr id c i (f + off)
  | .aptr id o n c i f => .aptr id o n c i (f + off)
  | _ => .top
def constI : Operand → Option Int
  | .const (.int _ n) => some n
  | _ => none
def indexAddrA (T : Nat → TI) (A : Ar) (st : St) (t : Nat) (x : AV) (ix : Operand) (K : AV → Prop) : Prop :=
  match st.ev ix with
  | .d (.int _ i) =>
    match (ty T t).u with
    | .array n e =>
      bif Nat.blt 0 (ty T e).size then
      (match x with
      | .ptr id off =>
        (match constI ix with
        | some (.ofNat j) => bif Nat.blt j n then K (.ptr id (off + j * (ty T e).size)) else False
        | some _ => False
        | none => A.inb i n = true ∧ K (.aptr id off n (ty T e).size i 0))
      | .rptr id c i' f => (match constI ix with
        | some (.ofNat j) => bif Nat.blt j n then K (.rptr id c i' (f + j * (ty T e).size)) else False
        | _ => False)
      | .iptr l i' f => (match constI ix with
        | some (.ofNat j) => bif Nat.blt j n then K (.iptr l i' (f + j * (ty T e).size)) else False
        | _ => False)
      | _ => False)
      else False
    | .slice e =>
      bif Nat.blt 0 (ty T e).size then
      (match x with
      | .sl id =>
        (match hget st.h id with
        | some (.row c l) => (c = (ty T e).size ∧ A.inb i (A.len l) = true) ∧ K (.rptr id c i 0)
        | _ => False)
      | .d (.imm l) => (A.inb i (A.len l) = true ∧ A.wf l (ty T e).size = true) ∧ K (.iptr l i 0)
      | _ => False)
      else False
    | _ => False
  | _ => False
def indexA (T : Nat → TI) (A : Ar) (st : St) (t : Nat) (x : AV) (ix : Operand) (K : AV → Prop) : Prop :=
  match st.ev ix with
  | .d (.int _ i) =>
    match (ty T t).u with
    | .str => (match x with | .d (.str s) => A.inb i (A.slen s) = true ∧ K (.d (.int .u8 (A.sidx s i))) | _ => False)
    | .array n e =>
      match (bif Nat.blt 0 (ty T e).size then aggOf x else none) with
      | some l =>
        (match constI ix with
        | some (.ofNat j) => bif Nat.blt j n then (match partOf l (j * (ty T e).size) (ty T e).size (isAggT (ty T e)) with | some v => K v | none => False) else False
        | some _ => False
        | none =>
          bif isAggT (ty T e) then False else
          bif (ty T e).size == 1 then
            (A.inb i n = true ∧ match stepsA l 0 1 n with | some xs => (match selA A i xs with | some v => K v | none => False) | none => False)
          else False)
      | none => False
    | _ => False
  | _ => False
def binA (A : Ar) (op : BinOp) (x y : AV) (K : AV → Prop) : Prop :=
  match x, y with
  | .d (.int k a), .d (.int k' b) =>
    match op with
    | .add => (bif decide (k = k') then K (.d (.int k (A.bin .add k a b))) else False)
    | .sub => (bif decide (k = k') then K (.d (.int k (A.bin .sub k a b))) else False)
    | .mul => (bif decide (k = k') then K (.d (.int k (A.bin .mul k a b))) else False)
    | .quo => (bif decide (k = k') then A.cmp .neq b 0 = true ∧ K (.d (.int k (A.bin .quo k a b))) else False)
    | .rem => (bif decide (k = k') then A.cmp .neq b 0 = true ∧ K (.d (.int k (A.bin .rem k a b))) else False)
    | .and => (bif decide (k = k') then K (.d (.int k (A.bin .and k a b))) else False)
    | .or => (bif decide (k = k') then K (.d (.int k (A.bin .or k a b))) else False)
    | .xor => (bif decide (k = k') then K (.d (.int k (A.bin .xor k a b))) else False)
    | .andNot => (bif decide (k = k') then K (.d (.int k (A.bin .andNot k a b))) else False)
    | .shl => A.cmp .geq b 0 = true ∧ K (.d (.int k (A.bin .shl k a b)))
    | .shr => A.cmp .geq b 0 = true ∧ K (.d (.int k (A.bin .shr k a b)))
    | c => (bif decide (k = k') then K (.d (.bool (A.cmp c a b))) else False)
  | .d (.str a), .d (.str b) =>
    match op with
    | .add => A.scok a b = true ∧ K (.d (.str (A.scat a b)))
    | .eql => K (.d (.bool (A.scmp .eql a b)))
    | .neq => K (.d (.bool (A.scmp .neq a b)))
    | .lss => K (.d (.bool (A.scmp .lss a b)))
    | .leq => K (.d (.bool (A.scmp .leq a b)))
    | .gtr => K (.d (.bool (A.scmp .gtr a b)))
    | .geq => K (.d (.bool (A.scmp .geq a b)))
    | _ => False
  | _, _ => False
/-- What is shown of all that may come. -/
structure Al {α : Type} (p : α → Prop) (k : α → Prop) : Prop where
  h : ∀ x, p x → k x
/-- Data of just these kinds, flat. -/
def ksOk : List D → List Kd → Bool
  | [], [] => true
  | .int k' _ :: ds, .int k :: ks => bif decide (k' = k) then ksOk ds ks else false
  | .bool _ :: ds, .bool :: ks => ksOk ds ks
  | .str _ :: ds, .str :: ks => ksOk ds ks
  | _, _ => false
/-- Equality where no int and no string is compared. -/
def eqA (T : Nat → TI) (A : Ar) (neq cst : Bool) (t : Nat) (x y : AV) (K : AV → Prop) : Prop :=
  let say (b : Bool) : Prop := K (.d (.bool (bif neq then (bif b then false else true) else b)))
  match (ty T t).u with
  | .bool => (match x, y with | .d (.bool a), .d (.bool b) => K (.d (.bool (bif neq then A.bnot (A.beq a b) else A.beq a b))) | _, _ => False)
  | .ptr _ =>
    (match x, y with
    | .d .nilp, .d .nilp => say true
    | .ptr _ _, .d .nilp => say false
    | .rptr _ _ _ _, .d .nilp => say false
    | .iptr _ _ _, .d .nilp => say false
    | .d .nilp, .ptr _ _ => say false
    | _, _ => False)
  | .slice _ =>
    (match x, y with
    | .d .nilsl, .d .nilsl => say true
    | .d (.imm l), .d .nilsl => Al (fun b => b = true → l = []) fun b => say b
    | _, _ => False)
  | .map _ _ =>
    (match x, y with
    | .d .nilm, .d .nilm => say true
    | .map _, .d .nilm => say false
    | _, _ => False)
  | .struct _ =>
    (match x, y with
    | .d (.agg l), .d (.agg l') => (bif eqT t && ksOk l (kinds T 8 t) && ksOk l' (kinds T 8 t) then K (.d (.bool (bif neq then A.bnot (A.deq l l') else A.deq l l'))) else False)
    | _, _ => False)
  | .iface =>
    (match x, y with
    | .d .nili, .d .nili => (bif cst then say true else False)
    | .ifc _ _, .d .nili => say false
    | .d .nili, .ifc _ _ => say false
    | .ifc t1 (.d (.int k a)), .ifc t2 (.d (.int k' b)) =>
      (bif t1 == t2 then (match (ty T t1).u with
        | .int _ => (bif decide (k = k') then K (.d (.bool (bif neq then A.bnot (A.cmp .eql a b) else A.cmp .eql a b))) else False)
        | _ => False)
      else say false)
    | _, _ => False)
  | _ => False
def unA (A : Ar) (op : UnOp) (x : AV) (K : AV → Prop) : Prop :=
  match op, x with
  | .neg, .d (.int k n) => K (.d (.int k (A.neg k n)))
  | .xor, .d (.int k n) => K (.d (.int k (A.com k n)))
  | .not, .d (.bool b) => K (.d (.bool (A.bnot b)))
  | _, _ => False
def rowsOf (st : St) : AV → Option (List (List D))
  | .d (.imm l) => some l
  | .d .nilsl => some []
  | .sl id => match hget st.h id with | some (.row _ l) => some l | _ => none
  | _ => none
def convA (T : Nat → TI) (A : Ar) (st : St) (s d : Nat) (x : AV) (K : AV → Prop) : Prop :=
  match (ty T s).u, (ty T d).u, x with
  | .int _, .int k, .d (.int _ n) => K (.d (.int k (A.wrap k n)))
  | .str, .str, .d (.str v) => K (.d (.str v))
  | .slice e, .str, v =>
    (match (ty T e).u, rowsOf st v with
    | .int .u8, some l => (A.allB l = true ∧ A.wf l 1 = true) ∧ K (.d (.str (A.b2s l)))
    | _, _ => False)
  | .str, .slice e, .d (.str v) => (match (ty T e).u with | .int .u8 => K (.d (.imm (A.s2b v))) | _ => False)
  | _, _, _ => False
def optI (st : St) : Option Operand → Option (Option Int)
  | none => some none
  | some o => match st.ev o with | .d (.int _ n) => some (some n) | _ => none
def sliceA (T : Nat → TI) (A : Ar) (st : St) (t : Nat) (x : AV) (lo hi mx : Option Operand) (K : St → AV → Prop) : Prop :=
  match mx, optI st lo, optI st hi with
  | none, some l, some h =>
    match (ty T t).u, x with
    | .str, .d (.str s) =>
      let l' := l.getD 0
      let h' := h.getD (A.slen s)
      A.sub2 l' h' (A.slen s) = true ∧ K st (.d (.str (A.ssub s l' h')))
    | .slice e, .d .nilsl =>
      let l' := l.getD 0
      let h' := h.getD 0
      (A.sub2 l' h' 0 = true ∧ (ty T e).size ≠ 0) ∧ K st (.d .nilsl)
    | .slice e, .d (.imm r) =>
      let l' := l.getD 0
      let h' := h.getD (A.len r)
      (A.sub2 l' h' (A.len r) = true ∧ A.wf r (ty T e).size = true ∧ (ty T e).size ≠ 0) ∧ K st (.d (.imm (A.sub r l' h')))
    | .slice e, .sl id =>
      (match hget st.h id with
      | some (.row c r) =>
        let l' := l.getD 0
        let h' := h.getD (A.len r)
        (A.sub2 l' h' (A.len r) = true ∧ c = (ty T e).size) ∧ K { st with h := hdel st.h id } (.d (.imm (A.sub r l' h')))
      | _ => False)
    | .array n e, .ptr id 0 =>
      (match hget st.h id with
      | some (.cells cs) =>
        (match dsOf cs with
        | some ds =>
          let l' := l.getD 0
          let h' := h.getD n
          (bif (ty T e).size == 1 then (bif ds.length == n then A.sub2 l' h' n = true ∧ K { st with h := hdel st.h id } (.d (.imm (A.sub (ds.map fun d => [d]) l' h'))) else False) else False)
        | none => False)
      | _ => False)
    | _, _ => False
  | _, _, _ => False
def fillA (l : List AV) : List (Nat × List AV) → Option (List AV)
  | [] => some l
  | (off, vs) :: r => bif Nat.ble (off + vs.length) l.length then fillA (setMany l off vs) r else none
def chunks (c : Nat) : Nat → List D → List (List D)
  | 0, _ => []
  | n + 1, l => l.take c :: chunks c n (l.drop c)
def zerosOf (T : Nat → TI) (t : Nat) : Option (List AV) := (ty T t).zero.map (·.map .d)
/-- The parts of a literal: where each lies. -/
def partsA (T : Nat → TI) (t : Nat) (ps : List (Nat × AV)) : Option (List (Nat × List AV)) :=
  match (ty T t).u with
  | .struct fs => bif fs.all fun f => Nat.blt 0 (ty T f.2).size then go (fun i => (fs[i]?).map fun f => (f.1, (ty T f.2).size)) ps else none
  | .array n e => bif Nat.blt 0 (ty T e).size then go (fun i => some (i * (ty T e).size, (ty T e).size)) ps else none
  | _ => none
where
  go (at_ : Nat → Option (Nat × Nat)) : List (Nat × AV) → Option (List (Nat × List AV))
    | [] => some []
    | (i, v) :: r =>
      match at_ i, go at_ r with
      | some (off, size), some l => bif (cellsOf v).length == size then some ((off, cellsOf v) :: l) else none
      | _, _ => none
/-- No part is unknown. -/
def noTop : List (Nat × AV) → Bool
  | [] => true
  | (_, .top) :: _ => false
  | _ :: r => noTop r
def buildA (T : Nat → TI) (t : Nat) (ps : List (Nat × AV)) (K : AV → Prop) : Prop :=
  bif noTop ps && Nat.blt 0 (ty T t).size then
    match zerosOf T t, partsA T t ps with
    | some z, some l => (match fillA z l with | some cs => K (mkAgg cs) | none => False)
    | _, _ => False
  else False
def bsliceA (T : Nat → TI) (t len : Nat) (ps : List (Nat × AV)) (K : List (List D) → Nat → Prop) : Prop :=
  match (ty T t).u with
  | .slice e =>
    bif noTop ps then
    match zerosOf T e, partsA.go (fun i => some (i * (ty T e).size, (ty T e).size)) ps with
    | some z, some l =>
      (match fillA ((List.replicate len z).flatten) l with
      | some cs => (match dsOf cs with | some ds => (bif Nat.blt (len * (ty T e).size) 16777216 then (bif Nat.blt 0 (ty T e).size && (z.length == (ty T e).size) then K (chunks (ty T e).size len ds) (ty T e).size else False) else False) | none => False)
      | none => False)
    | _, _ => False
    else False
  | _ => False
def pickA (A : Ar) (c a b : AV) (K : AV → Prop) : Prop :=
  match c with
  | .d (.bool c) =>
    (match a, b with
    | .d (.bool x), .d (.bool y) => K (.d (.bool (A.pickB c x y)))
    | .d (.int k x), .d (.int k' y) => (bif decide (k = k') then K (.d (.int k (A.pickI c x y))) else False)
    | .d (.str x), .d (.str y) => K (.d (.str (A.pickS c x y)))
    | a, b => match c with | true => K a | false => K b)
  | _ => False
end Go.Proofs.Yteakfibolfapiaa.Ab
end
section
namespace Go.Proofs.Yteakfibolfapiaa.Ab
open Go.RowKit Go.Sort
set_option linter.unusedVariables false
set_option linter.unusedSimpArgs false

/-- What a run is told beside the code: types; which rows are frozen ahead of an operation; which literals are rows of their own; how often loops are unrolled (never: they ask for what stays). -/
structure Hints where
  fz : List ((Nat × Nat) × List Nat)
  own : List (Nat × Nat)
  unr : Nat
abbrev CallK := AV → Nat → Hp → Prop
abbrev CallS := Nat → List AV → Nat → Hp → CallK → Prop

/-! freezing -/
mutual
def frzV (id : Nat) (l : List (List D)) : AV → AV
  | .d x => .d x
  | .ptr i off => bif i == id then .iptr l 0 off else .ptr i off
  | .iptr l' i f => .iptr l' i f
  | .rptr i c j f => bif i == id then .top else .rptr i c j f
  | .aptr i off n c j f => bif i == id then .top else .aptr i off n c j f
  | .sl i => bif i == id then .d (.imm l) else .sl i
  | .map i => .map i
  | .iter i => .iter i
  | .agg vs => .agg (frzVs id l vs)
  | .tup vs => .tup (frzVs id l vs)
  | .fn f vs => .fn f (frzVs id l vs)
  | .ifc t x => .ifc t (frzV id l x)
  | .top => .top
  | .raw v => .raw v
def frzVs (id : Nat) (l : List (List D)) : List AV → List AV
  | [] => []
  | v :: vs => frzV id l v :: frzVs id l vs
end
def frzO (id : Nat) (l : List (List D)) : Ob → Ob
  | .cells vs => .cells (frzVs id l vs)
  | .row c r => .row c r
  | .mp k m => .mp k m
  | .it k e m c => .it k e m c
  | .sit s p => .sit s p
  | .bag c l => .bag c l
def frzH (id : Nat) (l : List (List D)) : Hp → Hp
  | [] => []
  | (i, o) :: r => bif i == id then frzH id l r else (i, frzO id l o) :: frzH id l r
mutual
/-- A map frozen. -/
def frmV (id : Nat) (x : D) : AV → AV
  | .d y => .d y
  | .ptr i off => .ptr i off
  | .iptr l' i f => .iptr l' i f
  | .rptr i c j f => .rptr i c j f
  | .aptr i off n c j f => .aptr i off n c j f
  | .sl i => .sl i
  | .map i => bif i == id then .d x else .map i
  | .iter i => .iter i
  | .agg vs => .agg (frmVs id x vs)
  | .tup vs => .tup (frmVs id x vs)
  | .fn f vs => .fn f (frmVs id x vs)
  | .ifc t y => .ifc t (frmV id x y)
  | .top => .top
  | .raw v => .raw v
def frmVs (id : Nat) (x : D) : List AV → List AV
  | [] => []
  | v :: vs => frmV id x v :: frmVs id x vs
end
def frmO (id : Nat) (x : D) : Ob → Ob
  | .cells vs => .cells (frmVs id x vs)
  | .row c r => .row c r
  | .mp k m => .mp k m
  | .it k e m c => .it k e m c
  | .sit s p => .sit s p
  | .bag c l => .bag c l
def frmH (id : Nat) (x : D) : Hp → Hp
  | [] => []
  | (i, o) :: r => bif i == id then frmH id x r else (i, frmO id x o) :: frmH id x r
/-- A slice that is nil as one without elements. -/
def nilV : AV → AV
  | .d .nilsl => .d (.imm [])
  | .tup (.d .nilsl :: r) => .tup (.d (.imm []) :: r)
  | x => x
def nilF (s : Nat) : Nat → List AV → List AV
  | _, [] => []
  | i, x :: r => bif i == s then nilV x :: r else x :: nilF s (i + 1) r
def frz1 (st : St) (id : Nat) : St :=
  match hget st.h id with
  | none => (match id / 1000000 == 1 with | true => ⟨nilF (id % 1000000) 0 st.fr, st.n, st.h⟩ | false => st)
  | some (.row _ l) => ⟨frzVs id l st.fr, st.n, frzH id l st.h⟩
  | some (.cells vs) => (match dsOf vs with | some ds => ⟨frzVs id [ds] st.fr, st.n, frzH id [ds] st.h⟩ | none => st)
  | some (.mp k m) => ⟨frmVs id (.fm k m) st.fr, st.n, frmH id (.fm k m) st.h⟩
  | _ => st
def frzs (st : St) : List Nat → St
  | [] => st
  | id :: r => frzs (frz1 st id) r
def lkup (p : Nat × Nat) : List ((Nat × Nat) × List Nat) → List Nat
  | [] => []
  | (q, l) :: r => bif (q.1 == p.1 && q.2 == p.2) then l else lkup p r
def hasP (p : Nat × Nat) : List (Nat × Nat) → Bool
  | [] => false
  | q :: r => bif (q.1 == p.1 && q.2 == p.2) then true else hasP p r

/-- A call, its arguments reckoned. -/
def callC (C : CallS) (f : Nat) (args : List AV) (n : Nat) (h : Hp) (K : CallK) : Prop := C f args n h K

/-! one operation -/
def isConst : Operand → Bool
  | .const _ => true
  | _ => false
def ifcA (T : Nat → TI) (t : Nat) (x : AV) (K : AV → Prop) : Prop :=
  match (ty T t).u with
  | .iface => False
  | .other => False
  | _ => K (.ifc t x)
def extractA (v : AV) (i : Nat) (K : AV → Prop) : Prop :=
  match v with
  | .tup l => (match l[i]? with | some v => K v | none => False)
  | _ => False
def fnOf : AV → Option (Nat × List AV)
  | .fn f caps => some (f, caps)
  | _ => none
def srcA (T : Nat → TI) (A : Ar) (st : St) (t' : Nat) (c : Nat) : AV → Option (List (List D))
  | .d (.str v) => (match (ty T t').u with | .str => (bif c == 1 then some (A.s2b v) else none) | _ => none)
  | v => (match (ty T t').u with | .slice _ => rowsOf st v | _ => none)
/-- The own slices that have no places of their own. -/
def bagOf : Hp → Option (Nat × Nat × List (Value × List (List D)))
  | [] => none
  | (id, .bag c l) :: r => some (id, c, l)
  | _ :: r => bagOf r
/-- A slice out of the bag (or nil), what it holds; another one for it. -/
structure BagApp (v : Value) (L : List (Value × List (List D))) (ok : List (List D) → Prop) (K : List (List D) → Value → List (Value × List (List D)) → Prop) : Prop where
  h : ∃ xs L', ((v = .slice none 0 0 ∧ xs = [] ∧ L' = L) ∨ ∃ A B, L = A ++ (v, xs) :: B ∧ L' = A ++ B) ∧ ok xs ∧ ∀ v', (∃ a n cap, v' = .slice a n cap) → K xs v' L'
def appendA (T : Nat → TI) (A : Ar) (st : St) (t t' : Nat) (s x : AV) (K : St → AV → Prop) : Prop :=
  match (ty T t).u with
  | .slice e =>
    let c := (ty T e).size
    match srcA T A st t' c x, (ty T e).zero with
    | some l', some z =>
      bif Nat.blt 0 c && (z.length == c) then
      (match s with
      | .d .nilsl => A.apok [] l' c (ty T e).bytes = true ∧ K { st with n := st.n + 1, h := st.h ++ [(st.n, .row c (A.app [] l'))] } (.sl st.n)
      | .raw v =>
        (match bagOf st.h with
        | some (id, c', L) => c' = c ∧ BagApp v L (fun xs => A.apok xs l' c (ty T e).bytes = true) fun xs v' L' => K { st with n := st.n + 1, h := hdel st.h id ++ [(st.n, .bag c ((v', xs ++ l') :: L'))] } (.raw v')
        | none => False)
      | .sl id =>
        (match hget st.h id with
        | some (.row c' l) => (c' = c ∧ A.apok l l' c (ty T e).bytes = true) ∧ K { st with n := st.n + 1, h := hdel st.h id ++ [(st.n, .row c (A.app l l'))] } (.sl st.n)
        | _ => False)
      | _ => False)
      else False
    | _, _ => False
  | _ => False
def twoI : List AV → Option (IntKind × Int × Int)
  | .d (.int k a) :: .d (.int k' b) :: [] => bif decide (k = k') then some (k, a, b) else none
  | _ => none
/-! maps -/
def mapOf (st : St) : AV → Option (IntKind × List (Int × Value))
  | .map id => (match hget st.h id with | some (.mp k l) => some (k, l) | _ => none)
  | .d (.fm k l) => some (k, l)
  | _ => none
def keyOf (k : IntKind) : AV → Option Int
  | .d (.int k' n) => bif decide (k = k') then some n else none
  | _ => none
def flatKs : List Kd → Bool
  | [] => true
  | .int _ :: r => flatKs r
  | .bool :: r => flatKs r
  | .str :: r => flatKs r
  | _ :: _ => false
def zerosK : List Kd → List D → Bool
  | [], [] => true
  | .int k :: ks, .int k' n :: ds => bif decide (k = k') && decide (n = 0) then zerosK ks ds else false
  | .bool :: ks, .bool b :: ds => bif b then false else zerosK ks ds
  | .str :: ks, .str [] :: ds => zerosK ks ds
  | _, _ => false
def mcellA (A : Ar) (l : List (Int × Value)) (key : Int) (j : Nat) : Kd → D
  | .int k => .int k (A.mI l key j)
  | .bool => .bool (A.mB l key j)
  | .str => .str (A.mS l key j)
  | _ => .nilp
def mcellsA (A : Ar) (l : List (Int × Value)) (key : Int) (j : Nat) : List Kd → List D
  | [] => []
  | k :: ks => mcellA A l key j k :: mcellsA A l key (j + 1) ks
def mvalA (A : Ar) (agg : Bool) (ks : List Kd) (l : List (Int × Value)) (key : Int) : AV :=
  match agg with
  | true => .d (.agg (mcellsA A l key 0 ks))
  | false => (match ks with | [k] => .d (mcellA A l key 0 k) | _ => .top)
/-- An element's type, flat. -/
def eltOk (T : Nat → TI) (e : Nat) : Bool :=
  flatKs (kinds T 8 e) && (match isAggT (ty T e), kinds T 8 e with | true, _ => true | false, [_] => true | _, _ => false) && (match (ty T e).zero with | some z => zerosK (kinds T 8 e) z | none => false) && Nat.blt 0 (ty T e).size
/-- A condition, shut. -/
structure Nd0 (p : Unit → Prop) : Prop where
  h : p ()
def slOk (l : List (Int × Value)) : Prop := ∀ p ∈ l, ∃ a n cap, p.2 = .slice a n cap
def mraw (l : List (Int × Value)) (key : Int) : Value := (Mk.look l key).getD (.slice none 0 0)
def slCase (T : Nat → TI) (e : Nat) (ok : Bool) : Bool := match (ty T e).u, ok, (ty T e).zero with
  | .slice _, false, some [.nilsl] => Nat.blt 0 (ty T e).size
  | _, _, _ => false
def mlookA (T : Nat → TI) (A : Ar) (st : St) (t : Nat) (m x : AV) (ok : Bool) (K : AV → Prop) : Prop :=
  match (ty T t).u with
  | .map kt e =>
    (match (ty T kt).u, mapOf st m with
    | .int k, some (k', l) =>
      (match keyOf k x with
      | some key =>
        (match slCase T e ok with
        | true => k = k' ∧ Nd0 (fun _ => slOk l) ∧ Al (fun v : Value => v = mraw l key) fun v => K (.raw v)
        | false => bif decide (k = k') && eltOk T e then A.mok l (kinds T 8 e) (isAggT (ty T e)) = true ∧
          K (match ok with | true => .tup [mvalA A (isAggT (ty T e)) (kinds T 8 e) l key, .d (.bool (A.mhas l key))] | false => mvalA A (isAggT (ty T e)) (kinds T 8 e) l key)
        else False)
      | none => False)
    | _, _ => False)
  | _ => False
def dval : D → Option Value
  | .int k n => some (.int k n)
  | .bool b => some (.bool b)
  | .str s => some (.string ⟨⟨s⟩⟩)
  | _ => none
def dvals : List D → Option (List Value)
  | [] => some []
  | d :: r => match dval d, dvals r with | some v, some l => some (v :: l) | _, _ => none
def valA : AV → Option Value
  | .d (.agg l) => (match dvals l with | some vs => some (.agg ⟨vs⟩) | none => none)
  | .agg l => (match dsOf l with | some ds => (match dvals ds with | some vs => some (.agg ⟨vs⟩) | none => none) | none => none)
  | .d x => dval x
  | .raw v => some v
  | _ => none
def mupdA (T : Nat → TI) (A : Ar) (st : St) (t : Nat) (m x v : AV) (K : St → Prop) : Prop :=
  match (ty T t).u, m with
  | .map kt e, .map id =>
    (match (ty T kt).u, hget st.h id with
    | .int k, some (.mp k' l) =>
      (match keyOf k x, valA v with
      | some key, some val => bif decide (k = k') then K { st with h := hset st.h id (.mp k (A.mput l key val)) } else False
      | _, _ => False)
    | _, _ => False)
  | _, _ => False
/-- delete(m, k). -/
def mdelA (T : Nat → TI) (A : Ar) (st : St) (t : Nat) (m x : AV) (K : St → AV → Prop) : Prop :=
  match (ty T t).u, m with
  | .map kt e, .map id =>
    (match (ty T kt).u, hget st.h id with
    | .int k, some (.mp k' l) =>
      (match keyOf k x with
      | some key => bif decide (k = k') then K { st with h := hset st.h id (.mp k (A.mdel l key)) } (.tup []) else False
      | none => False)
    | _, _ => False)
  | _, _ => False
def nextA (T : Nat → TI) (A : Ar) (st : St) (i : AV) (K : St → AV → Prop) : Prop :=
  match i with
  | .iter id =>
    (match hget st.h id with
    | some (.it k e l _) =>
      match (ty T e).u with
      | .slice _ => Nd0 (fun _ => slOk l) ∧ Al (fun _ : Unit => l = []) (fun _ => K st (.tup [.d (.bool false)])) ∧
        Al (fun q : (Int × Value) × List (Int × Value) => l.Perm (q.1 :: q.2))
          (fun q => K { st with h := hset st.h id (.it k e q.2 (some q.1)) } (.tup [.d (.bool true), .d (.int k q.1.1), .raw q.1.2]))
      | _ => bif eltOk T e then
        (A.mok l (kinds T 8 e) (isAggT (ty T e)) = true ∧ Al (fun _ : Unit => l = []) (fun _ => K st (.tup [.d (.bool false)]))) ∧
        Al (fun q : (Int × Value) × List (Int × Value) => l.Perm (q.1 :: q.2))
          (fun q => K { st with h := hset st.h id (.it k e q.2 (some q.1)) } (.tup [.d (.bool true), .d (.int k q.1.1), mvalA A (isAggT (ty T e)) (kinds T 8 e) [q.1] q.1.1]))
      else False
    | _ => False)
  | _ => False
def entryA (T : Nat → TI) (A : Ar) (st : St) (i : AV) (K : AV → Prop) : Prop :=
  match i with
  | .iter id =>
    (match hget st.h id with
    | some (.it k e l (some p)) => match (ty T e).u with
      | .slice _ => Nd0 (fun _ => slOk [p]) ∧ K (.tup [.d (.int k p.1), .raw p.2])
      | _ => bif eltOk T e then A.mok [p] (kinds T 8 e) (isAggT (ty T e)) = true ∧ K (.tup [.d (.int k p.1), mvalA A (isAggT (ty T e)) (kinds T 8 e) [p] p.1]) else False
    | _ => False)
  | _ => False
/-- Two ways, neither walked ahead of the choice. -/
inductive brA (b : Bool) (f g : Unit → Prop) : Prop where
  | yes (h : b = true) (k : f ())
  | no (h : b = false) (k : g ())
theorem brA_true {f g : Unit → Prop} (h : brA true f g) : f () := by
  cases h with
  | yes h k => exact k
  | no h k => cases h
theorem brA_false {f g : Unit → Prop} (h : brA false f g) : g () := by
  cases h with
  | yes h k => cases h
  | no h k => exact k
def snextA (A : Ar) (st : St) (i : AV) (K : St → AV → Prop) : Prop :=
  match i with
  | .iter id =>
    (match hget st.h id with
    | some (.sit s p) => brA (A.sgo s p) (fun _ => K { st with h := hset st.h id (.sit s (A.snx s p)) } (.tup [.d (.bool true), .d (.int .i64 p), .d (.int .i32 (A.sru s p))])) (fun _ => K st (.tup [.d (.bool false)]))
    | _ => False)
  | _ => False
/-- len of a map. -/
def mapLen (T : Nat → TI) (st : St) (b : Builtin) (ts : List Nat) (args : List AV) : Option (List (Int × Value)) :=
  match b, ts, args with
  | .len, t :: _, [x] => (match (ty T t).u with
    | .map _ _ => (match mapOf st x with | some (_, l) => some l | none => none)
    | _ => none)
  | _, _, _ => none
def builtinA (T : Nat → TI) (A : Ar) (st : St) (b : Builtin) (ts : List Nat) (args : List AV) (K : St → AV → Prop) : Prop :=
  match b, ts, args with
  | .len, t :: _, x :: _ =>
    (match (ty T t).u with
    | .str => (match x with | .d (.str s) => K st (.d (.int .i64 (A.slen s))) | _ => False)
    | .array n _ => K st (.d (.int .i64 n))
    | .ptr a => (match (ty T a).u with | .array n _ => K st (.d (.int .i64 n)) | _ => False)
    | .slice _ => (match rowsOf st x with | some l => K st (.d (.int .i64 (A.len l))) | none => False)
    | _ => False)
  | .append, [t, t'], [s, x] => appendA T A st t t' s x K
  | .delete, [t, _], [m, x] => mdelA T A st t m x K
  | .min, _, l => (match twoI l with | some (k, a, b) => K st (.d (.int k (A.minI a b))) | none => False)
  | .max, _, l => (match twoI l with | some (k, a, b) => K st (.d (.int k (A.maxI a b))) | none => False)
  | _, _, _ => False
def evs (st : St) : List Operand → List AV
  | [] => []
  | o :: r => st.ev o :: evs st r
def evp (st : St) : List (Nat × Operand) → List (Nat × AV)
  | [] => []
  | (i, o) :: r => (i, st.ev o) :: evp st r
def isPtr : AV → Bool
  | .ptr _ _ => true
  | .iptr _ _ _ => true
  | .rptr _ _ _ _ => true
  | .aptr _ _ _ _ _ _ => true
  | _ => false
def known : AV → Bool
  | .top => false
  | .raw _ => false
  | _ => true
def scalarD : AV → Bool
  | .d (.int _ _) => true
  | .d (.str _) => true
  | _ => false
def opA (T : Nat → TI) (A : Ar) (C : CallS) (own : Bool) (dst : Option Nat) (op : Op) (st : St) (K : St → Prop) : Prop :=
  let out (v : AV) : Prop := K (st.put dst v)
  match op with
  | .move x => out (st.ev x)
  | .assign x => out (st.ev x)
  | .pick c a b => pickA A (st.ev c) (st.ev a) (st.ev b) out
  | .alloc e => (match (bif Nat.blt 0 (ty T e).size then zerosOf T e else none) with | some z => K (({ st with n := st.n + 1, h := st.h ++ [(st.n, .cells z)] } : St).put dst (.ptr st.n 0)) | none => False)
  | .box e x => (bif known (st.ev x) then K (({ st with n := st.n + 1, h := st.h ++ [(st.n, .cells (cellsOf (st.ev x)))] } : St).put dst (.ptr st.n 0)) else False)
  | .build t ps => buildA T t (evp st ps.toList) out
  | .buildSlice t len ps => bsliceA T t len (evp st ps.toList) fun l c =>
      match own with | true => K (({ st with n := st.n + 1, h := st.h ++ [(st.n, .row c l)] } : St).put dst (.sl st.n)) | false => out (.d (.imm l))
  | .load t (.global g) => (bif globs t g then out .top else False)
  | .load t a => loadA T A st t (st.ev a) out
  | .store t a x => storeA T A st t (st.ev a) (st.ev x) fun st => K (st.put dst (.tup []))
  | .nilCheck x => (bif isPtr (st.ev x) then out (st.ev x) else False)
  | .binOp op t x y _ => (bif scalarD (st.ev x) then binA A op (st.ev x) (st.ev y) out else
      match op with
      | .eql => eqA T A false (isConst x || isConst y) t (st.ev x) (st.ev y) out
      | .neq => eqA T A true (isConst x || isConst y) t (st.ev x) (st.ev y) out
      | _ => False)
  | .unOp op _ x => unA A op (st.ev x) out
  | .makeInterface t x => ifcA T t (st.ev x) out
  | .convert s d x => convA T A st s d (st.ev x) out
  | .slice t x lo hi mx => sliceA T A st t (st.ev x) lo hi mx fun st v => K (st.put dst v)
  | .makeSlice t l c =>
    (match (ty T t).u, st.ev l, st.ev c with
    | .slice e, .d (.int _ l), .d (.int _ c) =>
      (match (ty T e).zero with
      | some z => (bif Nat.blt 0 (ty T e).size && (z.length == (ty T e).size) then A.mkok l c (ty T e).bytes = true else False) ∧ K (({ st with n := st.n + 1, h := st.h ++ [(st.n, .row (ty T e).size (A.rep l z))] } : St).put dst (.sl st.n))
      | none => False)
    | _, _, _ => False)
  | .fieldAddr s x f =>
    (match (ty T s).u with
    | .struct fs => (match fs[f]? with | some (off, ft) => (bif (ty T ft).size == 0 then False else bif isPtr (st.ev x) then out (fieldA off (st.ev x)) else False) | none => False)
    | _ => False)
  | .field s x f =>
    (match (ty T s).u, aggOf (st.ev x) with
    | .struct fs, some l => (match fs[f]? with | some (off, ft) => (match (bif Nat.blt 0 (ty T ft).size then partOf l off (ty T ft).size (isAggT (ty T ft)) else none) with | some v => out v | none => False) | none => False)
    | _, _ => False)
  | .indexAddr t x i => indexAddrA T A st t (st.ev x) i out
  | .index t x i => indexA T A st t (st.ev x) i out
  | .extract t i => extractA (st.ev t) i out
  | .makeMap t none => (match (ty T t).u with
    | .map kt _ => (match (ty T kt).u with | .int k => K (({ st with n := st.n + 1, h := st.h ++ [(st.n, .mp k [])] } : St).put dst (.map st.n)) | _ => False)
    | _ => False)
  | .lookup t m x ok => mlookA T A st t (st.ev m) (st.ev x) ok out
  | .mapUpdate t m x v => mupdA T A st t (st.ev m) (st.ev x) (st.ev v) fun st => K (st.put dst (.tup []))
  | .range t m => (match (ty T t).u, st.ev m with
    | .map _ e, .d (.fm k l) => K (({ st with n := st.n + 1, h := st.h ++ [(st.n, .it k e l none)] } : St).put dst (.iter st.n))
    | .str, .d (.str s) => K (({ st with n := st.n + 1, h := st.h ++ [(st.n, .sit s 0)] } : St).put dst (.iter st.n))
    | _, _ => False)
  | .next i false => nextA T A st (st.ev i) fun st v => K (st.put dst v)
  | .next i true => snextA A st (st.ev i) fun st v => K (st.put dst v)
  | .entry i => entryA T A st (st.ev i) out
  | .makeFunc (.func f) ⟨[]⟩ caps => out (.fn f (evs st caps.toList))
  | .call c =>
    (match c.callee with
    | .builtin b => (match mapLen T st b c.argTypes.toList (evs st c.args.toList) with
      | some l => out (.d (.int .i64 (A.mlen l)))
      | none => builtinA T A st b c.argTypes.toList (evs st c.args.toList) fun st v => K (st.put dst v))
    | .value f =>
      (match fnOf (st.ev f) with
      | some (f, caps) => callC C f (evs st c.args.toList ++ caps) st.n st.h fun v n h => K (({ st with n := n, h := h } : St).put dst v)
      | none => False)
    | _ => False)
  | _ => False

/-! regions -/
def slotOf (ops : List Oper) (j : Nat) : Option Nat := match ops[j]? with | some o => o.dst | none => none
def guardA (ops : List Oper) (o : Oper) (st : St) (yes no : St → Prop) : Prop :=
  match o.guard with
  | none => yes st
  | some (j, want) =>
    match slotOf ops j with
    | none => False
    | some t =>
      match st.fr.getD t (.tup []) with
      | .d (.bool b) => (match want with
        | true => brA b (fun _ => yes { st with fr := st.fr.set t (.d (.bool true)) }) (fun _ => no { st with fr := st.fr.set t (.d (.bool false)) })
        | false => brA b (fun _ => no { st with fr := st.fr.set t (.d (.bool true)) }) (fun _ => yes { st with fr := st.fr.set t (.d (.bool false)) }))
      | .tup [] => no st
      | _ => False
/-- One operation with its guard, the rows that it freezes ahead. -/
def stepA (T : Nat → TI) (A : Ar) (C : CallS) (H : Hints) (ops : List Oper) (reg i : Nat) (o : Oper) (st : St) (K : St → Prop) : Prop :=
  guardA ops o (frzs st (lkup (reg, i) H.fz)) (fun st => opA T A C (hasP (reg, i) H.own) o.dst o.op st K) (fun st => K (st.put o.dst (.tup [])))
def opsA (T : Nat → TI) (A : Ar) (C : CallS) (H : Hints) (ops : List Oper) (reg : Nat) : Nat → List Oper → St → (St → Prop) → Prop
  | _, [], st, K => K st
  | i, o :: r, st, K => stepA T A C H ops reg i o st fun st => opsA T A C H ops reg (i + 1) r st K

/-! regions that draw -/
/-- Operations that give the same value wherever they stand. -/
def easyOp (T : Nat → TI) (st : St) : Op → Bool
  | .move _ => true
  | .assign _ => true
  | .pick _ _ _ => true
  | .build _ _ => true
  | .binOp _ _ _ _ _ => true
  | .unOp _ _ _ => true
  | .makeInterface _ _ => true
  | .fieldAddr _ _ _ => true
  | .field _ _ _ => true
  | .indexAddr _ _ _ => true
  | .index _ _ _ => true
  | .extract _ _ => true
  | .nilCheck _ => true
  | .makeFunc (.func _) ⟨[]⟩ _ => true
  | .convert s d _ => (match (ty T s).u, (ty T d).u with | .int _, .int _ => true | _, _ => false)
  | .load _ a => (match st.ev a with | .iptr _ _ _ => true | _ => false)
  | .call ⟨.builtin .len, args, ts⟩ => (match mapLen T st .len ts.toList (evs st args.toList) with | some _ => false | none => true)
  | _ => false
def getB : List Bool → Nat → Bool
  | [], _ => true
  | b :: _, 0 => b
  | _ :: r, i + 1 => getB r i
def setB : List Bool → Nat → List Bool
  | [], _ => []
  | _ :: r, 0 => true :: r
  | b :: r, i + 1 => b :: setB r i
def getF : List Bool → Nat → Bool
  | [], _ => false
  | b :: _, 0 => b
  | _ :: r, i + 1 => getF r i
def afters (listed : List Bool) : List Edge → Bool
  | [] => true
  | e :: r => bif Region.binds .any e then (bif getF listed e.on then afters listed r else false) else afters listed r
def readyA (listed : List Bool) : Nat → List Oper → List (Nat × Oper)
  | _, [] => []
  | i, o :: r => bif getB listed i then readyA listed (i + 1) r else bif afters listed o.after.toList then (i, o) :: readyA listed (i + 1) r else readyA listed (i + 1) r
def firstEasy (T : Nat → TI) (H : Hints) (reg : Nat) (st : St) : List (Nat × Oper) → Option (Nat × Oper)
  | [] => none
  | (i, o) :: r => (match o.guard with
    | none => (bif easyOp T (frzs st (lkup (reg, i) H.fz)) o.op then some (i, o) else firstEasy T H reg st r)
    | some _ => firstEasy T H reg st r)
def eachA (f : Nat × Oper → Prop) : List (Nat × Oper) → Prop
  | [] => True
  | [p] => f p
  | p :: r => f p ∧ eachA f r
/-- A stop for long regions. -/
structure Pz (p : Unit → Prop) : Prop where
  h : p ()
def pzA (n : Nat) (p : Unit → Prop) : Prop := match n % 8 == 0 with | true => Pz p | false => p ()
theorem pzA_elim {n : Nat} {p : Unit → Prop} (h : pzA n p) : p () := by
  unfold pzA at h
  cases hb : n % 8 == 0
  · rw [hb] at h; exact h
  · rw [hb] at h; exact h.h
def anyA (T : Nat → TI) (A : Ar) (C : CallS) (H : Hints) (ops : List Oper) (reg : Nat) : Nat → List Bool → St → (St → Prop) → Prop
  | 0, listed, st, K => (match readyA listed 0 ops with | [] => K st | _ :: _ => False)
  | fuel + 1, listed, st, K =>
    match readyA listed 0 ops with
    | [] => K st
    | p :: l =>
      match firstEasy T H reg st (p :: l) with
      | some (i, o) => stepA T A C H ops reg i o st fun st => pzA fuel fun _ => anyA T A C H ops reg fuel (setB listed i) st K
      | none => eachA (fun q => stepA T A C H ops reg q.1 q.2 st fun st => anyA T A C H ops reg fuel (setB listed q.1) st K) (p :: l)
def pzB (n : Nat) (p : Unit → Prop) : Prop := match n % 8 == 0 with | true => Pz p | false => p ()
theorem pzB_elim {n : Nat} {p : Unit → Prop} (h : pzB n p) : p () := by
  unfold pzB at h
  cases hb : n % 8 == 0
  · rw [hb] at h; exact h
  · rw [hb] at h; exact h.h
/-- A drawn region in an order that is given: 2i: operation i is easy; 2i+1: it alone is ready. -/
def getO : List Oper → Nat → Option Oper
  | [], _ => none
  | o :: _, 0 => some o
  | _ :: r, i + 1 => getO r i
def halfN (n : Nat) : Nat := n / 2
def oddN (n : Nat) : Bool := n % 2 == 1
def ordA (T : Nat → TI) (A : Ar) (C : CallS) (H : Hints) (ops : List Oper) (reg : Nat) : List (Nat × Bool) → St → (St → Prop) → Prop
  | [], st, K => K st
  | (i, s) :: r, st, K => match getO ops i with
    | none => False
    | some o => match s with
      | true => stepA T A C H ops reg i o st fun st => pzB r.length fun _ => ordA T A C H ops reg r st K
      | false => guardA ops o (frzs st (lkup (reg, i) H.fz))
          (fun st => match easyOp T st o.op with
            | true => opA T A C (hasP (reg, i) H.own) o.dst o.op st fun st => pzB r.length fun _ => ordA T A C H ops reg r st K
            | false => False)
          (fun st => pzB r.length fun _ => ordA T A C H ops reg r (st.put o.dst (.tup [])) K)
def ordOf : List Nat → List (Nat × Bool)
  | [] => []
  | c :: r => (halfN c, oddN c) :: ordOf r
/-- Operations of which neither waits for the other are apart. -/
def onB (i : Nat) : List Edge → Bool
  | [] => false
  | e :: r => bif (Region.binds .any e && e.on == i) then true else onB i r
def tmpIn (t : Nat) : List Operand → Bool
  | [] => false
  | .tmp u :: r => bif u == t then true else tmpIn t r
  | _ :: r => tmpIn t r
def looks (ops : List Oper) (d : Nat) (y : Oper) : Bool :=
  bif tmpIn d y.op.operands.toList then true else match y.guard with
  | some (g, _) => (match slotOf ops g with | some t => t == d | none => false)
  | none => false
def apartA (ops : List Oper) (x y : Oper) : Bool :=
  (match x.dst with
  | some d => (bif looks ops d y then false else match y.dst with | some e => !(e == d) | none => true)
  | none => true) &&
  (match y.dst with
  | some d => !looks ops d x
  | none => true)
def pairs (ops : List Oper) (i : Nat) (x : Oper) : Nat → List Oper → Bool
  | _, [] => true
  | j, y :: r => bif (i == j || onB i y.after.toList || onB j x.after.toList || apartA ops x y) then pairs ops i x (j + 1) r else false
def ordOK (ops : List Oper) : List Bool → List (Nat × Bool) → Bool
  | listed, [] => (match readyA listed 0 ops with | [] => true | _ :: _ => false)
  | listed, (i, s) :: r => (match readyA listed 0 ops with
    | [] => false
    | p :: l => (bif s then (p.1 == i && l.isEmpty) else ((p :: l).any fun q => q.1 == i) && (match getO ops i with | some o => pairs ops i o 0 ops | none => false)) && ordOK ops (setB listed i) r)
def notSel : Op → Bool
  | .select _ _ => false
  | _ => true
def regOK (ops : List Oper) : Nat → List Oper → Bool
  | _, [] => true
  | i, x :: r => bif (notSel x.op && (!(x.guard.isNone) || pairs ops i x 0 ops)) then regOK ops (i + 1) r else false
def falses : List Oper → List Bool
  | [] => []
  | _ :: r => false :: falses r

/-- What is said of a drawn region alone, shut. -/
structure RgOK (ops : List Oper) : Prop where
  h : regOK ops 0 ops = true
structure OrOK (ops : List Oper) (l : List Nat) : Prop where
  h : (regOK ops 0 ops && Nat.ble l.length ops.length && ordOK ops (falses ops) (ordOf l)) = true
/-! code -/
inductive Ex where
  | normal | exit (id : Nat) | ret

/-! what a loop's head forgets -/
def renI (θ : List (Nat × Nat)) (id : Nat) : Nat :=
  match θ with
  | [] => id
  | (a, b) :: r => bif a == id then b else renI r id
mutual
def renV (f : Nat → Nat) : AV → AV
  | .d x => .d x
  | .ptr i off => .ptr (f i) off
  | .iptr l' i g => .iptr l' i g
  | .rptr i c j g => .rptr (f i) c j g
  | .aptr i off n c j g => .aptr (f i) off n c j g
  | .sl i => .sl (f i)
  | .map i => .map (f i)
  | .iter i => .iter (f i)
  | .agg vs => .agg (renVs f vs)
  | .tup vs => .tup (renVs f vs)
  | .fn g vs => .fn g (renVs f vs)
  | .ifc t x => .ifc t (renV f x)
  | .top => .top
  | .raw v => .raw v
def renVs (f : Nat → Nat) : List AV → List AV
  | [] => []
  | v :: vs => renV f v :: renVs f vs
end
def renO (f : Nat → Nat) : Ob → Ob
  | .cells vs => .cells (renVs f vs)
  | .row c r => .row c r
  | .mp k m => .mp k m
  | .it k e m c => .it k e m c
  | .sit s p => .sit s p
  | .bag c l => .bag c l
mutual
def idsV : AV → List Nat
  | .d x => []
  | .ptr i off => [i]
  | .iptr l' i g => []
  | .rptr i c j g => [i]
  | .aptr i off n c j g => [i]
  | .sl i => [i]
  | .map i => [i]
  | .iter i => [i]
  | .agg vs => idsVs vs
  | .tup vs => idsVs vs
  | .fn g vs => idsVs vs
  | .ifc t x => idsV x
  | .top => []
  | .raw _ => []
def idsVs : List AV → List Nat
  | [] => []
  | v :: vs => idsV v ++ idsVs vs
end
def idsO : Ob → List Nat
  | .cells vs => idsVs vs
  | .row c r => []
  | .mp k m => []
  | .it k e m c => []
  | .sit s p => []
  | .bag _ _ => []
def memN (x : Nat) : List Nat → Bool
  | [] => false
  | y :: r => bif x == y then true else memN x r
def allN (p : Nat → Bool) : List Nat → Bool
  | [] => true
  | y :: r => bif p y then allN p r else false
def nodupN : List Nat → Bool
  | [] => true
  | y :: r => bif memN y r then false else nodupN r
/-- A frame of so many slots, of which some are known. -/
def mkF : Nat → Nat → List (Nat × AV) → List AV
  | 0, _, _ => []
  | n + 1, i, l => (get i l) :: mkF n (i + 1) l
where
  get (i : Nat) : List (Nat × AV) → AV
    | [] => .top
    | (j, v) :: r => bif j == i then v else get i r
def keepF (f : Nat → Nat) (slots : List Nat) : Nat → List AV → List AV
  | _, [] => []
  | i, v :: r => (bif memN i slots then renV f v else .top) :: keepF f slots (i + 1) r
def keepH (f : Nat → Nat) (h : Hp) : List Nat → Hp
  | [] => []
  | id :: r => match hget h id with | some o => (f id, renO f o) :: keepH f h r | none => keepH f h r
def idsF (slots : List Nat) : Nat → List AV → List Nat
  | _, [] => []
  | i, v :: r => (bif memN i slots then idsV v else []) ++ idsF slots (i + 1) r
def idsH : Hp → List Nat
  | [] => []
  | (_, o) :: r => idsO o ++ idsH r
/-- How a state is forgotten: rows frozen, numbers turned, slots and places kept, the next number. -/
structure Wk where
  fz : List Nat
  θ : List (Nat × Nat)
  slots : List Nat
  ids : List Nat
  n : Nat
def hasAll (h : Hp) : List Nat → Bool
  | [] => true
  | id :: r => match hget h id with | some _ => hasAll h r | none => false
def wkOK (n0 : Nat) (k : Wk) (st0 : St) : Bool :=
  let st := frzs st0 k.fz
  Nat.ble n0 k.n && hasAll st.h k.ids && nodupN (k.ids.map (renI k.θ)) && nodupN k.ids && allN (fun id => Nat.blt (renI k.θ id) k.n && (renI k.θ id == id || Nat.ble n0 (renI k.θ id))) k.ids &&
    allN (fun id => memN id k.ids) (idsF k.slots 0 st.fr ++ idsH (keepH id st.h k.ids))
def wk (k : Wk) (st0 : St) : St :=
  let st := frzs st0 k.fz
  ⟨keepF (renI k.θ) k.slots 0 st.fr, k.n, keepH (renI k.θ) st.h k.ids⟩
structure WkOK (n0 : Nat) (k : Wk) (st : St) : Prop where
  ok : wkOK n0 k st = true
/-- Behind the first of two, and behind a block: what follows stands once. -/
def seqK (f : St → (Ex → St → Prop) → Prop) (K : Ex → St → Prop) : Ex → St → Prop
  | .normal, st => f st K
  | .exit i, st => K (.exit i) st
  | .ret, st => K .ret st
def blkK (id : Nat) (K : Ex → St → Prop) : Ex → St → Prop
  | .normal, st => K .normal st
  | .exit i, st => match i == id with | true => K .normal st | false => K (.exit i) st
  | .ret, st => K .ret st
/-- A loop, so many rounds of it. -/
def unrA (body : St → (Ex → St → Prop) → Prop) : Nat → St → (Ex → St → Prop) → Prop
  | 0, _, _ => False
  | m + 1, st, K => body st (seqK (fun st K => unrA body m st K) K)
def aw (T : Nat → TI) (A : Ar) (C : CallS) (H : Hints) (n0 : Nat) : Code → St → (Ex → St → Prop) → Prop
  | .skip, st, K => K .normal st
  | .label _, st, K => K .normal st
  | .region id ops false, st, K => opsA T A C H ops.toList id 0 ops.toList st (K .normal)
  | .region id ops true, st, K => match lkup (id, 1000000) H.fz with
    | [] => RgOK ops.toList ∧ ∀ K' : St → Prop, (∀ st', K .normal st' → K' st') → anyA T A C H ops.toList id ops.toList.length (falses ops.toList) st K'
    | c :: l => OrOK ops.toList (c :: l) ∧ ∀ K' : St → Prop, (∀ st', K .normal st' → K' st') → ordA T A C H ops.toList id (ordOf (c :: l)) st K'
  | .seq a b, st, K => aw T A C H n0 a st (seqK (fun st K => aw T A C H n0 b st K) K)
  | .cond c a b, st, K => (match st.ev c with | .d (.bool x) => brA x (fun _ => aw T A C H n0 a st K) (fun _ => aw T A C H n0 b st K) | _ => False)
  | .block id c, st, K => aw T A C H n0 c st (blkK id K)
  | .loop c, st, K => match H.unr with
    | m + 1 => unrA (fun st K => aw T A C H n0 c st K) (m + 1) st K
    | 0 => ∃ (I : St → Prop) (μ : St → Nat) (k : Wk), wkOK n0 k st = true ∧ I (wk k st) ∧
      ∀ st1, I st1 → aw T A C H n0 c st1 fun e st2 => match e with | .normal => ∃ k', wkOK n0 k' st2 = true ∧ I (wk k' st2) ∧ μ (wk k' st2) < μ st1 | e => K e st2
  | .exit id, st, K => K (.exit id) st
  | .ret, st, K => K .ret st
  | _, _, _ => False
/-- What a function gives back. -/
def resA (T : Nat → TI) (st : St) : ResultVar → Option AV
  | .tmp t => some (st.fr.getD t (.tup []))
  | .cell a t =>
    match st.fr.getD a (.tup []) with
    | .ptr id 0 => match hget st.h id with | some (.cells l) => partOf l 0 (ty T t).size (isAggT (ty T t)) | _ => none
    | _ => none
def ressA (T : Nat → TI) (st : St) : List ResultVar → Option (List AV)
  | [] => some []
  | r :: rs => match resA T st r, ressA T st rs with | some v, some l => some (v :: l) | _, _ => none
def retA (T : Nat → TI) (st : St) (rs : List ResultVar) : Option AV :=
  match ressA T st rs with
  | some [v] => some v
  | some l => some (.tup l)
  | none => none
def isNilN : List Nat → Bool
  | [] => true
  | _ :: _ => false
def oldIds (n0 : Nat) : Hp → List Nat
  | [] => []
  | (i, _) :: r => bif Nat.blt i n0 then i :: oldIds n0 r else oldIds n0 r
def runK (K : CallK) (v : AV) (n : Nat) (h : Hp) : Prop := K v n h
/-- A result without places: what was made on the way is forgotten. -/
def retC (n0 : Nat) (K : CallK) (v : AV) (n : Nat) (h : Hp) : Prop :=
  bif (isNilN (idsV v) && wkOK n0 ⟨[], [], [], oldIds n0 h, n0⟩ ⟨[], n, h⟩) then runK K v n0 (wk ⟨[], [], [], oldIds n0 h, n0⟩ ⟨[], n, h⟩).h else runK K v n h
/-- Behind a function's code. -/
def retK (T : Nat → TI) (n0 : Nat) (rs : List ResultVar) (K : CallK) : Ex → St → Prop
  | .exit _, _ => False
  | _, st => match retA T st rs with | some v => retC n0 K v st.n st.h | none => False
end Go.Proofs.Yteakfibolfapiaa.Ab
end

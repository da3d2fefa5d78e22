/- The executor over abstract states. Arithmetic and data are handed in (Ar), so that a run over letters leaves them alone. -/
import Derived.Test.YteakfibolfapiaaTrAb0
namespace Go.Proofs.Yteakfibolfapiaa.Ab
open Go.RowKit Go.Sort
set_option linter.unusedVariables false
set_option linter.unusedSimpArgs false

/-- Kinds of one cell. -/
inductive Kd where
  | int (k : IntKind) | bool | str | sl | ptr | map
  deriving Inhabited, DecidableEq
inductive TU where
  | bool | int (k : IntKind) | str | ptr (e : Nat) | slice (e : Nat) | array (n e : Nat) | struct (fs : List (Nat × Nat)) | map (k e : Nat) | func | iface | other
  deriving Inhabited
/-- A type as a run needs it. -/
structure TI where
  u : TU
  size : Nat
  bytes : Nat
  zero : Option (List D)
  deriving Inhabited
/-- What is done with data. -/
structure Ar where
  bin : BinOp → IntKind → Int → Int → Int
  cmp : BinOp → Int → Int → Bool
  wrap : IntKind → Int → Int
  neg : IntKind → Int → Int
  com : IntKind → Int → Int
  bnot : Bool → Bool
  beq : Bool → Bool → Bool
  pickB : Bool → Bool → Bool → Bool
  pickI : Bool → Int → Int → Int
  pickS : Bool → List UInt8 → List UInt8 → List UInt8
  inb : Int → Int → Bool
  sub2 : Int → Int → Int → Bool
  minI : Int → Int → Int
  maxI : Int → Int → Int
  slen : List UInt8 → Int
  sidx : List UInt8 → Int → Int
  scat : List UInt8 → List UInt8 → List UInt8
  ssub : List UInt8 → Int → Int → List UInt8
  scmp : BinOp → List UInt8 → List UInt8 → Bool
  scok : List UInt8 → List UInt8 → Bool
  len : List (List D) → Int
  cI : List (List D) → Int → Nat → Int
  cB : List (List D) → Int → Nat → Bool
  cS : List (List D) → Int → Nat → List UInt8
  cL : List (List D) → Int → Nat → List (List D)
  okR : List (List D) → Int → Nat → List Kd → Bool
  app : List (List D) → List (List D) → List (List D)
  apok : List (List D) → List (List D) → Nat → Nat → Bool
  sub : List (List D) → Int → Int → List (List D)
  setc : List (List D) → Int → Nat → List D → List (List D)
  rep : Int → List D → List (List D)
  mkok : Int → Int → Nat → Bool
  nthI : List Int → Int → Int
  nthB : List Bool → Int → Bool
  nthS : List (List UInt8) → Int → List UInt8
  iteI : Int → Nat → Int → Int → Int
  iteB : Int → Nat → Bool → Bool → Bool
  iteS : Int → Nat → List UInt8 → List UInt8 → List UInt8
  b2s : List (List D) → List UInt8
  s2b : List UInt8 → List (List D)
  allB : List (List D) → Bool
  wf : List (List D) → Nat → Bool
  deq : List D → List D → Bool
  mlen : List (Int × Value) → Int
  mhas : List (Int × Value) → Int → Bool
  mI : List (Int × Value) → Int → Nat → Int
  mB : List (Int × Value) → Int → Nat → Bool
  mS : List (Int × Value) → Int → Nat → List UInt8
  mok : List (Int × Value) → List Kd → Bool → Bool
  mput : List (Int × Value) → Int → Value → List (Int × Value)
  mdel : List (Int × Value) → Int → List (Int × Value)
  sgo : List UInt8 → Int → Bool
  sru : List UInt8 → Int → Int
  snx : List UInt8 → Int → Int

structure St where
  fr : List AV
  n : Nat
  h : Hp
def St.put (st : St) (dst : Option Nat) (v : AV) : St :=
  match dst with
  | some d => { st with fr := st.fr.set d v }
  | none => st
def cdata : Value → Option D
  | .int k n => some (.int k n)
  | .bool b => some (.bool b)
  | .string s => some (.str s.data.toList)
  | .pointer none => some .nilp
  | .slice none 0 0 => some .nilsl
  | .map none => some .nilm
  | .nilIface => some .nili
  | _ => none
def cdatas : List Value → Option (List D)
  | [] => some []
  | v :: r => match cdata v, cdatas r with | some d, some l => some (d :: l) | _, _ => none
def cval : Value → AV
  | .func (.func f) ⟨[]⟩ ⟨[]⟩ => .fn f []
  | .tuple ⟨[]⟩ => .tup []
  | .agg ⟨l⟩ => match cdatas l with | some x => .d (.agg x) | none => .top
  | v => match cdata v with | some d => .d d | none => .top
def St.ev (st : St) : Operand → AV
  | .tmp t => st.fr.getD t (.tup [])
  | .const v => cval v
  | .global g => .top
  | .func f => .fn f []
def hget : Hp → Nat → Option Ob
  | [], _ => none
  | (i, o) :: r, id => bif i == id then some o else hget r id
def hset : Hp → Nat → Ob → Hp
  | [], _, _ => []
  | (i, o) :: r, id, o' => bif i == id then (i, o') :: r else (i, o) :: hset r id o'
def hdel : Hp → Nat → Hp
  | [], _ => []
  | (i, o) :: r, id => bif i == id then r else (i, o) :: hdel r id

/-! values and cells -/
def dsOf : List AV → Option (List D)
  | [] => some []
  | .d x :: r => match dsOf r with | some l => some (x :: l) | none => none
  | _ :: _ => none
/-- A struct or array of cells. -/
def mkAgg (l : List AV) : AV := match dsOf l with | some x => .d (.agg x) | none => .agg l
def cellsOf : AV → List AV
  | .agg l => l
  | .d (.agg l) => l.map .d
  | v => [v]
def aggOf : AV → Option (List AV)
  | .agg l => some l
  | .d (.agg l) => some (l.map .d)
  | _ => none
def isAggT (ti : TI) : Bool := match ti.u with | .struct _ => true | .array _ _ => true | _ => false
def kindOf (ti : TI) : Option Kd :=
  match ti.u with
  | .bool => some .bool | .int k => some (.int k) | .str => some .str | .ptr _ => some .ptr | .slice _ => some .sl | .map _ _ => some .map | _ => none
def ty (T : Nat → TI) (t : Nat) : TI := T t
/-- The kinds of a type's cells. -/
def kinds (T : Nat → TI) : Nat → Nat → List Kd
  | 0, _ => []
  | n + 1, t =>
    match (ty T t).u with
    | .struct fs => fs.flatMap fun f => kinds T n f.2
    | .array m e => (List.replicate m (kinds T n e)).flatten
    | _ => match kindOf (ty T t) with | some k => [k] | none => []
def cellK (A : Ar) (l : List (List D)) (i : Int) (f : Nat) : Kd → D
  | .int k => .int k (A.cI l i f)
  | .bool => .bool (A.cB l i f)
  | .str => .str (A.cS l i f)
  | .sl => .imm (A.cL l i f)
  | .ptr => .nilp
  | .map => .nilm
def cellsK (A : Ar) (l : List (List D)) (i : Int) (f : Nat) : List Kd → List D
  | [] => []
  | k :: ks => cellK A l i f k :: cellsK A l i (f + 1) ks
def setMany : List AV → Nat → List AV → List AV
  | l, _, [] => l
  | l, i, v :: vs => setMany (l.set i v) (i + 1) vs
def partOf (l : List AV) (off size : Nat) (agg : Bool) : Option AV :=
  bif Nat.ble (off + size) l.length then
    bif agg then some (mkAgg ((l.drop off).take size)) else (bif size == 1 then l[off]? else none)
  else none
/-- One of several like cells, by a letter. -/
def selA (A : Ar) (i : Int) : List AV → Option AV
  | .d (.int k x) :: r => match ints k r with | some xs => some (.d (.int k (A.nthI (x :: xs) i))) | none => none
  | .d (.str x) :: r => match strs r with | some xs => some (.d (.str (A.nthS (x :: xs) i))) | none => none
  | .d (.bool x) :: r => match bools r with | some xs => some (.d (.bool (A.nthB (x :: xs) i))) | none => none
  | _ => none
where
  ints (k : IntKind) : List AV → Option (List Int)
    | [] => some []
    | .d (.int k' x) :: r => bif decide (k = k') then (match ints k r with | some xs => some (x :: xs) | none => none) else none
    | _ => none
  strs : List AV → Option (List (List UInt8))
    | [] => some []
    | .d (.str x) :: r => match strs r with | some xs => some (x :: xs) | none => none
    | _ => none
  bools : List AV → Option (List Bool)
    | [] => some []
    | .d (.bool x) :: r => match bools r with | some xs => some (x :: xs) | none => none
    | _ => none
/-- The cells at j, j + c, .. -/
def stepsA (l : List AV) (off c : Nat) : Nat → Option (List AV)
  | 0 => some []
  | n + 1 => match l[off]?, stepsA l (off + c) c n with | some x, some r => some (x :: r) | _, _ => none
def iteA (A : Ar) (i : Int) (j : Nat) (new old : AV) : Option AV :=
  match new, old with
  | .d (.int k x), .d (.int k' y) => bif decide (k = k') then some (.d (.int k (A.iteI i j x y))) else none
  | .d (.str x), .d (.str y) => some (.d (.str (A.iteS i j x y)))
  | .d (.bool x), .d (.bool y) => some (.d (.bool (A.iteB i j x y)))
  | _, _ => none
/-- A cell that a letter picks becomes v: each of them, perhaps. -/
def setA (A : Ar) (i : Int) (v : AV) (l : List AV) (off c j : Nat) : Nat → Option (List AV)
  | 0 => some l
  | n + 1 =>
    match l[off]? with
    | none => none
    | some old =>
      match iteA A i j v old with
      | none => none
      | some x => setA A i v (l.set off x) (off + c) c (j + 1) n

/-! memory -/
def loadA (T : Nat → TI) (A : Ar) (st : St) (t : Nat) (a : AV) (K : AV → Prop) : Prop :=
  match a with
  | .ptr id off =>
    match hget st.h id with
    | some (.cells l) => match partOf l off (ty T t).size (isAggT (ty T t)) with | some v => K v | none => False
    | _ => False
  | .iptr l i f =>
    let ks := kinds T 8 t
    (A.okR l i f ks = true ∧ (ks.length = (ty T t).size)) ∧
      (match isAggT (ty T t) with | true => K (.d (.agg (cellsK A l i f ks))) | false => (match ks with | [k] => K (.d (cellK A l i f k)) | _ => False))
  | .rptr id c i f =>
    match hget st.h id with
    | some (.row c' l) =>
      let ks := kinds T 8 t
      (c' = c) ∧ (A.okR l i f ks = true ∧ (ks.length = (ty T t).size)) ∧
        (match isAggT (ty T t) with | true => K (.d (.agg (cellsK A l i f ks))) | false => (match ks with | [k] => K (.d (cellK A l i f k)) | _ => False))
    | _ => False
  | .aptr id off n c i f =>
    match hget st.h id with
    | some (.cells l) =>
      (bif isAggT (ty T t) then False else
        bif (ty T t).size == 1 then
          match stepsA l (off + f) c n with | some xs => (match selA A i xs with | some v => K v | none => False) | none => False
        else False)
    | _ => False
  | _ => False
/-- No struct or array as one cell, and known. -/
def flatV : AV → Bool
  | .agg _ => false
  | .d (.agg _) => false
  | .top => false
  | .tup _ => false
  | _ => true
def flatVs : List AV → Bool
  | [] => true
  | v :: r => bif flatV v then flatVs r else false
def storeA (T : Nat → TI) (A : Ar) (st : St) (t : Nat) (a v : AV) (K : St → Prop) : Prop :=
  bif (cellsOf v).length == (ty T t).size && flatVs (cellsOf v) && Nat.blt 0 (ty T t).size then
    match a with
    | .ptr id off =>
      match hget st.h id with
      | some (.cells l) => bif Nat.ble (off + (ty T t).size) l.length then K { st with h := hset st.h id (.cells (setMany l off (cellsOf v))) } else False
      | _ => False
    | .rptr id c i f =>
      match hget st.h id, dsOf (cellsOf v) with
      | some (.row c' l), some ds => (c' = c ∧ A.inb i (A.len l) = true) ∧ (bif Nat.ble (f + ds.length) c then K { st with h := hset st.h id (.row c (A.setc l i f ds)) } else False)
      | _, _ => False
    | .aptr id off n c i f =>
      match hget st.h id with
      | some (.cells l) =>
        (bif (ty T t).size == 1 then
          match cellsOf v with
          | [x] => (match setA A i x l (off + f) c 0 n with | some l' => K { st with h := hset st.h id (.cells l') } | none => False)
          | _ => False
        else False)
      | _ => False
    | _ => False
  else False
def fieldA (off : Nat) : AV → AV
  | .ptr id o => .ptr id (o + off)
  | .iptr l i f => .iptr l i (f + off)
  | .rptr id c i f => .rptr id c i (f + off)
  | .aptr id o n c i f => .aptr id o n c i (f + off)
  | _ => .top
def constI : Operand → Option Int
  | .const (.int _ n) => some n
  | _ => none
def indexAddrA (T : Nat → TI) (A : Ar) (st : St) (t : Nat) (x : AV) (ix : Operand) (K : AV → Prop) : Prop :=
  match st.ev ix with
  | .d (.int _ i) =>
    match (ty T t).u with
    | .array n e =>
      bif Nat.blt 0 (ty T e).size then
      (match x with
      | .ptr id off =>
        (match constI ix with
        | some (.ofNat j) => bif Nat.blt j n then K (.ptr id (off + j * (ty T e).size)) else False
        | some _ => False
        | none => A.inb i n = true ∧ K (.aptr id off n (ty T e).size i 0))
      | .rptr id c i' f => (match constI ix with
        | some (.ofNat j) => bif Nat.blt j n then K (.rptr id c i' (f + j * (ty T e).size)) else False
        | _ => False)
      | .iptr l i' f => (match constI ix with
        | some (.ofNat j) => bif Nat.blt j n then K (.iptr l i' (f + j * (ty T e).size)) else False
        | _ => False)
      | _ => False)
      else False
    | .slice e =>
      bif Nat.blt 0 (ty T e).size then
      (match x with
      | .sl id =>
        (match hget st.h id with
        | some (.row c l) => (c = (ty T e).size ∧ A.inb i (A.len l) = true) ∧ K (.rptr id c i 0)
        | _ => False)
      | .d (.imm l) => (A.inb i (A.len l) = true ∧ A.wf l (ty T e).size = true) ∧ K (.iptr l i 0)
      | _ => False)
      else False
    | _ => False
  | _ => False
def indexA (T : Nat → TI) (A : Ar) (st : St) (t : Nat) (x : AV) (ix : Operand) (K : AV → Prop) : Prop :=
  match st.ev ix with
  | .d (.int _ i) =>
    match (ty T t).u with
    | .str => (match x with | .d (.str s) => A.inb i (A.slen s) = true ∧ K (.d (.int .u8 (A.sidx s i))) | _ => False)
    | .array n e =>
      match (bif Nat.blt 0 (ty T e).size then aggOf x else none) with
      | some l =>
        (match constI ix with
        | some (.ofNat j) => bif Nat.blt j n then (match partOf l (j * (ty T e).size) (ty T e).size (isAggT (ty T e)) with | some v => K v | none => False) else False
        | some _ => False
        | none =>
          bif isAggT (ty T e) then False else
          bif (ty T e).size == 1 then
            (A.inb i n = true ∧ match stepsA l 0 1 n with | some xs => (match selA A i xs with | some v => K v | none => False) | none => False)
          else False)
      | none => False
    | _ => False
  | _ => False
def binA (A : Ar) (op : BinOp) (x y : AV) (K : AV → Prop) : Prop :=
  match x, y with
  | .d (.int k a), .d (.int k' b) =>
    match op with
    | .add => (bif decide (k = k') then K (.d (.int k (A.bin .add k a b))) else False)
    | .sub => (bif decide (k = k') then K (.d (.int k (A.bin .sub k a b))) else False)
    | .mul => (bif decide (k = k') then K (.d (.int k (A.bin .mul k a b))) else False)
    | .quo => (bif decide (k = k') then A.cmp .neq b 0 = true ∧ K (.d (.int k (A.bin .quo k a b))) else False)
    | .rem => (bif decide (k = k') then A.cmp .neq b 0 = true ∧ K (.d (.int k (A.bin .rem k a b))) else False)
    | .and => (bif decide (k = k') then K (.d (.int k (A.bin .and k a b))) else False)
    | .or => (bif decide (k = k') then K (.d (.int k (A.bin .or k a b))) else False)
    | .xor => (bif decide (k = k') then K (.d (.int k (A.bin .xor k a b))) else False)
    | .andNot => (bif decide (k = k') then K (.d (.int k (A.bin .andNot k a b))) else False)
    | .shl => A.cmp .geq b 0 = true ∧ K (.d (.int k (A.bin .shl k a b)))
    | .shr => A.cmp .geq b 0 = true ∧ K (.d (.int k (A.bin .shr k a b)))
    | c => (bif decide (k = k') then K (.d (.bool (A.cmp c a b))) else False)
  | .d (.str a), .d (.str b) =>
    match op with
    | .add => A.scok a b = true ∧ K (.d (.str (A.scat a b)))
    | .eql => K (.d (.bool (A.scmp .eql a b)))
    | .neq => K (.d (.bool (A.scmp .neq a b)))
    | .lss => K (.d (.bool (A.scmp .lss a b)))
    | .leq => K (.d (.bool (A.scmp .leq a b)))
    | .gtr => K (.d (.bool (A.scmp .gtr a b)))
    | .geq => K (.d (.bool (A.scmp .geq a b)))
    | _ => False
  | _, _ => False
/-- What is shown of all that may come. -/
structure Al {α : Type} (p : α → Prop) (k : α → Prop) : Prop where
  h : ∀ x, p x → k x
/-- Data of just these kinds, flat. -/
def ksOk : List D → List Kd → Bool
  | [], [] => true
  | .int k' _ :: ds, .int k :: ks => bif decide (k' = k) then ksOk ds ks else false
  | .bool _ :: ds, .bool :: ks => ksOk ds ks
  | .str _ :: ds, .str :: ks => ksOk ds ks
  | _, _ => false
/-- Equality where no int and no string is compared. -/
def eqA (T : Nat → TI) (A : Ar) (neq cst : Bool) (t : Nat) (x y : AV) (K : AV → Prop) : Prop :=
  let say (b : Bool) : Prop := K (.d (.bool (bif neq then (bif b then false else true) else b)))
  match (ty T t).u with
  | .bool => (match x, y with | .d (.bool a), .d (.bool b) => K (.d (.bool (bif neq then A.bnot (A.beq a b) else A.beq a b))) | _, _ => False)
  | .ptr _ =>
    (match x, y with
    | .d .nilp, .d .nilp => say true
    | .ptr _ _, .d .nilp => say false
    | .rptr _ _ _ _, .d .nilp => say false
    | .iptr _ _ _, .d .nilp => say false
    | .d .nilp, .ptr _ _ => say false
    | _, _ => False)
  | .slice _ =>
    (match x, y with
    | .d .nilsl, .d .nilsl => say true
    | .d (.imm l), .d .nilsl => Al (fun b => b = true → l = []) fun b => say b
    | _, _ => False)
  | .map _ _ =>
    (match x, y with
    | .d .nilm, .d .nilm => say true
    | .map _, .d .nilm => say false
    | _, _ => False)
  | .struct _ =>
    (match x, y with
    | .d (.agg l), .d (.agg l') => (bif eqT t && ksOk l (kinds T 8 t) && ksOk l' (kinds T 8 t) then K (.d (.bool (bif neq then A.bnot (A.deq l l') else A.deq l l'))) else False)
    | _, _ => False)
  | .iface =>
    (match x, y with
    | .d .nili, .d .nili => (bif cst then say true else False)
    | .ifc _ _, .d .nili => say false
    | .d .nili, .ifc _ _ => say false
    | .ifc t1 (.d (.int k a)), .ifc t2 (.d (.int k' b)) =>
      (bif t1 == t2 then (match (ty T t1).u with
        | .int _ => (bif decide (k = k') then K (.d (.bool (bif neq then A.bnot (A.cmp .eql a b) else A.cmp .eql a b))) else False)
        | _ => False)
      else say false)
    | _, _ => False)
  | _ => False
def unA (A : Ar) (op : UnOp) (x : AV) (K : AV → Prop) : Prop :=
  match op, x with
  | .neg, .d (.int k n) => K (.d (.int k (A.neg k n)))
  | .xor, .d (.int k n) => K (.d (.int k (A.com k n)))
  | .not, .d (.bool b) => K (.d (.bool (A.bnot b)))
  | _, _ => False
def rowsOf (st : St) : AV → Option (List (List D))
  | .d (.imm l) => some l
  | .d .nilsl => some []
  | .sl id => match hget st.h id with | some (.row _ l) => some l | _ => none
  | _ => none
def convA (T : Nat → TI) (A : Ar) (st : St) (s d : Nat) (x : AV) (K : AV → Prop) : Prop :=
  match (ty T s).u, (ty T d).u, x with
  | .int _, .int k, .d (.int _ n) => K (.d (.int k (A.wrap k n)))
  | .str, .str, .d (.str v) => K (.d (.str v))
  | .slice e, .str, v =>
    (match (ty T e).u, rowsOf st v with
    | .int .u8, some l => (A.allB l = true ∧ A.wf l 1 = true) ∧ K (.d (.str (A.b2s l)))
    | _, _ => False)
  | .str, .slice e, .d (.str v) => (match (ty T e).u with | .int .u8 => K (.d (.imm (A.s2b v))) | _ => False)
  | _, _, _ => False
def optI (st : St) : Option Operand → Option (Option Int)
  | none => some none
  | some o => match st.ev o with | .d (.int _ n) => some (some n) | _ => none
def sliceA (T : Nat → TI) (A : Ar) (st : St) (t : Nat) (x : AV) (lo hi mx : Option Operand) (K : St → AV → Prop) : Prop :=
  match mx, optI st lo, optI st hi with
  | none, some l, some h =>
    match (ty T t).u, x with
    | .str, .d (.str s) =>
      let l' := l.getD 0
      let h' := h.getD (A.slen s)
      A.sub2 l' h' (A.slen s) = true ∧ K st (.d (.str (A.ssub s l' h')))
    | .slice e, .d .nilsl =>
      let l' := l.getD 0
      let h' := h.getD 0
      (A.sub2 l' h' 0 = true ∧ (ty T e).size ≠ 0) ∧ K st (.d .nilsl)
    | .slice e, .d (.imm r) =>
      let l' := l.getD 0
      let h' := h.getD (A.len r)
      (A.sub2 l' h' (A.len r) = true ∧ A.wf r (ty T e).size = true ∧ (ty T e).size ≠ 0) ∧ K st (.d (.imm (A.sub r l' h')))
    | .slice e, .sl id =>
      (match hget st.h id with
      | some (.row c r) =>
        let l' := l.getD 0
        let h' := h.getD (A.len r)
        (A.sub2 l' h' (A.len r) = true ∧ c = (ty T e).size) ∧ K { st with h := hdel st.h id } (.d (.imm (A.sub r l' h')))
      | _ => False)
    | .array n e, .ptr id 0 =>
      (match hget st.h id with
      | some (.cells cs) =>
        (match dsOf cs with
        | some ds =>
          let l' := l.getD 0
          let h' := h.getD n
          (bif (ty T e).size == 1 then (bif ds.length == n then A.sub2 l' h' n = true ∧ K { st with h := hdel st.h id } (.d (.imm (A.sub (ds.map fun d => [d]) l' h'))) else False) else False)
        | none => False)
      | _ => False)
    | _, _ => False
  | _, _, _ => False
def fillA (l : List AV) : List (Nat × List AV) → Option (List AV)
  | [] => some l
  | (off, vs) :: r => bif Nat.ble (off + vs.length) l.length then fillA (setMany l off vs) r else none
def chunks (c : Nat) : Nat → List D → List (List D)
  | 0, _ => []
  | n + 1, l => l.take c :: chunks c n (l.drop c)
def zerosOf (T : Nat → TI) (t : Nat) : Option (List AV) := (ty T t).zero.map (·.map .d)
/-- The parts of a literal: where each lies. -/
def partsA (T : Nat → TI) (t : Nat) (ps : List (Nat × AV)) : Option (List (Nat × List AV)) :=
  match (ty T t).u with
  | .struct fs => bif fs.all fun f => Nat.blt 0 (ty T f.2).size then go (fun i => (fs[i]?).map fun f => (f.1, (ty T f.2).size)) ps else none
  | .array n e => bif Nat.blt 0 (ty T e).size then go (fun i => some (i * (ty T e).size, (ty T e).size)) ps else none
  | _ => none
where
  go (at_ : Nat → Option (Nat × Nat)) : List (Nat × AV) → Option (List (Nat × List AV))
    | [] => some []
    | (i, v) :: r =>
      match at_ i, go at_ r with
      | some (off, size), some l => bif (cellsOf v).length == size then some ((off, cellsOf v) :: l) else none
      | _, _ => none
/-- No part is unknown. -/
def noTop : List (Nat × AV) → Bool
  | [] => true
  | (_, .top) :: _ => false
  | _ :: r => noTop r
def buildA (T : Nat → TI) (t : Nat) (ps : List (Nat × AV)) (K : AV → Prop) : Prop :=
  bif noTop ps && Nat.blt 0 (ty T t).size then
    match zerosOf T t, partsA T t ps with
    | some z, some l => (match fillA z l with | some cs => K (mkAgg cs) | none => False)
    | _, _ => False
  else False
def bsliceA (T : Nat → TI) (t len : Nat) (ps : List (Nat × AV)) (K : List (List D) → Nat → Prop) : Prop :=
  match (ty T t).u with
  | .slice e =>
    bif noTop ps then
    match zerosOf T e, partsA.go (fun i => some (i * (ty T e).size, (ty T e).size)) ps with
    | some z, some l =>
      (match fillA ((List.replicate len z).flatten) l with
      | some cs => (match dsOf cs with | some ds => (bif Nat.blt (len * (ty T e).size) 16777216 then (bif Nat.blt 0 (ty T e).size && (z.length == (ty T e).size) then K (chunks (ty T e).size len ds) (ty T e).size else False) else False) | none => False)
      | none => False)
    | _, _ => False
    else False
  | _ => False
def pickA (A : Ar) (c a b : AV) (K : AV → Prop) : Prop :=
  match c with
  | .d (.bool c) =>
    (match a, b with
    | .d (.bool x), .d (.bool y) => K (.d (.bool (A.pickB c x y)))
    | .d (.int k x), .d (.int k' y) => (bif decide (k = k') then K (.d (.int k (A.pickI c x y))) else False)
    | .d (.str x), .d (.str y) => K (.d (.str (A.pickS c x y)))
    | a, b => match c with | true => K a | false => K b)
  | _ => False
end Go.Proofs.Yteakfibolfapiaa.Ab

/- The abstract operations: what they do to abstract values and objects, as propositions that compute. -/
import Derived.Test.YtcgpgpbnpjbhhaaPgA1
namespace Go.Proofs.YtcgpgpbnpjbhhaaPg
open Go Go.RowKit
variable [Globs]

/-! ### types -/
inductive TK where
  | int (k : IntKind) | bool | str | ptr (e : TypeId) | sl (e : TypeId) | struct (fs : List (Nat × TypeId)) | arr (n : Nat) (e : TypeId)
  | map (k e : TypeId) | fn | iface | other

structure TI where
  kind : TK
  size : Nat
  bytes : Nat
  zero : List V
  good : Bool
  eqok : Bool := false

def ofVal1 : Value → V
  | .bool b => .bool b
  | .int k n => .int k n
  | .string s => .str s.data.toList
  | .pointer none => .nilp
  | .slice none 0 0 => .nils
  | .nilFunc => .nilf
  | .nilIface => .nili
  | .map none => .nilm
  | _ => .any

def notAny : V → Bool
  | .any => false
  | _ => true

def ofVal : Value → V
  | .bool b => .bool b
  | .int k n => .int k n
  | .string s => .str s.data.toList
  | .pointer none => .nilp
  | .slice none 0 0 => .nils
  | .nilFunc => .nilf
  | .nilIface => .nili
  | .map none => .nilm
  | .agg cs => match (cs.toList.map ofVal1).all notAny with
    | true => .agg (cs.toList.map ofVal1)
    | false => .any
  | .tuple cs => .tup (cs.toList.map ofVal1)
  | _ => .any

def kindOf : TypeDesc → TK
  | .int k => .int k
  | .bool => .bool
  | .string => .str
  | .pointer e => .ptr e
  | .slice e => .sl e
  | .struct fs => .struct (fs.toList.map fun f => (f.offset, f.type))
  | .array n e => .arr n e
  | .map k e => .map k e
  | .func .. => .fn
  | .interface _ => .iface
  | _ => .other

def leafD : Option TypeDesc → Bool
  | some .bool => true
  | some (.int _) => true
  | some .string => true
  | _ => false

/-- structs of leaves that are compared field by field -/
def eqOf (P : Program) (t : TypeId) : TypeDesc → Bool
  | .struct fs => fs.toList.all (fun f => leafD (P.underlying f.type) && f.name != "_") && (!P.stoodInHeld t && !P.eqGuardType P.depth t)
  | _ => false

def TI.bad : TI := ⟨.other, 0, 0, [], false, false⟩

def tiOf (P : Program) (t : TypeId) : TI :=
  match P.info? t with
  | some i => match i.zero with
    | some z => match P.underlying t with
      | some d => match (z.cells.toList.map ofVal1).all notAny with
        | true => ⟨kindOf d, i.size, i.bytes, z.cells.toList.map ofVal1, true, eqOf P t d⟩
        | false => .bad
      | none => .bad
    | none => .bad
  | none => .bad

def TIok (P : Program) (T : Nat → TI) : Prop := ∀ t, T t = tiOf P t ∨ T t = TI.bad

def TK.isAgg : TK → Bool
  | .struct _ | .arr _ _ => true
  | _ => false

/-! ### values -/
def aeval (e : Env) : Operand → V
  | .tmp t => Env.get e t
  | .const v => ofVal v
  | .global g => .glob g
  | .func f => .fn (.func f) [] []

/-- A closed value is opened where it is looked at. -/
def open1 : V → V
  | .im v => v
  | v => v

def aevo (e : Env) (x : Operand) : V := open1 (aeval e x)

/-- K at v, its head laid open. -/
def force (v : V) (K : V → Prop) : Prop :=
  match v with
  | .bool b => K (.bool b)
  | .int k n => K (.int k n)
  | .str s => K (.str s)
  | .ptr i o => K (.ptr i o)
  | .ep a b c => K (.ep a b c)
  | .ip a b => K (.ip a b)
  | .nilp => K .nilp
  | .sl a b c => K (.sl a b c)
  | .ms a b c d f => K (.ms a b c d f)
  | .nils => K .nils
  | .fn a b c => K (.fn a b c)
  | .nilf => K .nilf
  | .map a => K (.map a)
  | .nilm => K .nilm
  | .agg a => K (.agg a)
  | .tup a => K (.tup a)
  | .iface a b => K (.iface a b)
  | .nili => K .nili
  | .glob a => K (.glob a)
  | .yld a => K (.yld a)
  | .im a => K (.im a)
  | .any => K .any

theorem force_iff (v : V) (K : V → Prop) : force v K ↔ K v := by cases v <;> rfl

def copyL : List V → (List V → Prop) → Prop
  | [], K => K []
  | c :: cs, K => copyL cs fun r => K (c :: r)

theorem copyL_iff (l : List V) (K : List V → Prop) : copyL l K ↔ K l := by
  induction l generalizing K with
  | nil => exact Iff.rfl
  | cons c cs ih => simp only [copyL, ih]

/-- The cells of a value that is to lie in memory. -/
def cellsOf : V → Option (List V)
  | .agg cs => some cs
  | .tup _ => none
  | .any => none
  | v => some [v]

def getO (H : List O) (id : Nat) : O := H.getD id .dead

def setO : List O → Nat → O → List O
  | [], _, _ => []
  | _ :: H, 0, o => o :: H
  | x :: H, n + 1, o => x :: setO H n o

theorem setO_eq (H : List O) (n : Nat) (o : O) : setO H n o = H.set n o := by
  induction H generalizing n with
  | nil => rfl
  | cons x H ih => cases n <;> simp [setO, ih]

def copyH : List O → (List O → Prop) → Prop
  | [], K => K []
  | c :: cs, K => copyH cs fun r => K (c :: r)

theorem copyH_iff (l : List O) (K : List O → Prop) : copyH l K ↔ K l := by
  induction l generalizing K with
  | nil => exact Iff.rfl
  | cons c cs ih => simp only [copyH, ih]

/-! ### quiet operations -/
def loadV (ti : TI) (cs : List V) (off : Nat) (K : V → Prop) : Prop :=
  match ti.good with
  | true => match ti.kind.isAgg with
    | true => match Nat.ble (off + ti.size) cs.length with
      | true => copyL ((cs.drop off).take ti.size) fun r => K (.agg r)
      | false => False
    | false => match cs[off]? with
      | some v => force v K
      | none => False
  | false => False

def abinInt (op : BinOp) (k : IntKind) (x y : Int) (K : V → Prop) : Prop :=
  match op with
  | .add => K (.int k (k.wrap (x + y)))
  | .sub => K (.int k (k.wrap (x - y)))
  | .mul => K (.int k (k.wrap (x * y)))
  | .quo => y ≠ 0 ∧ K (.int k (k.wrap (x.tdiv y)))
  | .rem => y ≠ 0 ∧ K (.int k (x.tmod y))
  | .and => K (.int k (k.wrap (BitVec.ofInt k.bits x &&& BitVec.ofInt k.bits y).toNat))
  | .or => K (.int k (k.wrap (BitVec.ofInt k.bits x ||| BitVec.ofInt k.bits y).toNat))
  | .xor => K (.int k (k.wrap (BitVec.ofInt k.bits x ^^^ BitVec.ofInt k.bits y).toNat))
  | .andNot => K (.int k (k.wrap (BitVec.ofInt k.bits x &&& ~~~ BitVec.ofInt k.bits y).toNat))
  | .eql => K (.bool (decide (x = y)))
  | .neq => K (.bool (!decide (x = y)))
  | .lss => K (.bool (decide (x < y)))
  | .leq => K (.bool (decide (x ≤ y)))
  | .gtr => K (.bool (decide (y < x)))
  | .geq => K (.bool (decide (y ≤ x)))
  | _ => False

def abinStr (op : BinOp) (x y : List UInt8) (K : V → Prop) : Prop :=
  match op with
  | .add => (x.length + y.length : Int) ≤ 9223372036854775807 ∧ K (.str (x ++ y))
  | .eql => K (.bool (decide (x = y)))
  | .neq => K (.bool (!decide (x = y)))
  | .lss => K (.bool (Op.bytesLess x y))
  | .leq => K (.bool (Op.bytesLess x y || decide (x = y)))
  | .gtr => K (.bool (!(Op.bytesLess x y || decide (x = y))))
  | .geq => K (.bool (!Op.bytesLess x y))
  | _ => False

def aeqn (op : BinOp) (b : Bool) (K : V → Prop) : Prop :=
  match op with
  | .eql => K (.bool b)
  | .neq => K (.bool (!b))
  | _ => False

/-- Are two cells of plain values the same? -/
def eqCell : V → V → Option Bool
  | .int _ a, .int _ b => some (decide (a = b))
  | .bool a, .bool b => some (a == b)
  | .str a, .str b => some (decide (a = b))
  | _, _ => none

/-- two leaves -/
def leafEq (k : TK) (x y : V) (K : Bool → Prop) : Prop :=
  match k with
  | .int _ => match x, y with
    | .int k1 a, .int k2 b => match decide (k1 = k2) with
      | true => K (decide (a = b))
      | false => False
    | _, _ => False
  | .bool => match x, y with
    | .bool a, .bool b => K (a == b)
    | _, _ => False
  | .str => match x, y with
    | .str a, .str b => K (decide (a = b))
    | _, _ => False
  | _ => False

def fieldsEq (T : Nat → TI) (xs ys : List V) : List (Nat × TypeId) → (Bool → Prop) → Prop
  | [], K => K true
  | (o, t) :: r, K => match Nat.beq (T t).size 1, xs[o]?, ys[o]? with
    | true, some x, some y => leafEq (T t).kind x y fun b => fieldsEq T xs ys r fun c => K (b && c)
    | _, _, _ => False

def abin (T : Nat → TI) (op : BinOp) (t : TypeId) (x y : V) (K : V → Prop) : Prop :=
  match x, y with
  | .int k a, .int k' b => match op with
    | .shl => 0 ≤ b ∧ K (.int k (k.wrap (a * 2 ^ (min b.toNat k.bits))))
    | .shr => 0 ≤ b ∧ K (.int k (a.fdiv (2 ^ (min b.toNat k.bits))))
    | _ => match decide (k = k') with
      | true => abinInt op k a b K
      | false => False
  | .str a, .str b => abinStr op a b K
  | .bool a, .bool b => match (T t).kind with
    | .bool => aeqn op (a == b) K
    | _ => False
  | .nilp, .nilp | .ptr _ _, .nilp | .ip _ _, .nilp | .ep _ _ _, .nilp | .glob _, .nilp => match (T t).kind with
    | .ptr _ => aeqn op (match x with | .nilp => true | _ => false) K
    | _ => False
  | .nils, .nils | .sl _ (_ :: _) _, .nils => match (T t).kind with
    | .sl _ => aeqn op (match x with | .nils => true | _ => false) K
    | _ => False
  | .agg xs, .agg ys => match (T t).kind, (T t).eqok with
    | .struct fs, true => fieldsEq T xs ys fs fun b => aeqn op b K
    | _, _ => False
  | .ms _ _ _ len _, .nils => match (T t).kind with
    | .sl _ => 0 < len ∧ aeqn op false K
    | _ => False
  | .nilf, .nilf | .fn _ _ _, .nilf => match (T t).kind with
    | .fn => aeqn op (match x with | .nilf => true | _ => false) K
    | _ => False
  | _, _ => False

def aun (op : UnOp) (x : V) (K : V → Prop) : Prop :=
  match op, x with
  | .neg, .int k n => K (.int k (k.wrap (0 - n)))
  | .xor, .int k n => K (.int k (k.wrap (BitVec.ofInt k.bits (if k.signed then -1 else k.max) ^^^ BitVec.ofInt k.bits n).toNat))
  | .not, .bool b => K (.bool (!b))
  | _, _ => False

/-- The bytes of cells that are bytes. -/
def byteOfV : V → Option UInt8
  | .int .u8 n => some (UInt8.ofNat n.toNat)
  | _ => none

def bytesOfEs : List (List V) → Option (List UInt8)
  | [] => some []
  | [.int .u8 n] :: es => match bytesOfEs es with
    | some l => some (UInt8.ofNat n.toNat :: l)
    | none => none
  | _ :: _ => none

def aconv (s d : TK) (de : TK) (H : List O) (x : V) (K : V → Prop) : Prop :=
  match d, x with
  | .int k, .int _ n => match s with
    | .int _ => K (.int k (k.wrap n))
    | _ => False
  | .str, .str l => match s with
    | .str => K (.str l)
    | _ => False
  | .str, .int _ n => match s with
    | .int _ => K (.str (Utf8.encode n).data.toList)
    | _ => False
  | .str, .nils => match s, de with
    | .sl _, .int .u8 => K (.str [])
    | _, _ => False
  | .str, .sl _ es _ => match s, de with
    | .sl _, .int .u8 => ∃ l, bytesOfEs es = some l ∧ K (.str l)
    | _, _ => False
  | .str, .ms _ id off len _ => match s, de with
    | .sl _, .int .u8 => match getO H id with
      | .buf es => off + len ≤ es.length ∧ ∃ l, bytesOfEs ((es.drop off).take len) = some l ∧ K (.str l)
      | _ => False
    | _, _ => False
  | _, _ => False

/-- How many elements the buffer of a slice is known to have. -/
def bufLen (H : List O) : V → Nat
  | .ms _ id _ _ _ => match getO H id with
    | .buf es => es.length
    | _ => 0
  | _ => 0

/-- Slicing: low, high, the bound of the room, each where it is said. -/
def aslice (sz bl : Nat) (x : V) (lo hi mx : Option Int) (K : V → Prop) : Prop :=
  match x with
  | .str s => match mx with
    | none => match lo, hi with
      | none, none => K (.str s)
      | none, some h => (0 ≤ h ∧ h ≤ s.length) ∧ K (.str (s.take h.toNat))
      | some l, none => (0 ≤ l ∧ l ≤ s.length) ∧ K (.str (s.drop l.toNat))
      | some l, some h => (0 ≤ l ∧ l ≤ h ∧ h ≤ s.length) ∧ K (.str ((s.take h.toNat).drop l.toNat))
    | some _ => False
  | .sl sz' es full => match Nat.beq sz' sz with
   | false => False
   | true => match mx with
    | none => match lo, hi with
      | none, none => K (.sl sz es full)
      | none, some h => (0 ≤ h ∧ h ≤ es.length) ∧ K (.sl sz (es.take h.toNat) false)
      | some l, none => (0 ≤ l ∧ l ≤ es.length) ∧ K (.sl sz (es.drop l.toNat) full)
      | some l, some h => (0 ≤ l ∧ l ≤ h ∧ h ≤ es.length) ∧ K (.sl sz ((es.take h.toNat).drop l.toNat) false)
    | some m => match lo, hi with
      | none, some h => (0 ≤ h ∧ h = m ∧ h ≤ es.length) ∧ K (.sl sz (es.take h.toNat) true)
      | some l, some h => (0 ≤ l ∧ l ≤ h ∧ h = m ∧ h ≤ es.length) ∧ K (.sl sz ((es.take h.toNat).drop l.toNat) true)
      | _, _ => False
  | .nils => match mx with
    | none => match lo, hi with
      | none, none => K .nils
      | none, some h => h = 0 ∧ K .nils
      | some l, none => l = 0 ∧ K .nils
      | some l, some h => (l = 0 ∧ h = 0) ∧ K .nils
    | some m => match lo, hi with
      | none, some h => (h = 0 ∧ m = 0) ∧ K .nils
      | some l, some h => (l = 0 ∧ h = 0 ∧ m = 0) ∧ K .nils
      | _, _ => False
  | .ms sz' id off len full => match Nat.beq sz' sz with
   | false => False
   | true => match mx with
    | none => match lo, hi with
      | none, none => K (.ms sz id off len full)
      | none, some h => match full with
        | false => (0 ≤ h ∧ h ≤ len) ∧ K (.ms sz id off h.toNat false)
        | true => (0 ≤ h ∧ h = len) ∧ K (.ms sz id off h.toNat true)
      | some l, none => (0 ≤ l ∧ l ≤ len) ∧ K (.ms sz id (l.toNat + off) (len - l.toNat) full)
      | some l, some h => match full with
        | false => (0 ≤ l ∧ l ≤ h ∧ (h ≤ len ∨ (0 < len ∧ off + h.toNat ≤ bl))) ∧ K (.ms sz id (l.toNat + off) (h.toNat - l.toNat) false)
        | true => (0 ≤ l ∧ l ≤ h ∧ h = len) ∧ K (.ms sz id (l.toNat + off) (h.toNat - l.toNat) true)
    | some m => match lo, hi with
      | none, some h => (0 ≤ h ∧ h = m ∧ h ≤ len) ∧ K (.ms sz id off h.toNat true)
      | some l, some h => match decide (h = m) with
        | true => (0 ≤ l ∧ l ≤ h ∧ h = m ∧ h ≤ len) ∧ K (.ms sz id (l.toNat + off) (h.toNat - l.toNat) true)
        | false => (0 ≤ l ∧ l ≤ h ∧ h ≤ m ∧ m ≤ len) ∧ K .any
      | _, _ => False
  | _ => False

def fieldAt (T : Nat → TI) (s : TypeId) (f : Nat) : Option (Nat × TypeId) :=
  match (T s).kind with
  | .struct fs => fs[f]?
  | _ => none

def foldMax (mx : Bool) : V → List V → (V → Prop) → Prop
  | .int k a, [], K => K (.int k a)
  | .int k a, .int _ b :: r, K => foldMax mx (.int k (match mx with | true => if b > a then b else a | false => if b < a then b else a)) r K
  | _, _, _ => False

def qPick (c x y : V) (K : V → Prop) : Prop :=
  match c with
  | .bool true => force x K
  | .bool false => force y K
  | _ => False

def fillV (place : Nat → Option (Nat × Nat)) (cells : List V) : List (Nat × V) → (V → Prop) → Prop
  | [], K => copyL cells fun r => K (.agg r)
  | (i, v) :: rest, K => match place i with
    | none => False
    | some (off, size) => match cellsOf v with
      | none => False
      | some cs => match Nat.beq cs.length size with
        | true => match Nat.ble (off + size) cells.length with
          | true => fillV place (cells.take off ++ cs ++ cells.drop (off + size)) rest K
          | false => False
        | false => False

def qBuild (T : Nat → TI) (t : TypeId) (parts : List (Nat × V)) (K : V → Prop) : Prop :=
  match (T t).kind with
  | .struct fs => match fs.all fun p => (T p.2).good with
    | true => fillV (fun i => fs[i]?.map fun p => (p.1, (T p.2).size)) (T t).zero parts K
    | false => False
  | _ => False

def qLoad (T : Nat → TI) (H : List O) (t : TypeId) (a : V) (K : V → Prop) : Prop :=
  match a with
  | .ptr id off => match getO H id with
    | .cells cs => loadV (T t) cs off K
    | _ => False
  | .ep id i j => match getO H id with
    | .buf es => ∃ x, es[i]? = some x ∧ loadV (T t) x j K
    | _ => False
  | .ip cs off => loadV (T t) cs off K
  | _ => False

def qNil (x : V) (K : V → Prop) : Prop :=
  match x with
  | .ptr a b => K (.ptr a b)
  | .ep a b c => K (.ep a b c)
  | .ip a b => K (.ip a b)
  | .fn (.func f) a b => K (.fn (.func f) a b)
  | _ => False

def qFieldAddr (T : Nat → TI) (s : TypeId) (f : Nat) (x : V) (K : V → Prop) : Prop :=
  match fieldAt T s f with
  | some (fo, ft) => match (T ft).good with
    | true => match (T ft).size with
      | 0 => False
      | _ + 1 => match x with
        | .ptr id off => K (.ptr id (off + fo))
        | .ep id i j => K (.ep id i (j + fo))
        | .ip cs off => K (.ip cs (off + fo))
        | _ => False
    | false => False
  | none => False

def qField (T : Nat → TI) (s : TypeId) (f : Nat) (x : V) (K : V → Prop) : Prop :=
  match fieldAt T s f with
  | some (fo, ft) => match x with
    | .agg cs => loadV (T ft) cs fo K
    | _ => False
  | none => False

def qIndexAddr (T : Nat → TI) (t : TypeId) (x i : V) (K : V → Prop) : Prop :=
  match (T t).kind with
  | .sl q => match (T q).good with
    | true => match i with
      | .int _ n => match x with
        | .sl sz es _ => match Nat.beq sz (T q).size with
          | true => ∃ c, (0 ≤ n ∧ es[n.toNat]? = some c) ∧ K (.ip c 0)
          | false => False
        | .ms sz id off len _ => match Nat.beq sz (T q).size with
          | true => (0 ≤ n ∧ n < len) ∧ K (.ep id (n.toNat + off) 0)
          | false => False
        | _ => False
      | _ => False
    | false => False
  | _ => False

def qIndex (T : Nat → TI) (t : TypeId) (x i : V) (K : V → Prop) : Prop :=
  match (T t).kind with
  | .str => match x with
    | .str s => match i with
      | .int _ n => ∃ c, (0 ≤ n ∧ s[n.toNat]? = some c) ∧ K (.int .u8 c.toNat)
      | _ => False
    | _ => False
  | _ => False

def qExtract (x : V) (i : Nat) (K : V → Prop) : Prop :=
  match x with
  | .tup vs => match vs[i]? with
    | some v => force v K
    | none => False
  | _ => False

def qIface (T : Nat → TI) (t : TypeId) (x : V) (K : V → Prop) : Prop :=
  match (T t).kind with
  | .iface => False
  | .other => False
  | _ => force x fun v => K (.iface t v)

def qLen (T : Nat → TI) (args : List V) (ts : List TypeId) (K : V → Prop) : Prop :=
  match args, ts with
  | [x], [t] => match (T t).kind with
    | .str => match x with
      | .str s => K (.int .i64 s.length)
      | _ => False
    | .sl _ => match x with
      | .sl _ es _ => K (.int .i64 es.length)
      | .ms _ _ _ len _ => K (.int .i64 len)
      | .nils => K (.int .i64 0)
      | _ => False
    | _ => False
  | _, _ => False

def qMax (mx : Bool) (args : List V) (K : V → Prop) : Prop :=
  match args with
  | x :: r => foldMax mx x r K
  | [] => False

/-- A bound that is said must be a number. -/
def boundV (x : Option V) : Option (Option Int) :=
  match x with
  | none => some none
  | some (.int _ n) => some (some n)
  | some _ => none

def qSlice (T : Nat → TI) (H : List O) (t : TypeId) (x : V) (lo hi mx : Option V) (K : V → Prop) : Prop :=
  match boundV lo, boundV hi, boundV mx with
  | some l, some h, some m => match (T t).kind with
    | .str => match x with
      | .str s => aslice 0 0 (.str s) l h m K
      | _ => False
    | .sl q => match (T q).good with
      | true => match x with
        | .str _ => False
        | x => aslice (T q).size (bufLen H x) x l h m K
      | false => False
    | _ => False
  | _, _, _ => False

def aq (T : Nat → TI) (o : Op) (e : Env) (H : List O) (K : V → Prop) : Prop :=
  match o with
  | .move x => force (aeval e x) K
  | .assign x => force (aeval e x) K
  | .pick c a b => qPick (aeval e c) (aeval e a) (aeval e b) K
  | .build t parts => qBuild T t (parts.toList.map fun p => (p.1, aeval e p.2)) K
  | .load t a => qLoad T H t (aevo e a) K
  | .nilCheck x => qNil (aevo e x) K
  | .binOp op t x y _ => abin T op t (aevo e x) (aevo e y) K
  | .unOp op _ x => aun op (aevo e x) K
  | .convert s d x => aconv (T s).kind (T d).kind (match (T s).kind with | .sl q => (T q).kind | _ => .other) H (aevo e x) K
  | .makeFunc fn first captured => copyL (first.toList.map (aeval e)) fun a => copyL (captured.toList.map (aeval e)) fun b => K (.fn fn a b)
  | .slice t x lo hi mx => qSlice T [] t (aevo e x) (lo.map (aevo e)) (hi.map (aevo e)) (mx.map (aevo e)) K
  | .fieldAddr s x f => qFieldAddr T s f (aevo e x) K
  | .field s x f => qField T s f (aevo e x) K
  | .indexAddr t x i => qIndexAddr T t (aevo e x) (aevo e i) K
  | .index t x i => qIndex T t (aevo e x) (aevo e i) K
  | .extract x i => qExtract (aeval e x) i K
  | .makeInterface t x => qIface T t (aeval e x) K
  | .call c => match c.callee with
    | .builtin .len => qLen T (c.args.toList.map (aevo e)) c.argTypes.toList K
    | .builtin .max => qMax true (c.args.toList.map (aeval e)) K
    | .builtin .min => qMax false (c.args.toList.map (aeval e)) K
    | _ => False
  | _ => False

end Go.Proofs.YtcgpgpbnpjbhhaaPg

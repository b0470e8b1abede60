/- A part of the proof of a seat of parts: AbsDef, AbsRel, AbsOp1, AbsOp2, AbsOp3, AbsOp4. -/
import Derived.Calls
import Derived.Scope
import Derived.WalkKit
set_option linter.all false
namespace Go.Abs
open Go

inductive IV where
  | bool (b : Bool)
  | int (k : IntKind) (n : Int)
  | str (s : ByteArray)
  | nilp
  | ptr (cells : List IV)
  | lst (elems : List (List IV))
  | fn (f : Nat) (first cap : List IV)

inductive A1 where
  | imm (v : IV)
  | nils
  | ref (id off : Nat)
  | el (id idx sub : Nat)
  | sl (id off len : Nat)
  | junk
  | emp

inductive AV where
  | one (a : A1)
  | agg (l : List A1)
  | iagg (l : List IV)
  | tup (l : List AV)
  | undef
  | hole

inductive Blk where
  | dead
  | cells (l : List A1) (ty : Option Nat)
  | vec (sz : Nat) (elems : List (List IV)) (g : Bool) (ty : Option Nat := none)

inductive TK where
  | int (k : IntKind) | str | bool | ptr (e : Nat) | slice (e : Nat) | array (n e : Nat) | struct (fs : List (Nat × Nat)) | other

structure TD where
  agg : Bool
  size : Nat
  bytes : Nat
  zero : List A1
  k : TK

structure Env where
  ty : List TD
  glob : List (List IV)
  eqs : List Nat := []
  tyd : List Nat := []
  fall : Nat → TD := fun _ => ⟨false, 0, 0, [], .other⟩

structure Hint where
  keep : List (Nat × List Nat) := []
  frz : List Nat := []
  res : Bool := true
  inc : Nat := 0
  pl : List Nat := []
  hc : List Nat := []
  ht : List Nat := []
  hk : List Nat := []
  kl : List Nat := []
  hw : List Nat := []
  hs : Bool := false
  cmp : Bool := false
  rc : Bool := false

structure Fr where
  tmps : List AV
  heap : List Blk

def Env.td (E : Env) (t : Nat) : TD := match E.ty[t]? with | some d => d | none => E.fall t

abbrev AV.i (v : IV) : AV := .one (.imm v)

def ofConst : Value → AV
  | .bool b => .i (.bool b)
  | .int k n => .i (.int k n)
  | .string s => .i (.str s)
  | .pointer none => .i .nilp
  | .slice none 0 0 => .one .nils
  | _ => .undef

def Env.ev (E : Env) (tmps : List AV) : Operand → AV
  | .tmp t => tmps.getD t .undef
  | .const v => ofConst v
  | .global g => .i (.ptr (E.glob.getD g []))
  | .func _ => .undef

/-- a small number, as a numeral -/
def natK (n : Nat) (k : Nat → Prop) : Prop :=
  match n with
  | 0 => k 0
  | 1 => k 1
  | 2 => k 2
  | 3 => k 3
  | 4 => k 4
  | 5 => k 5
  | 6 => k 6
  | 7 => k 7
  | 8 => k 8
  | 9 => k 9
  | 10 => k 10
  | 11 => k 11
  | 12 => k 12
  | 13 => k 13
  | 14 => k 14
  | 15 => k 15
  | 16 => k 16
  | 17 => k 17
  | 18 => k 18
  | 19 => k 19
  | 20 => k 20
  | 21 => k 21
  | 22 => k 22
  | 23 => k 23
  | 24 => k 24
  | 25 => k 25
  | 26 => k 26
  | 27 => k 27
  | 28 => k 28
  | 29 => k 29
  | 30 => k 30
  | 31 => k 31
  | 32 => k 32
  | n => k n

def natsK : List Nat → (List Nat → Prop) → Prop
  | [], k => k []
  | a :: t, k => natK a fun a => natsK t fun t => k (a :: t)

def iv1K (v : IV) (k : IV → Prop) : Prop :=
  match v with
  | .bool b => k (.bool b)
  | .int a n => k (.int a n)
  | .str s => k (.str s)
  | .nilp => k .nilp
  | .ptr c => k (.ptr c)
  | .lst e => k (.lst e)
  | .fn f a b => natK f fun f => k (.fn f a b)

def a1K (a : A1) (k : A1 → Prop) : Prop :=
  match a with
  | .imm v => k (.imm v)
  | .nils => k .nils
  | .ref i o => natK i fun i => natK o fun o => k (.ref i o)
  | .el i j s => natK i fun i => natK s fun s => k (.el i j s)
  | .sl i o l => natK i fun i => k (.sl i o l)
  | .junk => k .junk
  | .emp => k .emp

def a1sK : List A1 → (List A1 → Prop) → Prop
  | [], k => k []
  | a :: t, k => a1K a fun a => a1sK t fun t => k (a :: t)

def ivsK : List IV → (List IV → Prop) → Prop
  | [], k => k []
  | a :: t, k => ivsK t fun t => k (a :: t)

def av0K (v : AV) (k : AV → Prop) : Prop :=
  match v with
  | .one a => a1K a fun a => k (.one a)
  | .agg l => a1sK l fun l => k (.agg l)
  | .iagg l => k (.iagg l)
  | .tup l => k (.tup l)
  | .undef => k .undef
  | .hole => k .hole

def avsK : List AV → (List AV → Prop) → Prop
  | [], k => k []
  | a :: t, k => av0K a fun a => avsK t fun t => k (a :: t)

def avK (v : AV) (k : AV → Prop) : Prop :=
  match v with
  | .tup l => avsK l fun l => k (.tup l)
  | v => av0K v k

def blkK (b : Blk) (k : Blk → Prop) : Prop :=
  match b with
  | .dead => k .dead
  | .cells l ty => a1sK l fun l => match ty with | none => k (.cells l none) | some t => natK t fun t => k (.cells l (some t))
  | .vec n e g ty => natK n fun n => match ty with
    | none => match g with | true => k (.vec n e true none) | false => k (.vec n e false none)
    | some t => natK t fun t => match g with | true => k (.vec n e true (some t)) | false => k (.vec n e false (some t))

def blksK : List Blk → (List Blk → Prop) → Prop
  | [], k => k []
  | a :: t, k => blkK a fun a => blksK t fun t => k (a :: t)

def setK : List AV → Nat → AV → (List AV → Prop) → Prop
  | [], _, _, k => k []
  | _ :: t, 0, v, k => k (v :: t)
  | a :: t, n + 1, v, k => setK t n v fun t => k (a :: t)

def putK (tmps : List AV) (d : Option Nat) (v : AV) (k : List AV → Prop) : Prop :=
  match d with
  | some d => setK tmps d v k
  | none => k tmps

def aput (tmps : List AV) (d : Option Nat) (v : AV) : List AV := match d with | some d => tmps.set d v | none => tmps

def AV.cells : AV → List A1
  | .one a => [a]
  | .agg l => l
  | .iagg l => l.map .imm
  | _ => []

def imms : List A1 → Option (List IV)
  | [] => some []
  | .imm v :: t => (imms t).map (v :: ·)
  | _ => none

def sb (s : ByteArray) (i : Nat) : Int := ((s.data.toList.getD i 0).toNat : Int)

def bytesIV (s : ByteArray) : List (List IV) := s.data.toList.map fun b => [IV.int .u8 (b.toNat : Int)]

def ibits (op : BinOp) (k : IntKind) (x y : Int) : Int :=
  let a := BitVec.ofInt k.bits x
  let b := BitVec.ofInt k.bits y
  match op with
  | .and => k.wrap (a &&& b).toNat
  | .or => k.wrap (a ||| b).toNat
  | .xor => k.wrap (a ^^^ b).toNat
  | _ => k.wrap (a &&& ~~~b).toNat

def binInt (op : BinOp) (k : IntKind) (a b : Int) (K : AV → Prop) : Prop :=
  match op with
  | .add => K (.i (.int k (k.wrap (a + b))))
  | .sub => K (.i (.int k (k.wrap (a - b))))
  | .mul => K (.i (.int k (k.wrap (a * b))))
  | .quo => b ≠ 0 ∧ K (.i (.int k (k.wrap (a.tdiv b))))
  | .rem => b ≠ 0 ∧ K (.i (.int k (a.tmod b)))
  | .and => K (.i (.int k (ibits .and k a b)))
  | .or => K (.i (.int k (ibits .or k a b)))
  | .xor => K (.i (.int k (ibits .xor k a b)))
  | .andNot => K (.i (.int k (ibits .andNot k a b)))
  | .shl => 0 ≤ b ∧ K (.i (.int k (k.wrap (a * 2 ^ (min b.toNat k.bits)))))
  | .shr => 0 ≤ b ∧ K (.i (.int k (a.fdiv (2 ^ (min b.toNat k.bits)))))
  | .eql => K (.i (.bool (a == b)))
  | .neq => K (.i (.bool (a != b)))
  | .lss => K (.i (.bool (decide (a < b))))
  | .leq => K (.i (.bool (decide (a ≤ b))))
  | .gtr => K (.i (.bool (decide (a > b))))
  | .geq => K (.i (.bool (decide (a ≥ b))))

def binStr (op : BinOp) (x y : ByteArray) (K : AV → Prop) : Prop :=
  match op with
  | .add => x.size + y.size ≤ 140737488355328 ∧ K (.i (.str (x ++ y)))
  | .eql => K (.i (.bool (x.toList == y.toList)))
  | .neq => K (.i (.bool !(x.toList == y.toList)))
  | .lss => K (.i (.bool (Op.bytesLess x.toList y.toList)))
  | .leq => K (.i (.bool (Op.bytesLess x.toList y.toList || x.toList == y.toList)))
  | .gtr => K (.i (.bool !(Op.bytesLess x.toList y.toList || x.toList == y.toList)))
  | .geq => K (.i (.bool !(Op.bytesLess x.toList y.toList)))
  | _ => False

def kindEq : IntKind → IntKind → Bool
  | .i8, .i8 | .i16, .i16 | .i32, .i32 | .i64, .i64 | .u8, .u8 | .u16, .u16 | .u32, .u32 | .u64, .u64 => true
  | _, _ => false

def isShift : BinOp → Bool | .shl => true | .shr => true | _ => false

def eqCell : TK → IV → IV → Option Bool
  | .bool, .bool a, .bool b => some (a == b)
  | .int _, .int k a, .int k' b => match kindEq k k' with | true => some (a == b) | false => none
  | .str, .str a, .str b => some (a.toList == b.toList)
  | _, _, _ => none

/-- two structs of plain fields, held against each other field by field -/
def eqFs (E : Env) : Nat → List (Nat × Nat) → List IV → List IV → Option Bool
  | _, [], [], [] => some true
  | i, [(o, t)], [a], [b] => match Nat.beq o i && Nat.beq (E.td t).size 1 with
    | true => eqCell (E.td t).k a b
    | false => none
  | i, (o, t) :: r, a :: s, b :: u => match Nat.beq o i && Nat.beq (E.td t).size 1, eqCell (E.td t).k a b, eqFs E (i + 1) r s u with
    | true, some x, some y => some (x && y)
    | _, _, _ => none
  | _, _, _, _ => none

def has : List Nat → Nat → Bool
  | [], _ => false
  | a :: t, x => match Nat.beq a x with | true => true | false => has t x

def isNilEq (op : BinOp) (r : Bool) (K : AV → Prop) : Prop :=
  match op with
  | .eql => K (.i (.bool r))
  | .neq => K (.i (.bool (!r)))
  | _ => False

def aBin (E : Env) (op : BinOp) (t : Nat) (x y : AV) (K : AV → Prop) : Prop :=
  match x, y with
  | .one (.imm (.int k a)), .one (.imm (.int k' b)) => match isShift op || kindEq k k' with | true => binInt op k a b K | false => False
  | .one (.imm (.str a)), .one (.imm (.str b)) => binStr op a b K
  | .one (.imm (.bool a)), .one (.imm (.bool b)) => match (E.td t).k with | .bool => isNilEq op (a == b) K | _ => False
  | .one (.imm .nilp), .one (.imm .nilp) => match (E.td t).k with | .ptr _ => isNilEq op true K | _ => False
  | .one (.imm (.ptr _)), .one (.imm .nilp) => match (E.td t).k with | .ptr _ => isNilEq op false K | _ => False
  | .one (.ref _ _), .one (.imm .nilp) => match (E.td t).k with | .ptr _ => isNilEq op false K | _ => False
  | .one .nils, .one .nils => match (E.td t).k with | .slice _ => isNilEq op true K | _ => False
  | .one (.sl _ _ _), .one .nils => match (E.td t).k with | .slice _ => isNilEq op false K | _ => False
  | .one (.imm (.lst (_ :: _))), .one .nils => match (E.td t).k with | .slice _ => isNilEq op false K | _ => False
  | .agg a, .agg b => match imms a, imms b with
    | some a, some b => match (E.td t).k with
      | .struct fs => match has E.eqs t, eqFs E 0 fs a b with
        | true, some r => isNilEq op r K
        | _, _ => False
      | _ => False
    | _, _ => False
  | _, _ => False

def aUn (op : UnOp) (x : AV) (K : AV → Prop) : Prop :=
  match op, x with
  | .neg, .one (.imm (.int k n)) => K (.i (.int k (k.wrap (0 - n))))
  | .xor, .one (.imm (.int k n)) => K (.i (.int k (ibits .xor k (if k.signed then -1 else k.max) n)))
  | .not, .one (.imm (.bool b)) => K (.i (.bool !b))
  | _, _ => False

/-- cells of one value out of a list of cells -/
def ldCells (td : TD) (cs : List A1) (K : AV → Prop) : Prop :=
  match td.agg with
  | true => match Nat.ble td.size cs.length with | true => K (.agg (cs.take td.size)) | false => False
  | false => match Nat.beq td.size 1, cs with | true, c :: _ => K (.one c) | _, _ => False

def aLoad (E : Env) (t : Nat) (x : AV) (heap : List Blk) (K : AV → Prop) : Prop :=
  match x with
  | .one (.imm (.ptr cells)) => ldCells (E.td t) (cells.map .imm) K
  | .one (.ref id off) => match heap.getD id .dead with
    | .cells l _ => ldCells (E.td t) (l.drop off) K
    | .vec sz elems false _ => match (E.td t).k, off with
      | .array n e, 0 => match Nat.beq sz (E.td e).size && Nat.beq (E.td t).size (n * sz) && Nat.blt 0 (E.td t).size with
        | true => elems.length = n ∧ K (.iagg elems.flatten)
        | false => False
      | _, _ => False
    | _ => False
  | .one (.el id idx sub) => match heap.getD id .dead with
    | .vec _ elems _ _ => ∃ cells, elems[idx]? = some cells ∧ ldCells (E.td t) ((cells.drop sub).map .imm) K
    | _ => False
  | _ => False

def splice {α : Type} (l : List α) (off : Nat) (v : List α) : List α := l.take off ++ (v ++ l.drop (off + v.length))

def immsV : AV → Option (List IV)
  | .iagg l => some l
  | v => imms v.cells

def chunk {α : Type} : Nat → Nat → List α → List (List α)
  | 0, _, _ => []
  | n + 1, sz, l => l.take sz :: chunk n sz (l.drop sz)

def aStore (E : Env) (t : Nat) (x v : AV) (heap : List Blk) (K : List Blk → Prop) : Prop :=
  match x with
  | .one (.ref id off) => match heap.getD id .dead with
    | .cells l ty => match Nat.beq v.cells.length (E.td t).size, Nat.ble (off + v.cells.length) l.length, Nat.blt 0 (E.td t).size with
      | true, true, true => K (heap.set id (.cells (splice l off v.cells) ty))
      | _, _, _ => False
    | .vec sz elems false _ => match immsV v with
      | some vs => match Nat.beq off 0 with
        | true => vs.length = (E.td t).size ∧ 0 < vs.length ∧ vs.length = elems.length * sz ∧ K (heap.set id (.vec sz (chunk elems.length sz vs) false))
        | _ => False
      | none => False
    | _ => False
  | .one (.el id idx sub) => match heap.getD id .dead with
    | .vec sz elems false _ => match imms v.cells with
      | some vs => match Nat.beq vs.length (E.td t).size with
        | true => 0 < vs.length ∧ ∃ cells, elems[idx]? = some cells ∧ sub + vs.length ≤ cells.length ∧ K (heap.set id (.vec sz (elems.set idx (splice cells sub vs)) false))
        | false => False
      | none => False
    | _ => False
  | _ => False

def mkBlk (E : Env) (keep : Bool) (t : Nat) (cs : List A1) : Blk :=
  match (E.td t).k with
  | .array n e => match imms cs, Nat.beq ((E.td e).size * n) (E.td t).size with
    | some vs, true => .vec (E.td e).size (chunk n (E.td e).size vs) false
    | _, _ => .cells cs none
  | _ => .cells cs (match keep with | true => some t | false => none)

def aField (E : Env) (s f : Nat) (K : Nat → TD → Prop) : Prop :=
  match (E.td s).k with
  | .struct fs => match fs[f]? with
    | some (o, t) => K o (E.td t)
    | none => False
  | _ => False

def aIndexAddr (E : Env) (t : Nat) (x i : AV) (heap : List Blk) (K : AV → Prop) : Prop :=
  match (E.td t).k, i with
  | .slice e, .one (.imm (.int _ i)) => match Nat.blt 0 (E.td e).size with
    | true => match x with
      | .one (.imm (.lst elems)) => ∃ cells, 0 ≤ i ∧ elems[i.toNat]? = some cells ∧ cells.length = (E.td e).size ∧ K (.i (.ptr cells))
      | .one (.sl id off len) => match heap.getD id .dead with
        | .vec sz _ _ _ => match Nat.beq sz (E.td e).size with
          | true => 0 ≤ i ∧ i < (len : Int) ∧ K (.one (.el id (off + i.toNat) 0))
          | false => False
        | _ => False
      | _ => False
    | false => False
  | .array n e, .one (.imm (.int _ i)) => match Nat.blt 0 (E.td e).size with
    | true => match x with
      | .one (.ref id 0) => match heap.getD id .dead with
        | .vec sz elems false _ => match Nat.beq sz (E.td e).size with
          | true => 0 ≤ i ∧ i < (n : Int) ∧ i.toNat < elems.length ∧ K (.one (.el id i.toNat 0))
          | false => False
        | _ => False
      | .one (.imm (.ptr cells)) => ∃ cs, 0 ≤ i ∧ i < (n : Int) ∧ (cells.drop (i.toNat * (E.td e).size)).take (E.td e).size = cs ∧ cs.length = (E.td e).size ∧ K (.i (.ptr cs))
      | _ => False
    | false => False
  | _, _ => False

def aIndex (E : Env) (t : Nat) (x i : AV) (K : AV → Prop) : Prop :=
  match (E.td t).k, i with
  | .str, .one (.imm (.int _ i)) => match x with
    | .one (.imm (.str s)) => 0 ≤ i ∧ i < (s.size : Int) ∧ K (.i (.int .u8 (sb s i.toNat)))
    | _ => False
  | .array n e, .one (.imm (.int _ i)) => match Nat.blt 0 (E.td e).size with
    | true => match x with
      | .iagg l => ∃ cs, 0 ≤ i ∧ i < (n : Int) ∧ (l.drop (i.toNat * (E.td e).size)).take (E.td e).size = cs ∧ ldCells (E.td e) (cs.map .imm) K
      | .agg l => ∃ cs, 0 ≤ i ∧ i < (n : Int) ∧ (l.drop (i.toNat * (E.td e).size)).take (E.td e).size = cs ∧ ldCells (E.td e) cs K
      | _ => False
    | false => False
  | _, _ => False

def boundOf (o : Option AV) (d : Int) (K : Int → Prop) : Prop :=
  match o with
  | none => K d
  | some (.one (.imm (.int _ i))) => K i
  | _ => False

def aSlice (E : Env) (t : Nat) (x : AV) (lo hi mx : Option AV) (heap : List Blk) (K : AV → Prop) : Prop :=
  match mx with
  | some m => match x, (E.td t).k with
    | .one (.imm (.lst _)), .slice e => match Nat.blt 0 (E.td e).size with
      | true => boundOf lo 0 fun l => boundOf hi 1 fun h => boundOf (some m) 1 fun m => l = 0 ∧ h = 0 ∧ m = 0 ∧ K (.one .emp)
      | false => False
    | _, _ => False
  | none => match x with
    | .one (.imm (.str s)) => match (E.td t).k with
      | .str => boundOf lo 0 fun l => boundOf hi s.size fun h => 0 ≤ l ∧ l ≤ h ∧ h ≤ (s.size : Int) ∧ K (.i (.str (s.extract l.toNat h.toNat)))
      | _ => False
    | .one (.imm (.lst elems)) => match (E.td t).k with
      | .slice e => match Nat.blt 0 (E.td e).size with
        | true => (∀ c ∈ elems, c.length = (E.td e).size) ∧ boundOf lo 0 fun l => boundOf hi elems.length fun h => 0 ≤ l ∧ l ≤ h ∧ h ≤ (elems.length : Int) ∧ K (.i (.lst ((elems.take h.toNat).drop l.toNat)))
        | false => False
      | _ => False
    | .one (.sl id off len) => match (E.td t).k, heap.getD id .dead with
      | .slice e, .vec sz _ _ _ => match Nat.beq sz (E.td e).size && Nat.blt 0 (E.td e).size with
        | true => boundOf lo 0 fun l => boundOf hi len fun h => 0 ≤ l ∧ l ≤ h ∧ h ≤ (len : Int) ∧ K (.one (.sl id (off + l.toNat) (h.toNat - l.toNat)))
        | false => False
      | _, _ => False
    | _ => False

def elemsOf (n : Nat) (heap : List Blk) (x : AV) (K : List (List IV) → Prop) : Prop :=
  match x with
  | .one .nils => K []
  | .one .emp => K []
  | .one (.imm (.lst l)) => (∀ e ∈ l, e.length = n) ∧ K l
  | .one (.imm (.str s)) => match Nat.beq n 1 with
    | true => K (bytesIV s)
    | false => False
  | .one (.sl id off len) => match heap.getD id .dead with
    | .vec sz elems _ _ => match Nat.beq sz n with
      | true => K ((elems.drop off).take len)
      | false => False
    | _ => False
  | _ => False

def isU8 (E : Env) (t : Nat) : Bool := match (E.td t).k with | .int .u8 => true | _ => false

def bytesStr (x : AV) (heap : List Blk) (K : AV → Prop) : Prop :=
  match x with
  | .one (.imm (.str _)) => False
  | x => elemsOf 1 heap x fun l => ∃ s : ByteArray, l = bytesIV s ∧ K (.i (.str s))

def aConvert (E : Env) (src dst : Nat) (x : AV) (heap : List Blk) (K : AV → List Blk → Prop) : Prop :=
  match (E.td src).k, (E.td dst).k, x with
  | .int _, .int k, .one (.imm (.int _ n)) => K (.i (.int k (k.wrap n))) heap
  | .str, .str, .one (.imm (.str s)) => K x heap
  | .str, .slice e, .one (.imm (.str s)) => match isU8 E e with
    | true => K (.one (.sl heap.length 0 s.size)) (heap ++ [.vec 1 (bytesIV s) false])
    | false => False
  | .slice e, .str, x => match isU8 E e with
    | true => bytesStr x heap fun v => K v heap
    | false => False
  | _, _, _ => False


def frzL (f : List Blk → A1 → Option (IV × List Blk)) : List A1 → List Blk → Option (List IV × List Blk)
  | [], h => some ([], h)
  | a :: t, h => match f h a with
    | some (v, h') => match frzL f t h' with
      | some (vs, h'') => some (v :: vs, h'')
      | none => none
    | none => none

/-- a value made immutable: its blocks are the frame's no more -/
def frz : Nat → List Blk → A1 → Option (IV × List Blk)
  | 0, _, _ => none
  | n + 1, h, a => match a with
    | .imm v => some (v, h)
    | .nils => some (.lst [], h)
    | .emp => some (.lst [], h)
    | .ref id 0 => match h.getD id .dead with
      | .cells l _ => match frzL (frz n) l (h.set id .dead) with
        | some (vs, h') => some (.ptr vs, h')
        | none => none
      | _ => none
    | .sl id off len => match h.getD id .dead with
      | .vec _ elems _ _ => some (.lst ((elems.drop off).take len), h.set id .dead)
      | _ => none
    | _ => none

def frzDepth : Nat := 8

def frzV (heap : List Blk) (x : AV) : Option (AV × List Blk) :=
  match x with
  | .one a => match frz frzDepth heap a with
    | some (v, h) => some (.i v, h)
    | none => none
  | .agg l => match frzL (frz frzDepth) l heap with
    | some (vs, h) => some (.agg (vs.map .imm), h)
    | none => none
  | .iagg l => some (.iagg l, heap)
  | _ => none

def frzVs : List AV → List Blk → Option (List AV × List Blk)
  | [], h => some ([], h)
  | a :: t, h => match frzV h a with
    | some (v, h') => match frzVs t h' with
      | some (vs, h'') => some (v :: vs, h'')
      | none => none
    | none => none

def frzR (heap : List Blk) (x : AV) : Option (AV × List Blk) :=
  match x with
  | .tup l => match frzVs l heap with
    | some (vs, h) => some (.tup vs, h)
    | none => none
  | x => frzV heap x

def A1.ids : A1 → List Nat
  | .ref id _ => [id]
  | .el id _ _ => [id]
  | .sl id _ _ => [id]
  | _ => []

def AV.ids0 : AV → List Nat
  | .one a => a.ids
  | .agg l => l.flatMap A1.ids
  | _ => []

def AV.ids : AV → List Nat
  | .tup l => l.flatMap AV.ids0
  | x => x.ids0

def A1.ren (f : Nat → Nat) : A1 → A1
  | .ref id o => .ref (f id) o
  | .el id i s => .el (f id) i s
  | .sl id o l => .sl (f id) o l
  | a => a

def AV.ren0 (f : Nat → Nat) : AV → AV
  | .one a => .one (a.ren f)
  | .agg l => .agg (l.map (A1.ren f))
  | x => x

def AV.ren (f : Nat → Nat) : AV → AV
  | .tup l => .tup (l.map (AV.ren0 f))
  | x => x.ren0 f

def Blk.ren (f : Nat → Nat) : Blk → Blk
  | .cells l ty => .cells (l.map (A1.ren f)) ty
  | b => b

def reach : Nat → List Blk → List Nat → List Nat → List Nat
  | 0, _, _, acc => acc
  | _ + 1, _, [], acc => acc
  | n + 1, heap, id :: t, acc => match has acc id with
    | true => reach n heap t acc
    | false => match heap.getD id .dead with
      | .cells l _ => reach n heap (l.flatMap A1.ids ++ t) (acc ++ [id])
      | _ => reach n heap t (acc ++ [id])

def idx : List Nat → Nat → Nat
  | [], _ => 0
  | a :: t, x => match Nat.beq a x with | true => 0 | false => idx t x + 1

def writeBack : List Nat → List Blk → List Blk → List Blk
  | [], _, heap => heap
  | _, [], heap => heap
  | i :: is, b :: bs, heap => writeBack is bs (heap.set i b)

abbrev Spec := Nat → List AV → List Blk → (AV → List Blk → Prop) → Prop

def backNo (ids : List Nat) (n : Nat) (j : Nat) : Nat := match Nat.blt j ids.length with | true => ids.getD j 0 | false => n + (j - ids.length)

def A1.inB (ids : List Nat) (a : A1) : Bool := a.ids.all (has ids)

def Blk.inB (ids : List Nat) : Blk → Bool
  | .cells l _ => l.all (A1.inB ids)
  | _ => true

def AV.inB (ids : List Nat) (v : AV) : Bool := v.ids.all (has ids)

/-- is all that the blocks of these numbers name among these numbers? -/
def closed (ids : List Nat) (heap : List Blk) : Bool := ids.all fun i => (heap.getD i .dead).inB ids

def distinct : List Nat → Bool
  | [] => true
  | a :: t => !has t a && distinct t

def aCall (S : Spec) (f : Nat) (args : List AV) (heap : List Blk) (K : AV → List Blk → Prop) : Prop :=
  natsK (reach 200 heap (args.flatMap AV.ids) []) fun ids => match args.all (AV.inB ids) && closed ids heap && distinct ids && ids.all (Nat.blt · heap.length) with
    | true => avsK (args.map (AV.ren (idx ids))) fun args => blksK (ids.map fun i => (heap.getD i .dead).ren (idx ids)) fun H0 => S f args H0 fun r H =>
      K (r.ren (backNo ids heap.length)) (writeBack ids (H.map (Blk.ren (backNo ids heap.length))) heap ++ (H.drop ids.length).map (Blk.ren (backNo ids heap.length)))
    | false => False

/-- a call in a region that draws its order: nothing that can be written is handed on, and the result is known -/
def aCallD (S : Spec) (f : Nat) (args : List AV) (heap : List Blk) (K : AV → List Blk → Prop) : Prop :=
  match args.all (AV.inB []) with
  | true => avsK args fun args => ∃ R, S f args [] (fun r H => r = R ∧ H = []) ∧ R.inB [] = true ∧ K R heap
  | false => False

/-- blocks of these numbers are as they were -/
def keepsK : List Nat → List Blk → List Blk → Prop → Prop
  | [], _, _, p => p
  | i :: t, a, b, p => a.getD i .dead = b.getD i .dead ∧ keepsK t a b p

/-- a call in a region that draws its order, handed what can be written: what comes of it is fixed -/
def aCallH (S : Spec) (f : Nat) (args : List AV) (heap : List Blk) (K : AV → List Blk → Prop) : Prop :=
  ∃ R Hr, aCall S f args heap (fun r H => r = R ∧ H = Hr) ∧ K R Hr

/-- a load of a block that no call of the region writes -/
def aLoadK (kept : List Nat) (E : Env) (t : Nat) (x : AV) (heap : List Blk) (K : AV → Prop) : Prop :=
  match x with
  | .one (.ref id off) => match has kept id with | true => aLoad E t (.one (.ref id off)) heap K | false => False
  | _ => False

/-- a call of a function value -/
def aCallV (S : Spec) (x : AV) (args : List AV) (heap : List Blk) (K : AV → List Blk → Prop) : Prop :=
  match x with
  | .one (.imm (.fn f as bs)) => aCall S f (as.map AV.i ++ args ++ bs.map AV.i) heap K
  | _ => False

def immsA : List AV → Option (List IV)
  | [] => some []
  | .one (.imm v) :: t => (immsA t).map (v :: ·)
  | _ => none

def aMakeFunc (fn : Fn) (first cap : List AV) (K : AV → Prop) : Prop :=
  match fn, immsA first, immsA cap with
  | .func f, some a, some b => K (.i (.fn f a b))
  | _, _, _ => False

/-- a row that append lays remembers its type where the environment says so -/
def tyOf (E : Env) (e : Nat) : Option Nat := match has E.tyd e with | true => some e | false => none
def keepTy (ty : Option Nat) (e : Nat) : Option Nat :=
  match ty with
  | some t => match Nat.beq t e with | true => some t | false => none
  | none => none

def appTo (E : Env) (e : Nat) (s : AV) (heap : List Blk) (xs : List (List IV)) (K : AV → List Blk → Prop) : Prop :=
  match s with
  | .one .emp => match xs with
    | [] => K (.one .emp) heap
    | c :: r => (r.length + 1) * (E.td e).bytes ≤ 17592186044416 ∧ K (.one (.sl heap.length 0 (r.length + 1))) (heap ++ [.vec (E.td e).size (c :: r) true (tyOf E e)])
  | .one .nils => match xs with
    | [] => K (.one .nils) heap
    | c :: r => (r.length + 1) * (E.td e).bytes ≤ 17592186044416 ∧ K (.one (.sl heap.length 0 (r.length + 1))) (heap ++ [.vec (E.td e).size (c :: r) true (tyOf E e)])
  | .one (.sl id off len) => match heap.getD id .dead with
    | .vec sz elems _ ty => match Nat.beq sz (E.td e).size with
      | true => off + len = elems.length ∧ (elems.length + xs.length) * (E.td e).bytes ≤ 17592186044416 ∧
          K (.one (.sl id off (len + xs.length))) (heap.set id (.vec sz (elems ++ xs) true (keepTy ty e)))
      | false => False
    | _ => False
  | _ => False

def aAppend (E : Env) (t u : Nat) (s x : AV) (heap : List Blk) (K : AV → List Blk → Prop) : Prop :=
  match (E.td t).k, (match (E.td u).k with | .slice _ => true | .str => true | _ => false) with
  | .slice e, true => match Nat.blt 0 (E.td e).size && Nat.beq (E.td e).zero.length (E.td e).size && Nat.blt 0 (E.td e).bytes && Nat.ble (E.td e).bytes 1048576 with
    | true => elemsOf (E.td e).size heap x fun xs => appTo E e s heap xs K
    | false => False
  | _, _ => False

def copyTo (E : Env) (e : Nat) (d : AV) (heap : List Blk) (xs : List (List IV)) (K : AV → List Blk → Prop) : Prop :=
  match d with
  | .one (.sl id off len) => match heap.getD id .dead with
    | .vec sz elems false _ => match Nat.beq sz (E.td e).size && Nat.blt 0 (E.td e).size with
      | true => K (.i (.int .i64 (Nat.min xs.length len : Nat))) (heap.set id (.vec sz (splice elems off (xs.take len)) false))
      | false => False
    | _ => False
  | _ => False

def aCopy (E : Env) (t : Nat) (d x : AV) (heap : List Blk) (K : AV → List Blk → Prop) : Prop :=
  match (E.td t).k with
  | .slice e => elemsOf (E.td e).size heap x fun xs => copyTo E e d heap xs K
  | _ => False

def aLen (E : Env) (t : Nat) (x : AV) (K : AV → Prop) : Prop :=
  match (E.td t).k, x with
  | .str, .one (.imm (.str s)) => K (.i (.int .i64 s.size))
  | .array n _, _ => K (.i (.int .i64 n))
  | .slice _, .one .nils => K (.i (.int .i64 0))
  | .slice _, .one .emp => K (.i (.int .i64 0))
  | .slice _, .one (.imm (.lst l)) => K (.i (.int .i64 l.length))
  | .slice _, .one (.sl _ _ n) => K (.i (.int .i64 n))
  | _, _ => False

def aBuiltin (E : Env) (b : Builtin) (ts : List Nat) (args : List AV) (heap : List Blk) (K : AV → List Blk → Prop) : Prop :=
  match b, args, ts with
  | .len, [x], t :: _ => aLen E t x fun v => K v heap
  | .append, [s, x], t :: u :: _ => aAppend E t u s x heap K
  | .copy, [d, x], t :: _ => aCopy E t d x heap K
  | .min, [.one (.imm (.int k x)), .one (.imm (.int _ y))], _ => K (.i (.int k (if y < x then y else x))) heap
  | .max, [.one (.imm (.int k x)), .one (.imm (.int _ y))], _ => K (.i (.int k (if y > x then y else x))) heap
  | _, _, _ => False

def buildCells : List (Nat × AV) → List (Nat × Nat) → List A1 → Option (List A1)
  | [], _, acc => some acc
  | (i, v) :: t, places, acc => match places[i]? with
    | some (o, sz) => match Nat.beq v.cells.length sz, Nat.ble (o + sz) acc.length with
      | true, true => buildCells t places (splice acc o v.cells)
      | _, _ => none
    | none => none

def aBuild (E : Env) (t : Nat) (parts : List (Nat × AV)) (K : AV → Prop) : Prop :=
  match (E.td t).k with
  | .struct fs => match fs.all (fun p => Nat.blt 0 (E.td p.2).size) && Nat.blt 0 (E.td t).zero.length with
    | true => match buildCells parts (fs.map fun p => (p.1, (E.td p.2).size)) (E.td t).zero with
      | some cs => K (.agg cs)
      | none => False
    | false => False
  | .array n e => match Nat.blt 0 (E.td e).size && Nat.blt 0 (E.td t).zero.length with
    | true => match buildCells parts ((List.range n).map fun i => (i * (E.td e).size, (E.td e).size)) (E.td t).zero with
      | some cs => K (.agg cs)
      | none => False
    | false => False
  | _ => False

def aBuildSlice (E : Env) (frozen : Bool) (t n : Nat) (parts : List (Nat × AV)) (heap : List Blk) (K : AV → List Blk → Prop) : Prop :=
  match (E.td t).k with
  | .slice e => match Nat.blt 0 (E.td e).size && Nat.beq (E.td e).zero.length (E.td e).size && Nat.ble (n * (E.td e).size) 16777216, buildCells parts ((List.range n).map fun i => (i * (E.td e).size, (E.td e).size)) (((List.range n).map fun _ => (E.td e).zero).flatten) with
    | true, some cs => match frzL (frz frzDepth) cs heap with
      | some (vs, h) => match frozen with
        | true => K (.i (.lst (chunk n (E.td e).size vs))) h
        | false => K (.one (.sl h.length 0 n)) (h ++ [.vec (E.td e).size (chunk n (E.td e).size vs) false])
      | none => False
    | _, _ => False
  | _ => False

/-- in a region that draws its order: of plain values, and immutable at once -/
def aBuildSliceD (E : Env) (t n : Nat) (parts : List (Nat × AV)) (K : AV → Prop) : Prop :=
  match (E.td t).k with
  | .slice e => match Nat.blt 0 (E.td e).size && Nat.beq (E.td e).zero.length (E.td e).size && Nat.ble (n * (E.td e).size) 16777216, buildCells parts ((List.range n).map fun i => (i * (E.td e).size, (E.td e).size)) (((List.range n).map fun _ => (E.td e).zero).flatten) with
    | true, some cs => match imms cs with
      | some vs => K (.i (.lst (chunk n (E.td e).size vs)))
      | none => False
    | _, _ => False
  | _ => False

def aMakeSlice (E : Env) (t : Nat) (l c : AV) (heap : List Blk) (K : AV → List Blk → Prop) : Prop :=
  match (E.td t).k, l, c with
  | .slice e, .one (.imm (.int _ l)), .one (.imm (.int _ c)) => match imms (E.td e).zero, Nat.blt 0 (E.td e).size && Nat.beq (E.td e).zero.length (E.td e).size && Nat.blt 0 (E.td e).bytes with
    | some z, true => 0 ≤ l ∧ l ≤ c ∧ ((E.td e).bytes : Int) * c ≤ 17592186044416 ∧
        K (.one (.sl heap.length 0 l.toNat)) (heap ++ [.vec (E.td e).size (List.replicate l.toNat z) false])
    | _, _ => False
  | _, _, _ => False

def aExtract (x : AV) (i : Nat) (K : AV → Prop) : Prop :=
  match x with
  | .tup l => match l[i]? with | some v => K v | none => False
  | _ => False

def oapp (f : Operand → AV) : Option Operand → Option AV | some x => some (f x) | none => none

def aAlloc (E : Env) (keep : Bool) (t : Nat) (heap : List Blk) (K : AV → List Blk → Prop) : Prop :=
  match Nat.beq (E.td t).zero.length (E.td t).size && Nat.blt 0 (E.td t).size with
  | true => K (.one (.ref heap.length 0)) (heap ++ [mkBlk E keep t (E.td t).zero])
  | false => False

def aBox (E : Env) (frozen keep : Bool) (t : Nat) (x : AV) (heap : List Blk) (K : AV → List Blk → Prop) : Prop :=
  match Nat.beq x.cells.length (E.td t).size && Nat.blt 0 (E.td t).size with
  | true => match frozen with
    | true => match frzL (frz frzDepth) x.cells heap with
      | some (vs, hp) => K (.i (.ptr vs)) hp
      | none => False
    | false => K (.one (.ref heap.length 0)) (heap ++ [mkBlk E keep t x.cells])
  | false => False

def aPick (c a b : AV) (K : AV → Prop) : Prop :=
  match c with
  | .one (.imm (.bool true)) => K a
  | .one (.imm (.bool false)) => K b
  | _ => False

def aNil (x : AV) (K : AV → Prop) : Prop :=
  match x with
  | .one (.imm (.ptr l)) => K (.i (.ptr l))
  | .one (.ref i o) => K (.one (.ref i o))
  | .one (.el i j s) => K (.one (.el i j s))
  | _ => False

def addOff (td : TD) (x : AV) (o : Nat) (K : AV → Prop) : Prop :=
  match Nat.blt 0 td.size, x with
  | true, .one (.imm (.ptr l)) => K (.i (.ptr (l.drop o)))
  | true, .one (.ref i p) => K (.one (.ref i (p + o)))
  | true, .one (.el i j p) => K (.one (.el i j (p + o)))
  | _, _ => False

def fieldOf (td : TD) (x : AV) (o : Nat) (K : AV → Prop) : Prop :=
  match Nat.blt 0 td.size, x with
  | true, .agg l => ldCells td (l.drop o) K
  | _, _ => False

/-- how an operation touches what the frame owns: 0 not at all, 1 it reads, 2 it writes, 4 it reads a block that nothing in the region writes -/
def cls0 (E : Env) (h : Hint) (dst : Option Nat) : Op → Nat
  | .move _ | .assign _ | .pick .. | .build .. | .nilCheck _ | .binOp .. | .unOp .. | .fieldAddr .. | .field .. | .index .. | .extract .. | .makeFunc .. => 0
  | .call c => match c.callee with
    | .value (.func _) => match dst.any (has h.hc) with | true => 2 | false => 0
    | .builtin .len => 0
    | .builtin .min => 0
    | .builtin .max => 0
    | _ => 2
  | .convert s d _ => match (E.td s).k, (E.td d).k with
    | .int _, .int _ => 0
    | .str, .str => 0
    | .slice _, .str => 1
    | _, _ => 2
  | .load .. => match dst.any (has h.pl) with | true => 0 | false => match dst.any (has h.kl) with | true => 4 | false => 1
  | .buildSlice .. => match dst.any (has h.hc) with | true => 2 | false => 0
  | .indexAddr .. | .slice .. => match dst.any (has h.pl) with | true => 0 | false => 1
  | _ => 2

/-- an operation that is to leave the kept blocks as they were -/
def wrapped (h : Hint) (dst : Option Nat) : Op → Bool
  | .store .. => h.hs
  | _ => dst.any (has h.hw)

/-- 3: it writes, but not the kept blocks -/
def cls (E : Env) (h : Hint) (dst : Option Nat) (op : Op) : Nat :=
  match Nat.beq (cls0 E h dst op) 2 && wrapped h dst op with
  | true => 3
  | false => cls0 E h dst op

/-- in a region that draws its order what is written leaves the kept blocks as they were -/
def wrapK (E : Env) (h : Hint) (draw : Bool) (dst : Option Nat) (op : Op) (heap : List Blk) (K : AV → List Blk → Prop) : AV → List Blk → Prop :=
  match draw && Nat.beq (cls E h dst op) 3 with
  | true => fun v hp => keepsK h.hk hp heap (K v hp)
  | false => K

def aOpR (E : Env) (h : Hint) (S : Spec) (draw : Bool) (dst : Option Nat) (op : Op) (fr : Fr) (K : AV → List Blk → Prop) : Prop :=
  match op with
  | .move x => K (E.ev fr.tmps x) fr.heap
  | .assign x => K (E.ev fr.tmps x) fr.heap
  | .pick c a b => aPick (E.ev fr.tmps c) (E.ev fr.tmps a) (E.ev fr.tmps b) fun v => K v fr.heap
  | .alloc t => aAlloc E (dst.any (has h.ht)) t fr.heap K
  | .box t x => aBox E (dst.any (has h.frz)) (dst.any (has h.ht)) t (E.ev fr.tmps x) fr.heap K
  | .build t parts => aBuild E t (parts.toList.map fun p => (p.1, E.ev fr.tmps p.2)) fun v => K v fr.heap
  | .buildSlice t n parts => match draw && !(dst.any (has h.hc)) with
    | true => aBuildSliceD E t n (parts.toList.map fun p => (p.1, E.ev fr.tmps p.2)) fun v => K v fr.heap
    | false => aBuildSlice E (dst.any (has h.frz)) t n (parts.toList.map fun p => (p.1, E.ev fr.tmps p.2)) fr.heap K
  | .load t x => match draw && dst.any (has h.pl) with
    | true => aLoad E t (E.ev fr.tmps x) [] fun v => K v fr.heap
    | false => match draw && dst.any (has h.kl) with
      | true => aLoadK h.hk E t (E.ev fr.tmps x) fr.heap fun v => K v fr.heap
      | false => aLoad E t (E.ev fr.tmps x) fr.heap fun v => K v fr.heap
  | .store t x v => aStore E t (E.ev fr.tmps x) (E.ev fr.tmps v) fr.heap fun hp => K .hole hp
  | .nilCheck x => aNil (E.ev fr.tmps x) fun v => K v fr.heap
  | .binOp op t x y _ => aBin E op t (E.ev fr.tmps x) (E.ev fr.tmps y) fun v => K v fr.heap
  | .unOp op _ x => aUn op (E.ev fr.tmps x) fun v => K v fr.heap
  | .convert s d x => aConvert E s d (E.ev fr.tmps x) fr.heap K
  | .makeSlice t l c => aMakeSlice E t (E.ev fr.tmps l) (E.ev fr.tmps c) fr.heap K
  | .slice t x lo hi mx => match draw && dst.any (has h.pl) with
    | true => aSlice E t (E.ev fr.tmps x) (oapp (E.ev fr.tmps) lo) (oapp (E.ev fr.tmps) hi) (oapp (E.ev fr.tmps) mx) [] fun v => K v fr.heap
    | false => aSlice E t (E.ev fr.tmps x) (oapp (E.ev fr.tmps) lo) (oapp (E.ev fr.tmps) hi) (oapp (E.ev fr.tmps) mx) fr.heap fun v => K v fr.heap
  | .fieldAddr s x f => aField E s f fun o td => addOff td (E.ev fr.tmps x) o fun v => K v fr.heap
  | .field s x f => aField E s f fun o td => fieldOf td (E.ev fr.tmps x) o fun v => K v fr.heap
  | .indexAddr t x i => match draw && dst.any (has h.pl) with
    | true => aIndexAddr E t (E.ev fr.tmps x) (E.ev fr.tmps i) [] fun v => K v fr.heap
    | false => aIndexAddr E t (E.ev fr.tmps x) (E.ev fr.tmps i) fr.heap fun v => K v fr.heap
  | .index t x i => aIndex E t (E.ev fr.tmps x) (E.ev fr.tmps i) fun v => K v fr.heap
  | .extract x i => aExtract (E.ev fr.tmps x) i fun v => K v fr.heap
  | .makeFunc fn first cap => aMakeFunc fn (first.toList.map (E.ev fr.tmps)) (cap.toList.map (E.ev fr.tmps)) fun v => K v fr.heap
  | .call c => match c.callee with
    | .value (.func f) => match draw with
      | true => match dst.any (has h.hc) with
        | true => aCallH S f (c.args.toList.map (E.ev fr.tmps)) fr.heap K
        | false => aCallD S f (c.args.toList.map (E.ev fr.tmps)) fr.heap K
      | false => aCall S f (c.args.toList.map (E.ev fr.tmps)) fr.heap K
    | .builtin b => aBuiltin E b c.argTypes.toList (c.args.toList.map (E.ev fr.tmps)) fr.heap K
    | .value x => match draw with
      | true => False
      | false => aCallV S (E.ev fr.tmps x) (c.args.toList.map (E.ev fr.tmps)) fr.heap K
    | _ => False
  | _ => False

def aOp (E : Env) (h : Hint) (S : Spec) (draw : Bool) (dst : Option Nat) (op : Op) (fr : Fr) (K : AV → List Blk → Prop) : Prop :=
  aOpR E h S draw dst op fr (wrapK E h draw dst op fr.heap K)

def guardAv (ops : List Oper) (tmps : List AV) (j : Nat) : AV :=
  match ops[j]? with
  | some o => match o.dst with | some d => tmps.getD d .undef | none => .undef
  | none => .undef

def beqB : Bool → Bool → Bool | true, b => b | false, b => !b

def aNext (dst : Option Nat) (fr : Fr) (K : Fr → Prop) (v : AV) (hp : List Blk) : Prop :=
  avK v fun v => putK fr.tmps dst v fun tmps => blksK hp fun hp => K ⟨tmps, hp⟩

/-- one operation of a region; `rest`: what follows -/
def aStep (E : Env) (h : Hint) (S : Spec) (draw : Bool) (ops : List Oper) (o : Oper) (rest : Fr → (Fr → Prop) → Prop) (fr : Fr) (K : Fr → Prop) : Prop :=
  match o.guard with
    | none => aOp E h S draw o.dst o.op fr (aNext o.dst fr fun fr => rest fr K)
    | some (j, want) => match guardAv ops fr.tmps j with
      | .one (.imm (.bool b)) => match beqB b want with
        | true => aOp E h S draw o.dst o.op fr (aNext o.dst fr fun fr => rest fr K)
        | false => aNext o.dst fr (fun fr => rest fr K) .hole fr.heap
      | .hole => aNext o.dst fr (fun fr => rest fr K) .hole fr.heap
      | _ => False

/-- by the recursor itself: so that the kernel and `whnf` write what is left the same way -/
noncomputable def aOps (E : Env) (h : Hint) (S : Spec) (draw : Bool) (ops : List Oper) (l : List Oper) : Fr → (Fr → Prop) → Prop :=
  List.rec (motive := fun _ => Fr → (Fr → Prop) → Prop) (fun fr K => K fr) (fun o _ ih fr K => aStep E h S draw ops o ih fr K) l

theorem aOps_cons {E : Env} {h : Hint} {S : Spec} {draw : Bool} {ops : List Oper} {o : Oper} {l : List Oper} {fr : Fr} {K : Fr → Prop} : aOps E h S draw ops (o :: l) fr K =
  (match o.guard with
    | none => aOp E h S draw o.dst o.op fr (aNext o.dst fr fun fr => aOps E h S draw ops l fr K)
    | some (j, want) => match guardAv ops fr.tmps j with
      | .one (.imm (.bool b)) => match beqB b want with
        | true => aOp E h S draw o.dst o.op fr (aNext o.dst fr fun fr => aOps E h S draw ops l fr K)
        | false => aNext o.dst fr (fun fr => aOps E h S draw ops l fr K) .hole fr.heap
      | .hole => aNext o.dst fr (fun fr => aOps E h S draw ops l fr K) .hole fr.heap
      | _ => False) := rfl

def lid : Code → Nat
  | .region id _ _ => id
  | .seq a _ => lid a
  | .block _ b => lid b
  | .scope b => lid b
  | .loop b => lid b
  | _ => 0

def keepOf : List (Nat × List Nat) → Nat → Option (List Nat)
  | [], _ => none
  | (i, l) :: t, x => match Nat.beq i x with | true => some l | false => keepOf t x

def keepT (ks : List Nat) : Nat → List AV → List AV
  | _, [] => []
  | i, v :: t => (match has ks i with | true => v | false => .undef) :: keepT ks (i + 1) t

def killDead (live : List Nat) : Nat → List Blk → List Blk
  | _, [] => []
  | i, b :: t => (match has live i with | true => b | false => .dead) :: killDead live (i + 1) t

def bound : List Nat → Nat
  | [] => 0
  | a :: t => match Nat.ble (bound t) (a + 1) with | true => a + 1 | false => bound t

/-- only what can be reached stays; nothing, if that can't be seen -/
def gc (ids : List Nat) (heap : List Blk) : Option (List Blk) :=
  match closed ids heap with
  | true => some ((killDead ids 0 heap).take (bound ids))
  | false => none

/-- what can be reached, numbered anew; the blocks handed in keep their numbers -/
def cmpId (n : Nat) (ids : List Nat) : List Nat := List.range n ++ ids.filter fun i => !Nat.blt i n
def cmpFr (n : Nat) (ids : List Nat) (t : List AV) (heap : List Blk) : Fr :=
  match t.all (AV.inB ids) && closed ids heap && distinct ids && ids.all (Nat.blt · heap.length) with
  | true => ⟨t.map (AV.ren (idx ids)), ids.map fun i => (heap.getD i .dead).ren (idx ids)⟩
  | false => ⟨t, heap⟩
def nrm (h : Hint) (l : Nat) (fr : Fr) : Fr :=
  match keepOf h.keep l with
  | none => fr
  | some ks =>
    let t := keepT ks 0 fr.tmps
    let ids := reach 200 fr.heap (List.range h.inc ++ t.flatMap AV.ids) []
    match h.cmp with
    | true => cmpFr h.inc (cmpId h.inc ids) t fr.heap
    | false => match t.all (AV.inB ids) && (List.range h.inc).all (has ids), gc ids fr.heap with
      | true, some hp => ⟨t, hp⟩
      | _, _ => ⟨t, fr.heap⟩

def frK (fr : Fr) (k : Fr → Prop) : Prop := avsK fr.tmps fun t => blksK fr.heap fun hp => k ⟨t, hp⟩

/-- the least predicate that holds where a round's end holds -/
def ALoop (step : Fr → (Exit → Fr → Prop) → Prop) (n : Fr → Fr) (K : Exit → Fr → Prop) (fr : Fr) : Prop :=
  ∀ X : Fr → Prop, (∀ f, step f (fun e f' => match e with | .normal => frK (n f') X | e => K e f') → X f) → X fr

def aSeq (a b : Fr → (Exit → Fr → Prop) → Prop) (fr : Fr) (K : Exit → Fr → Prop) : Prop :=
  a fr fun e fr' => match e with
    | .normal => b fr' K
    | e => K e fr'
def aCond (v : AV) (a b : Fr → (Exit → Fr → Prop) → Prop) (fr : Fr) (K : Exit → Fr → Prop) : Prop :=
  match v with
    | .one (.imm (.bool true)) => a fr K
    | .one (.imm (.bool false)) => b fr K
    | _ => False
def aBlock (id : Nat) (b : Fr → (Exit → Fr → Prop) → Prop) (fr : Fr) (K : Exit → Fr → Prop) : Prop :=
  b fr fun e fr' => match e with
    | .exit i => match Nat.beq i id with | true => K .normal fr' | false => K (.exit i) fr'
    | e => K e fr'
def aScope (b : Fr → (Exit → Fr → Prop) → Prop) (fr : Fr) (K : Exit → Fr → Prop) : Prop :=
  b fr fun e fr' => match e with
    | .goto _ => False
    | e => K e fr'

noncomputable def aw (E : Env) (h : Hint) (S : Spec) (c : Code) : Fr → (Exit → Fr → Prop) → Prop :=
  Code.rec (motive := fun _ => Fr → (Exit → Fr → Prop) → Prop)
    (fun fr K => K .normal fr)
    (fun _ ops d fr K => aOps E h S d ops.toList ops.toList fr fun fr' => K .normal fr')
    (fun _ _ a b => aSeq a b)
    (fun c _ _ a b fr K => aCond (E.ev fr.tmps c) a b fr K)
    (fun id _ b => aBlock id b)
    (fun b ib fr K => frK (nrm h (lid b) fr) (ALoop ib (nrm h (lid b)) K))
    (fun _ _ _ _ _ _ _ _ => False)
    (fun i fr K => K (.exit i) fr)
    (fun _ b => aScope b)
    (fun _ fr K => K .normal fr)
    (fun _ _ _ => False)
    (fun fr K => K .ret fr)
    (fun _ _ _ => False) c

def resOf (E : Env) (tmps : List AV) (heap : List Blk) : List ResultVar → (List AV → Prop) → Prop
  | [], K => K []
  | .tmp t :: r, K => resOf E tmps heap r fun vs => K (tmps.getD t .undef :: vs)
  | .cell a t :: r, K => aLoad E t (tmps.getD a .undef) heap fun v => resOf E tmps heap r fun vs => K (v :: vs)

def tupOf : List AV → AV
  | [v] => v
  | l => .tup l

/-- behind a call: what it was handed, and what its result names -/
def retHeap (m : Nat) (r : AV) (heap : List Blk) : Option (List Blk) :=
  let ids := reach 200 heap (List.range m ++ r.ids) []
  match r.inB ids && (List.range m).all (has ids) && Nat.ble m heap.length with
  | true => gc ids heap
  | false => none

def retK (m : Nat) (r : AV) (heap : List Blk) (Q : AV → List Blk → Prop) : Prop :=
  match retHeap m r heap with
  | some hp => avK r fun r => blksK hp fun hp => Q r hp
  | none => False

/-- the same, numbered anew -/
def retC (m : Nat) (r : AV) (heap : List Blk) (Q : AV → List Blk → Prop) : Prop :=
  natsK (cmpId m (reach 200 heap (List.range m ++ r.ids) [])) fun ids =>
    match r.inB ids && closed ids heap && distinct ids && ids.all (Nat.blt · heap.length) with
    | true => avK (r.ren (idx ids)) fun r => blksK (ids.map fun i => (heap.getD i .dead).ren (idx ids)) fun hp => Q r hp
    | false => False

def retQ (c : Bool) (m : Nat) (r : AV) (heap : List Blk) (Q : AV → List Blk → Prop) : Prop :=
  match c with
  | true => retC m r heap Q
  | false => retK m r heap Q

def AV.flat : AV → Bool
  | .tup _ => false
  | _ => true

def aRet (E : Env) (h : Hint) (fn : Func) (m : Nat) (fr : Fr) (Q : AV → List Blk → Prop) : Prop :=
  resOf E fr.tmps fr.heap fn.results.toList fun vs => match vs.all AV.flat with
    | true => match h.res with
      | true => match frzR fr.heap (tupOf vs) with
        | some (v, hp) => retQ h.rc m v hp Q
        | none => False
      | false => retQ h.rc m (tupOf vs) fr.heap Q
    | false => False

noncomputable def aBody (E : Env) (h : Hint) (S : Spec) (fn : Func) (args : List AV) (heap : List Blk) (Q : AV → List Blk → Prop) : Prop :=
  match fn.body with
  | none => False
  | some c => frK ⟨args ++ List.replicate (fn.ntmps - args.length) .hole, heap⟩ fun fr => aw E h S c fr fun e fr => match e with
    | .normal => aRet E h fn heap.length fr Q
    | .ret => aRet E h fn heap.length fr Q
    | _ => False

def a1Of : Value → A1
  | .bool b => .imm (.bool b)
  | .int k n => .imm (.int k n)
  | .string s => .imm (.str s)
  | .pointer none => .imm .nilp
  | .slice none 0 0 => .nils
  | _ => .junk

def tdIn (i : TypeInfo) (d : TypeDesc) : TD :=
  let z := match i.zero with | some v => if v.cells.toList.all Value.oneCell' then v.cells.toList.map a1Of else [] | none => []
  match d with
  | .int k => ⟨false, i.size, i.bytes, z, .int k⟩
  | .string => ⟨false, i.size, i.bytes, z, .str⟩
  | .bool => ⟨false, i.size, i.bytes, z, .bool⟩
  | .pointer e => ⟨false, i.size, i.bytes, z, .ptr e⟩
  | .slice e => ⟨false, i.size, i.bytes, z, .slice e⟩
  | .array n e => ⟨true, i.size, i.bytes, z, .array n e⟩
  | .struct fs => ⟨true, i.size, i.bytes, z, .struct (fs.toList.map fun f => (f.offset, f.type))⟩
  | _ => ⟨false, i.size, i.bytes, z, .other⟩

def tdOf (p : Program) (t : Nat) : TD :=
  match p.info? t, p.underlying t with
  | some i, some d => tdIn i d
  | _, _ => ⟨false, 0, 0, [], .other⟩

end Go.Abs

namespace Go.Abs
open Go

/-- related place by place -/
def L2 {α β : Type} (R : α → β → Prop) (l : List α) (m : List β) : Prop :=
  l.length = m.length ∧ ∀ (i : Nat) a, l[i]? = some a → ∃ b, m[i]? = some b ∧ R a b

theorem L2.nil {α β : Type} {R : α → β → Prop} : L2 R [] [] := ⟨rfl, fun i a h => by simp at h⟩
theorem L2.cons {α β : Type} {R : α → β → Prop} {a : α} {b : β} {l : List α} {m : List β} (h : R a b) (t : L2 R l m) : L2 R (a :: l) (b :: m) := by
  refine ⟨by simp [t.1], fun i x hx => ?_⟩
  cases i with
  | zero => simp at hx; subst hx; exact ⟨b, rfl, h⟩
  | succ i => simpa using t.2 i x (by simpa using hx)
theorem L2.uncons {α β : Type} {R : α → β → Prop} {a : α} {l : List α} {m : List β} (h : L2 R (a :: l) m) : ∃ b m', m = b :: m' ∧ R a b ∧ L2 R l m' := by
  obtain ⟨h1, h2⟩ := h
  cases m with
  | nil => simp at h1
  | cons b m =>
    refine ⟨b, m, rfl, ?_, by simpa using h1, fun i x hx => ?_⟩
    · obtain ⟨y, hy, hr⟩ := h2 0 a rfl; simp at hy; subst hy; exact hr
    · obtain ⟨y, hy, hr⟩ := h2 (i + 1) x (by simpa using hx); exact ⟨y, by simpa using hy, hr⟩
theorem L2.nil_inv {α β : Type} {R : α → β → Prop} {m : List β} (h : L2 R [] m) : m = [] := by
  have := h.1; simp at this; exact List.eq_nil_of_length_eq_zero this.symm
theorem L2.mono {α β : Type} {R R' : α → β → Prop} {l : List α} {m : List β} (h : L2 R l m) (hr : ∀ a b, R a b → R' a b) : L2 R' l m :=
  ⟨h.1, fun i a ha => let ⟨b, hb, r⟩ := h.2 i a ha; ⟨b, hb, hr _ _ r⟩⟩
theorem L2.mem {α β : Type} {R R' : α → β → Prop} {l : List α} {m : List β} (h : L2 R l m) (hr : ∀ a b, a ∈ l → R a b → R' a b) : L2 R' l m :=
  ⟨h.1, fun i a ha => let ⟨b, hb, r⟩ := h.2 i a ha; ⟨b, hb, hr _ _ (List.mem_of_getElem? ha) r⟩⟩
theorem L2.map {α β γ : Type} {R : α → β → Prop} {f : γ → α} {l : List γ} {m : List β} : L2 R (l.map f) m ↔ L2 (fun a b => R (f a) b) l m := by
  constructor
  · rintro ⟨h1, h2⟩; exact ⟨by simpa using h1, fun i a ha => h2 i (f a) (by simp [ha])⟩
  · rintro ⟨h1, h2⟩
    refine ⟨by simpa using h1, fun i a ha => ?_⟩
    simp at ha
    obtain ⟨x, hx, rfl⟩ := ha
    exact h2 i x hx
theorem L2.drop {α β : Type} {R : α → β → Prop} {l : List α} {m : List β} (h : L2 R l m) (n : Nat) : L2 R (l.drop n) (m.drop n) :=
  ⟨by simp [h.1], fun i a ha => by simp at ha ⊢; exact h.2 _ a ha⟩
theorem L2.take {α β : Type} {R : α → β → Prop} {l : List α} {m : List β} (h : L2 R l m) (n : Nat) : L2 R (l.take n) (m.take n) := by
  refine ⟨by simp [h.1], fun i a ha => ?_⟩
  rw [List.getElem?_take] at ha ⊢
  split at ha
  · rw [if_pos ‹_›]; exact h.2 _ a ha
  · simp at ha
theorem L2.append {α β : Type} {R : α → β → Prop} {l l' : List α} {m m' : List β} (h : L2 R l m) (h' : L2 R l' m') : L2 R (l ++ l') (m ++ m') := by
  refine ⟨by simp [h.1, h'.1], fun i a ha => ?_⟩
  rw [List.getElem?_append] at ha ⊢
  rw [← h.1]
  split at ha
  · rw [if_pos ‹_›]; exact h.2 _ a ha
  · rw [if_neg ‹_›]; exact h'.2 _ a ha
theorem L2.replicate {α β : Type} {R : α → β → Prop} {a : α} {b : β} (h : R a b) (n : Nat) : L2 R (List.replicate n a) (List.replicate n b) := by
  refine ⟨by simp, fun i x hx => ?_⟩
  simp [List.getElem?_replicate] at hx ⊢
  exact ⟨b, ⟨hx.1, rfl⟩, hx.2 ▸ h⟩
theorem L2.set {α β : Type} {R : α → β → Prop} {a : α} {b : β} {l : List α} {m : List β} (h : L2 R l m) (hr : R a b) (n : Nat) : L2 R (l.set n a) (m.set n b) := by
  refine ⟨by simp [h.1], fun i x hx => ?_⟩
  rw [List.getElem?_set] at hx ⊢
  by_cases e : n = i
  · rw [if_pos e] at hx ⊢
    rw [← h.1]
    split at hx
    · rw [if_pos ‹_›]; simp at hx; subst hx; exact ⟨b, rfl, hr⟩
    · simp at hx
  · rw [if_neg e] at hx ⊢; exact h.2 _ _ hx

inductive Rd (w : World) (I : Nat → Prop) : IV → Value → Prop
  | bool (b) : Rd w I (.bool b) (.bool b)
  | int (k n) : Rd w I (.int k n) (.int k n)
  | str (s) : Rd w I (.str s) (.string s)
  | nilp : Rd w I .nilp (.pointer none)
  | ptr (cells) (b off : Nat) (c : Nat → Value) (hI : cells ≠ [] → I b)
      (hc : ∀ i, i < cells.length → w.cell? ⟨b, off + i, none⟩ = some (c i))
      (hr : ∀ (i : Nat) x, cells[i]? = some x → Rd w I x (c i)) : Rd w I (.ptr cells) (.pointer (some ⟨b, off, none⟩))
  | lst (elems) (a : Option Addr) (n cap sz : Nat) (c : Nat → Nat → Value)
      (hn : n = elems.length) (hcap : n ≤ cap) (hsz : ∀ (i : Nat) e, elems[i]? = some e → e.length = sz)
      (ha : elems = [] ∨ ∃ b off, a = some ⟨b, off, none⟩ ∧ I b ∧ ∀ i j, i < elems.length → j < sz → w.cell? ⟨b, off + (i * sz + j), none⟩ = some (c i j))
      (hr : ∀ (i j : Nat) e x, elems[i]? = some e → e[j]? = some x → Rd w I x (c i j)) : Rd w I (.lst elems) (.slice a n cap)
  | fn (f : Nat) (as bs : List IV) (A B : Array Value) (hA : A.size = as.length) (hB : B.size = bs.length)
      (ha : ∀ (i : Nat) x, as[i]? = some x → Rd w I x (A.getD i undef)) (hb : ∀ (i : Nat) x, bs[i]? = some x → Rd w I x (B.getD i undef)) : Rd w I (.fn f as bs) (.func (.func f) A B)

structure Ver where
  blk : Nat
  start : Nat
  n : Nat
  sz : Nat
  cap : Nat

structure Gh where
  imm : Nat → Prop
  own : Nat → List Ver

def A1R (w : World) (g : Gh) : A1 → Value → Prop
  | .imm iv, v => Rd w g.imm iv v
  | .nils, v => v = .slice none 0 0
  | .ref id off, v => ∃ r ∈ g.own id, v = .pointer (some ⟨r.blk, off, none⟩)
  | .el id idx sub, v => ∃ r ∈ g.own id, r.start ≤ idx ∧ idx < r.n ∧ v = .pointer (some ⟨r.blk, (idx - r.start) * r.sz + sub, none⟩)
  | .sl id off len, v => ∃ r ∈ g.own id, ∃ a cap, v = .slice (some a) len cap ∧ r.start ≤ off ∧ off + len ≤ r.n ∧ off - r.start + cap ≤ r.cap ∧ len ≤ cap ∧ (cap = 0 ∨ a = ⟨r.blk, (off - r.start) * r.sz, none⟩)
  | .junk, v => v.oneCell' = true
  | .emp, v => ∃ a, v = .slice a 0 0

def AVR0 (w : World) (g : Gh) : AV → Value → Prop
  | .one a, v => A1R w g a v
  | .agg l, v => ∃ cs, v = .agg cs ∧ L2 (A1R w g) l cs.toList
  | .iagg l, v => ∃ cs, v = .agg cs ∧ L2 (Rd w g.imm) l cs.toList
  | .tup _, _ => False
  | .undef, _ => True
  | .hole, v => v = undef

def AVR (w : World) (g : Gh) : AV → Value → Prop
  | .tup l, v => ∃ cs, v = .tuple cs ∧ L2 (AVR0 w g) l cs.toList
  | x, v => AVR0 w g x v

def unfrozen (fz : Nat × Nat) (n : Nat) : Prop := ∀ i, i < n → (fz.1 ≤ i && i < fz.2) = false

structure VerR (w : World) (I : Nat → Prop) (sz : Nat) (elems : List (List IV)) (ot : Option Nat) (v : Ver) : Prop where
  hz : v.sz = sz
  le : v.n ≤ elems.length
  st : v.start ≤ v.n
  cap : v.n - v.start ≤ v.cap
  mem : ∃ c ty fz, w.heap[v.blk]? = some (.cells c ty fz) ∧ unfrozen fz c.size ∧ c.size = v.cap * sz ∧ (∀ t, ot = some t → ty = t) ∧
    ∀ (i : Nat) e, v.start ≤ i → i < v.n → elems[i]? = some e → ∀ (j : Nat) x, e[j]? = some x → ∃ u, c[(i - v.start) * sz + j]? = some u ∧ Rd w I x u

def BlkR (w : World) (g : Gh) (id : Nat) : Blk → Prop
  | .dead => True
  | .cells l ot => ∃ b c ty fz, g.own id = [⟨b, 0, 0, 1, l.length⟩] ∧ w.heap[b]? = some (.cells c ty fz) ∧ unfrozen fz c.size ∧ L2 (A1R w g) l c.toList ∧ ∀ t, ot = some t → ty = t
  | .vec sz elems gr ot => (∀ e ∈ elems, e.length = sz) ∧ ∃ r rs, g.own id = r :: rs ∧ r.n = elems.length ∧ (gr = false → rs = [] ∧ r.start = 0) ∧
      (∀ v ∈ rs, v.n < elems.length) ∧ ∀ v ∈ r :: rs, VerR w g.imm sz elems ot v

def Blk.live : Blk → Bool | .dead => false | _ => true

def Owned (g : Gh) (H : List Blk) (b : Nat) : Prop := ∃ (id : Nat) (B : Blk), H[id]? = some B ∧ B.live = true ∧ ∃ r ∈ g.own id, r.blk = b

structure Sim (E : Env) (w : World) (g : Gh) (H : List Blk) : Prop where
  blk : ∀ (id : Nat) B, H[id]? = some B → BlkR w g id B
  dis : ∀ (id : Nat) B (id' : Nat) B' r r', H[id]? = some B → B.live = true → H[id']? = some B' → B'.live = true → r ∈ g.own id → r' ∈ g.own id' → r.blk = r'.blk → id = id' ∧ r = r'
  imm : ∀ b, Owned g H b → ¬ g.imm b
  lt : ∀ b, g.imm b → b < w.heap.size
  nil : ∀ id, H.length ≤ id → g.own id = []
  glob : ∀ (k : Nat) cells, E.glob[k]? = some cells → Rd w g.imm (.ptr cells) (.pointer (some ⟨k, 0, none⟩))

structure Step (w : World) (g : Gh) (H : List Blk) (w' : World) (g' : Gh) (H' : List Blk) : Prop where
  os : w'.os = w.os
  tape : w'.tape = w.tape
  output : w'.output = w.output
  size : w.heap.size ≤ w'.heap.size
  frame : ∀ b, b < w.heap.size → ¬ Owned g H b → w'.heap[b]? = w.heap[b]?
  immMono : ∀ b, g.imm b → g'.imm b
  immSub : ∀ b, g'.imm b → g.imm b ∨ Owned g H b ∨ w.heap.size ≤ b
  ownSub : ∀ b, Owned g' H' b → Owned g H b ∨ w.heap.size ≤ b

def OwnLe (g g' : Gh) : Prop := ∀ id r, r ∈ g.own id → ∃ r' ∈ g'.own id, r'.blk = r.blk ∧ r'.start = r.start ∧ r'.sz = r.sz ∧ r'.cap = r.cap ∧ r.n ≤ r'.n

theorem OwnLe.refl (g : Gh) : OwnLe g g := fun _ r h => ⟨r, h, rfl, rfl, rfl, rfl, Nat.le_refl _⟩
theorem OwnLe.of_eq {g g' : Gh} (h : g'.own = g.own) : OwnLe g g' := fun id r hr => ⟨r, by rw [h]; exact hr, rfl, rfl, rfl, rfl, Nat.le_refl _⟩
theorem OwnLe.trans {g g' g'' : Gh} (h : OwnLe g g') (k : OwnLe g' g'') : OwnLe g g'' := fun id r hr => by
  obtain ⟨r', h1, h2, h3, h4, h5, h6⟩ := h id r hr
  obtain ⟨r'', k1, k2, k3, k4, k5, k6⟩ := k id r' h1
  exact ⟨r'', k1, k2.trans h2, k3.trans h3, k4.trans h4, k5.trans h5, Nat.le_trans h6 k6⟩

theorem Step.refl (w : World) (g : Gh) (H : List Blk) : Step w g H w g H :=
  ⟨rfl, rfl, rfl, Nat.le_refl _, fun _ _ _ => rfl, fun _ h => h, fun _ h => .inl h, fun _ h => .inl h⟩

theorem Step.trans {w w' w'' : World} {g g' g'' : Gh} {H H' H'' : List Blk} (h : Step w g H w' g' H') (k : Step w' g' H' w'' g'' H'') : Step w g H w'' g'' H'' where
  os := k.os.trans h.os
  tape := k.tape.trans h.tape
  output := k.output.trans h.output
  size := Nat.le_trans h.size k.size
  frame b hb hn := by
    rw [k.frame b (Nat.lt_of_lt_of_le hb h.size) (fun ho => ?_), h.frame b hb hn]
    rcases h.ownSub b ho with h1 | h1
    · exact hn h1
    · omega
  immMono b hb := k.immMono b (h.immMono b hb)
  immSub b hb := by
    rcases k.immSub b hb with h1 | h1 | h1
    · exact h.immSub b h1
    · exact .inr (h.ownSub b h1)
    · exact .inr (.inr (Nat.le_trans h.size h1))
  ownSub b hb := by
    rcases k.ownSub b hb with h1 | h1
    · exact h.ownSub b h1
    · exact .inr (Nat.le_trans h.size h1)

theorem cell_of_heap {w w' : World} {b : Nat} (h : w'.heap[b]? = w.heap[b]?) (o : Nat) : w'.cell? ⟨b, o, none⟩ = w.cell? ⟨b, o, none⟩ := by
  simp only [World.cell?, h]

theorem Rd.keep {w w' : World} {I I' : Nat → Prop} (hI : ∀ b, I b → I' b) (hw : ∀ b, I b → w'.heap[b]? = w.heap[b]?) {iv : IV} {v : Value} (h : Rd w I iv v) : Rd w' I' iv v := by
  induction h with
  | bool b => exact .bool b
  | int k n => exact .int k n
  | str s => exact .str s
  | nilp => exact .nilp
  | ptr cells b off c h1 hc hr ih =>
    refine .ptr cells b off c (fun h => hI _ (h1 h)) (fun i hi => ?_) ih
    rw [cell_of_heap (hw b (h1 (fun e => by rw [e] at hi; simp at hi)))]
    exact hc i hi
  | lst elems a n cap sz c hn hcap hsz ha hr ih =>
    refine .lst elems a n cap sz c hn hcap hsz ?_ ih
    rcases ha with h | ⟨b, off, rfl, hb, hc⟩
    · exact .inl h
    · exact .inr ⟨b, off, rfl, hI _ hb, fun i j hi hj => by rw [cell_of_heap (hw b hb)]; exact hc i j hi hj⟩
  | fn f as bs A B hA hB ha hb iha ihb => exact .fn f as bs A B hA hB iha ihb

theorem Sim.immKeep {E : Env} {w w' : World} {g g' : Gh} {H H' : List Blk} (hs : Sim E w g H) (h : Step w g H w' g' H') (b : Nat) (hb : g.imm b) : w'.heap[b]? = w.heap[b]? :=
  h.frame b (hs.lt b hb) (fun ho => hs.imm b ho hb)

theorem Rd.step {E : Env} {w w' : World} {g g' : Gh} {H H' : List Blk} (hs : Sim E w g H) (h : Step w g H w' g' H') {iv : IV} {v : Value} (hr : Rd w g.imm iv v) : Rd w' g'.imm iv v :=
  hr.keep h.immMono (hs.immKeep h)

theorem A1R.keep {w w' : World} {g g' : Gh} (hr : ∀ iv v, Rd w g.imm iv v → Rd w' g'.imm iv v) (ho : OwnLe g g') {a : A1} {v : Value} (ha : A1R w g a v) : A1R w' g' a v := by
  cases a with
  | imm iv => exact hr _ _ ha
  | nils => exact ha
  | ref id off =>
    obtain ⟨r, h1, h2⟩ := ha
    obtain ⟨r', k1, k2, _⟩ := ho id r h1
    exact ⟨r', k1, by rw [k2]; exact h2⟩
  | el id idx sub =>
    obtain ⟨r, h1, h2, h3, h4⟩ := ha
    obtain ⟨r', k1, k2, k3, k4, k5, k6⟩ := ho id r h1
    exact ⟨r', k1, by omega, by omega, by rw [k2, k3, k4]; exact h4⟩
  | sl id off len =>
    obtain ⟨r, h1, a, cap, h2, h3, h4, h5, h6, h7⟩ := ha
    obtain ⟨r', k1, k2, k3, k4, k5, k6⟩ := ho id r h1
    exact ⟨r', k1, a, cap, h2, by omega, by omega, by omega, h6, by rw [k2, k3, k4]; exact h7⟩
  | junk => exact ha
  | emp => exact ha

theorem AVR0.keep {w w' : World} {g g' : Gh} (hr : ∀ iv v, Rd w g.imm iv v → Rd w' g'.imm iv v) (ho : OwnLe g g') {a : AV} {v : Value} (ha : AVR0 w g a v) : AVR0 w' g' a v := by
  cases a with
  | one a => exact A1R.keep hr ho ha
  | agg l => obtain ⟨cs, h1, h2⟩ := ha; exact ⟨cs, h1, h2.mono fun _ _ h => A1R.keep hr ho h⟩
  | iagg l => obtain ⟨cs, h1, h2⟩ := ha; exact ⟨cs, h1, h2.mono fun _ _ h => hr _ _ h⟩
  | tup l => exact ha
  | undef => exact ha
  | hole => exact ha

theorem AVR.keep {w w' : World} {g g' : Gh} (hr : ∀ iv v, Rd w g.imm iv v → Rd w' g'.imm iv v) (ho : OwnLe g g') {a : AV} {v : Value} (ha : AVR w g a v) : AVR w' g' a v := by
  cases a with
  | tup l => obtain ⟨cs, h1, h2⟩ := ha; exact ⟨cs, h1, h2.mono fun _ _ h => AVR0.keep hr ho h⟩
  | one a => exact AVR0.keep hr ho (a := .one a) ha
  | agg l => exact AVR0.keep hr ho (a := .agg l) ha
  | iagg l => exact AVR0.keep hr ho (a := .iagg l) ha
  | undef => exact ha
  | hole => exact ha

theorem Rd.oneCell {w : World} {I : Nat → Prop} {iv : IV} {v : Value} (h : Rd w I iv v) : v.oneCell' = true := by cases h <;> rfl
theorem A1R.oneCell {w : World} {g : Gh} {a : A1} {v : Value} (h : A1R w g a v) : v.oneCell' = true := by
  cases a with
  | imm iv => exact Rd.oneCell h
  | nils => subst h; rfl
  | ref id off => obtain ⟨r, _, rfl⟩ := h; rfl
  | el id idx sub => obtain ⟨r, _, _, _, rfl⟩ := h; rfl
  | sl id off len => obtain ⟨r, _, a, cap, rfl, _⟩ := h; rfl
  | junk => exact h
  | emp => obtain ⟨a, rfl⟩ := h; rfl
theorem cells_of_oneCell {v : Value} (h : v.oneCell' = true) : v.cells = #[v] := by cases v <;> first | rfl | simp [Value.oneCell'] at h

theorem AVR0.cells {w : World} {g : Gh} {x : AV} {v : Value} (h : AVR0 w g x v) (hx : x.cells ≠ []) : L2 (A1R w g) x.cells v.cells.toList := by
  cases x with
  | one a => rw [cells_of_oneCell (A1R.oneCell h)]; exact .cons h .nil
  | agg l => obtain ⟨cs, rfl, h2⟩ := h; exact h2
  | iagg l => obtain ⟨cs, rfl, h2⟩ := h; exact L2.map.2 h2
  | tup l => exact h.elim
  | undef => simp [AV.cells] at hx
  | hole => simp [AV.cells] at hx

theorem AVR.of0 {w : World} {g : Gh} {x : AV} {v : Value} (h : AVR0 w g x v) : AVR w g x v := by
  cases x <;> first | exact h | exact h.elim
theorem AVR.to0 {w : World} {g : Gh} {x : AV} {v : Value} (h : AVR w g x v) (hx : ∀ l, x ≠ .tup l) : AVR0 w g x v := by
  cases x <;> first | exact h | exact absurd rfl (hx _)
theorem AVR.cells {w : World} {g : Gh} {x : AV} {v : Value} (h : AVR w g x v) (hx : x.cells ≠ []) : L2 (A1R w g) x.cells v.cells.toList :=
  (h.to0 (fun l e => by subst e; simp [AV.cells] at hx)).cells hx

end Go.Abs

namespace Go.Abs
open Go
set_option linter.unusedSimpArgs false

/-- the table of types is the program's -/
def TyOk (P : Program) (E : Env) : Prop := ∀ t, E.td t = tdOf P t

section
variable {P : Program} {E : Env}

theorem td_inv (hT : TyOk P E) {t : Nat} (h : 0 < (E.td t).size ∨ (E.td t).k ≠ .other) : ∃ i d, P.info? t = some i ∧ P.underlying t = some d ∧ E.td t = tdIn i d := by
  rw [hT t] at h ⊢
  unfold tdOf at h ⊢
  cases hi : P.info? t with
  | none => simp [hi] at h
  | some i =>
    cases hd : P.underlying t with
    | none => simp [hi, hd] at h
    | some d => exact ⟨i, d, rfl, rfl, rfl⟩

theorem tdIn_size (i : TypeInfo) (d : TypeDesc) : (tdIn i d).size = i.size ∧ (tdIn i d).bytes = i.bytes := by cases d <;> exact ⟨rfl, rfl⟩
theorem tdIn_zero (i : TypeInfo) (d : TypeDesc) : (tdIn i d).zero = match i.zero with | some v => if v.cells.toList.all Value.oneCell' then v.cells.toList.map a1Of else [] | none => [] := by cases d <;> rfl

theorem td_slice (hT : TyOk P E) {t e : Nat} (h : (E.td t).k = .slice e) : P.underlying t = some (.slice e) := by
  obtain ⟨i, d, _, h2, h3⟩ := td_inv hT (t := t) (.inr (by rw [h]; simp))
  rw [h3] at h; cases d <;> simp [tdIn] at h; rw [h2, h]
theorem td_array (hT : TyOk P E) {t n e : Nat} (h : (E.td t).k = .array n e) : P.underlying t = some (.array n e) := by
  obtain ⟨i, d, _, h2, h3⟩ := td_inv hT (t := t) (.inr (by rw [h]; simp))
  rw [h3] at h; cases d <;> simp [tdIn] at h; rw [h2, h.1, h.2]
theorem td_str (hT : TyOk P E) {t : Nat} (h : (E.td t).k = .str) : P.underlying t = some .string := by
  obtain ⟨i, d, _, h2, h3⟩ := td_inv hT (t := t) (.inr (by rw [h]; simp))
  rw [h3] at h; cases d <;> simp [tdIn] at h; exact h2
theorem td_int (hT : TyOk P E) {t : Nat} {k : IntKind} (h : (E.td t).k = .int k) : P.underlying t = some (.int k) := by
  obtain ⟨i, d, _, h2, h3⟩ := td_inv hT (t := t) (.inr (by rw [h]; simp))
  rw [h3] at h; cases d <;> simp [tdIn] at h; rw [h2, h]
theorem td_struct (hT : TyOk P E) {t : Nat} {fs : List (Nat × Nat)} (h : (E.td t).k = .struct fs) :
    ∃ gs : Array Field, P.underlying t = some (.struct gs) ∧ fs = gs.toList.map fun f => (f.offset, f.type) := by
  obtain ⟨i, d, _, h2, h3⟩ := td_inv hT (t := t) (.inr (by rw [h]; simp))
  rw [h3] at h; cases d <;> simp [tdIn] at h; exact ⟨_, h2, h.symm⟩

theorem run_sizeOf_td (hT : TyOk P E) {t : Nat} (h : 0 < (E.td t).size) (w : World) : (sizeOf t).run P w = .ok (E.td t).size w := by
  obtain ⟨i, d, h1, h2, h3⟩ := td_inv hT (.inl h)
  simp [sizeOf, typeInfo, h1, h3, (tdIn_size i d).1, Result.andThen]

theorem run_isAgg_td (hT : TyOk P E) {t : Nat} (h : 0 < (E.td t).size) (w : World) : (isAgg t).run P w = .ok (E.td t).agg w := by
  obtain ⟨i, d, h1, h2, h3⟩ := td_inv hT (.inl h)
  rw [h3]
  cases d <;> simp [isAgg, underlying, h2, tdIn, Result.andThen]

theorem run_zero_td (hT : TyOk P E) {t : Nat} (h : 0 < (E.td t).zero.length) (w : World) : ∃ z, (zeroValue t).run P w = .ok z w ∧ z.cells.toList.all Value.oneCell' = true ∧ (E.td t).zero = z.cells.toList.map a1Of := by
  have hk : 0 < (E.td t).size ∨ (E.td t).k ≠ .other ∨ True := .inr (.inr trivial)
  rw [hT t] at h ⊢
  unfold tdOf at h ⊢
  cases hi : P.info? t with
  | none => simp [hi] at h
  | some i =>
    cases hd : P.underlying t with
    | none => simp [hi, hd] at h
    | some d =>
      simp only [hi, hd, tdIn_zero] at h ⊢
      cases hz : i.zero with
      | none => simp [hz] at h
      | some z =>
        simp only [hz] at h ⊢
        by_cases ha : z.cells.toList.all Value.oneCell' = true
        · rw [if_pos ha]
          exact ⟨z, by simp [zeroValue, typeInfo, hi, hz, Result.andThen], ha, rfl⟩
        · rw [if_neg ha] at h; simp at h

theorem a1R_zero {w : World} {g : Gh} {v : Value} (h : v.oneCell' = true) : A1R w g (a1Of v) v := by
  unfold a1Of
  split <;> first | constructor | exact h | rfl

/-- what an operation gives -/
def Yields (E : Env) (w : World) (g : Gh) (H : List Blk) (r : Result Next) (av : AV) (H' : List Blk) : Prop :=
  ∃ v w' g', (r = .ok (.value v) w' ∨ (r = .ok .skip w' ∧ v = undef)) ∧ Step w g H w' g' H' ∧ OwnLe g g' ∧ Sim E w' g' H' ∧ AVR w' g' av v

theorem Yields.val {w : World} {g : Gh} {H : List Blk} {r : Result Next} {av : AV} {v : Value} (hs : Sim E w g H) (hr : r = .ok (.value v) w) (ha : AVR w g av v) : Yields E w g H r av H :=
  ⟨v, w, g, .inl hr, .refl _ _ _, .refl _, hs, ha⟩

theorem eval_of_const {w : World} {g : Gh} (v : Value) : AVR w g (ofConst v) v := by
  unfold ofConst
  split <;> first | exact Rd.bool _ | exact Rd.int _ _ | exact Rd.str _ | exact Rd.nilp | rfl | trivial

/-- the frame's slots -/
def FrR (w : World) (g : Gh) (tmps : List AV) (a : Act) : Prop :=
  tmps.length ≤ a.tmps.size ∧ ∀ t, AVR w g (tmps.getD t .undef) (a.tmps.getD t undef)

theorem FrR.ev {w : World} {g : Gh} {H : List Blk} {tmps : List AV} {a : Act} (hs : Sim E w g H) (h : FrR w g tmps a) (x : Operand) : AVR w g (E.ev tmps x) (a.eval x) := by
  cases x with
  | tmp t => exact h.2 t
  | const v => exact eval_of_const v
  | global k =>
    show AVR w g (.i (.ptr (E.glob.getD k []))) _
    cases hk : E.glob[k]? with
    | none => simp only [List.getD, hk, Option.getD_none]; exact Rd.ptr [] k 0 (fun _ => undef) (by simp) (by simp) (by simp)
    | some c => simp only [List.getD, hk, Option.getD_some]; exact hs.glob k c hk
  | func f => trivial

theorem FrR.put {w : World} {g : Gh} {tmps : List AV} {a : Act} (h : FrR w g tmps a) {av : AV} {v : Value} (hv : AVR w g av v) (d : Nat) : FrR w g (tmps.set d av) (a.put (some d) v) := by
  refine ⟨by simpa [Act.put] using h.1, fun t => ?_⟩
  have h2 := h.2 t
  simp only [Act.put, List.getD, Array.getD_eq_getD_getElem?, Array.getElem?_setIfInBounds, List.getElem?_set] at h2 ⊢
  by_cases e : d = t
  · subst e
    simp only [if_true]
    by_cases hl : d < tmps.length
    · rw [if_pos hl, if_pos (by have := h.1; omega)]; exact hv
    · rw [if_neg hl]; trivial
  · rw [if_neg e, if_neg e]; exact h2

theorem FrR.keep {w w' : World} {g g' : Gh} (hr : ∀ iv v, Rd w g.imm iv v → Rd w' g'.imm iv v) (ho : OwnLe g g') {tmps : List AV} {a : Act} (h : FrR w g tmps a) : FrR w' g' tmps a :=
  ⟨h.1, fun t => AVR.keep hr ho (h.2 t)⟩

/-- the plain field and index places -/
theorem add_zero' (b o n : Nat) : (⟨b, o, none⟩ : Addr).add n = ⟨b, o + n, none⟩ := by
  unfold Addr.add
  split
  · simp [*]
  · rfl

theorem getAt {c : Array Value} {i : Nat} {v : Value} (h : c.toList[i]? = some v) : c[i]? = some v := by simpa using h

/-- a load of one type's cells that lie in a row -/
theorem load_cells (hT : TyOk P E) {w : World} {t b off : Nat} {R : A1 → Value → Prop} {cs : List A1} {vs : Nat → Value}
    (hc : ∀ i, i < cs.length → w.cell? ⟨b, off + i, none⟩ = some (vs i)) (hr : ∀ (i : Nat) x, cs[i]? = some x → R x (vs i)) {K : AV → Prop} (h : ldCells (E.td t) cs K) :
    ∃ av v, K av ∧ (loadVar t ⟨b, off, none⟩).run P w = .ok v w ∧ ((∃ a, av = .one a ∧ R a v) ∨ (∃ l c, av = .agg l ∧ v = .agg c ∧ L2 R l c.toList)) := by
  unfold ldCells at h
  cases ha : (E.td t).agg with
  | true =>
    simp only [ha] at h
    cases hb : Nat.ble (E.td t).size cs.length with
    | false => simp [hb] at h
    | true =>
      simp only [hb] at h
      have hle : (E.td t).size ≤ cs.length := Nat.le_of_ble_eq_true hb
      have hk : (E.td t).k ≠ .other := by
        intro hk
        rw [hT t] at ha hk
        unfold tdOf at ha hk
        split at ha
        · rename_i i d _ _; cases d <;> simp_all [tdIn]
        · simp at ha
      obtain ⟨i, d, h1, h2, h3⟩ := td_inv hT (.inr hk)
      refine ⟨_, .agg ((List.range (E.td t).size).map vs).toArray, h, ?_, .inr ⟨_, _, rfl, rfl, ?_, ?_⟩⟩
      · have hisz : (P.info? t).map (·.size) = some (E.td t).size := by rw [h1, h3, (tdIn_size i d).1]; rfl
        have hag : (isAgg t).run P w = .ok true w := by
          rw [h3] at ha
          cases d <;> simp [tdIn] at ha <;> simp [isAgg, underlying, h2, Result.andThen]
        have hlc := run_loadCells (P := P) w ⟨b, off, none⟩ (E.td t).size vs (fun j hj => by rw [add_zero']; exact hc j (by omega))
        have hsz : (sizeOf t).run P w = .ok (E.td t).size w := by simp [sizeOf, typeInfo, h1, h3, (tdIn_size i d).1, Result.andThen]
        simp only [loadVar, Sem.run_bind, hag, Result.andThen, if_true, hsz, hlc, Sem.run_pure]
      · simp [hle]
      · intro j x hj
        rw [List.getElem?_take] at hj
        split at hj
        · rename_i hlt; exact ⟨vs j, by simp [hlt], hr j x hj⟩
        · simp at hj
  | false =>
    simp only [ha] at h
    cases hb : Nat.beq (E.td t).size 1 with
    | false => simp [hb] at h
    | true =>
      have h1 : (E.td t).size = 1 := Nat.eq_of_beq_eq_true hb
      cases cs with
      | nil => simp [hb] at h
      | cons c cs =>
        simp only [hb] at h
        refine ⟨_, vs 0, h, ?_, .inl ⟨c, rfl, hr 0 c rfl⟩⟩
        have hcell := hc 0 (by simp)
        rw [Nat.add_zero] at hcell
        simp only [loadVar, Sem.run_bind, run_isAgg_td hT (t := t) (by omega) w, Result.andThen, ha, Bool.false_eq_true, if_false, run_load, hcell]

end
end Go.Abs

namespace Go.Abs
open Go
set_option linter.unusedSimpArgs false

section
variable {P : Program} {E : Env}

theorem cell_of {w : World} {b : Nat} {c : Array Value} {ty : TypeId} {fz : Nat × Nat} (h : w.heap[b]? = some (.cells c ty fz)) (o : Nat) : w.cell? ⟨b, o, none⟩ = c[o]? := by
  simp [World.cell?, h]

theorem frozen_of {w : World} {b : Nat} {c : Array Value} {ty : TypeId} {fz : Nat × Nat} (h : w.heap[b]? = some (.cells c ty fz)) (hu : unfrozen fz c.size) (o : Nat) (ho : o < c.size) : w.frozen? ⟨b, o, none⟩ = false := by
  simp only [World.frozen?, h]
  exact hu o ho

theorem getD_get {H : List Blk} {id : Nat} {B : Blk} (h : H.getD id .dead = B) (hB : B ≠ .dead) : H[id]? = some B := by
  cases hb : H[id]? with
  | none => simp [List.getD, hb] at h; exact absurd h.symm hB
  | some x => simp [List.getD, hb] at h; rw [h]

theorem ver_cells {w : World} {I : Nat → Prop} {sz : Nat} {elems : List (List IV)} {r : Ver} {ot : Option Nat} (h : VerR w I sz elems ot r) (hsz : ∀ e ∈ elems, e.length = sz) {i : Nat} {e : List IV} (h1 : r.start ≤ i) (h2 : i < r.n) (he : elems[i]? = some e) :
    ∃ vs : Nat → Value, ∀ j x, e[j]? = some x → w.cell? ⟨r.blk, (i - r.start) * sz + j, none⟩ = some (vs j) ∧ Rd w I x (vs j) := by
  obtain ⟨c, ty, fz, hb, _, _, _, hm⟩ := h.mem
  refine ⟨fun j => (c[(i - r.start) * sz + j]?).getD undef, fun j x hx => ?_⟩
  obtain ⟨u, hu, hr⟩ := hm i e h1 h2 he j x hx
  have e1 : (c[(i - r.start) * sz + j]?).getD undef = u := by rw [hu]; rfl
  exact ⟨by rw [cell_of hb, hu]; exact congrArg some e1.symm, by show Rd w I x ((c[(i - r.start) * sz + j]?).getD undef); rw [e1]; exact hr⟩

theorem flat_get {sz : Nat} : ∀ {l : List (List IV)} (_ : ∀ e ∈ l, e.length = sz) {k : Nat} {x : IV}, l.flatten[k]? = some x → ∃ i j e, l[i]? = some e ∧ e[j]? = some x ∧ k = i * sz + j
  | [], _, k, x, h => by simp at h
  | a :: l, hl, k, x, h => by
    rw [List.flatten_cons, List.getElem?_append] at h
    have ha : a.length = sz := hl a (by simp)
    by_cases hk : k < a.length
    · rw [if_pos hk] at h; exact ⟨0, k, a, rfl, h, by omega⟩
    · rw [if_neg hk] at h
      obtain ⟨i, j, e, h1, h2, h3⟩ := flat_get (l := l) (fun e he => hl e (by simp [he])) h
      refine ⟨i + 1, j, e, by simpa using h1, h2, ?_⟩
      rw [Nat.add_mul]; omega

theorem flat_len {sz : Nat} : ∀ {l : List (List IV)} (_ : ∀ e ∈ l, e.length = sz), l.flatten.length = l.length * sz
  | [], _ => by simp
  | a :: l, hl => by
    rw [List.flatten_cons, List.length_append, flat_len (l := l) (fun e he => hl e (by simp [he])), hl a (by simp), List.length_cons, Nat.add_mul]; omega

/-- where a load goes -/
theorem aLoad_sound (hT : TyOk P E) {w : World} {g : Gh} {H : List Blk} (hs : Sim E w g H) {t : Nat} {x : AV} {v : Value} (hx : AVR w g x v) {K : AV → Prop} (h : aLoad E t x H K) :
    ∃ av u a, K av ∧ v = .pointer (some a) ∧ (loadVar t a).run P w = .ok u w ∧ AVR w g av u := by
  have fin : ∀ {b off : Nat} {cs : List A1} {vs : Nat → Value} {R : A1 → Value → Prop} (hR : ∀ a v, R a v → A1R w g a v) (hc : ∀ i, i < cs.length → w.cell? ⟨b, off + i, none⟩ = some (vs i)) (hr : ∀ (i : Nat) x, cs[i]? = some x → R x (vs i)),
      ldCells (E.td t) cs K → v = .pointer (some ⟨b, off, none⟩) → ∃ av u a, K av ∧ v = .pointer (some a) ∧ (loadVar t a).run P w = .ok u w ∧ AVR w g av u := by
    intro b off cs vs R hR hc hr h hv
    obtain ⟨av, u, hk, hrun, hrel⟩ := load_cells hT hc hr h
    refine ⟨av, u, _, hk, hv, hrun, ?_⟩
    rcases hrel with ⟨a, rfl, ha⟩ | ⟨l, c, rfl, rfl, hl⟩
    · exact hR _ _ ha
    · exact ⟨c, rfl, hl.mono hR⟩
  unfold aLoad at h
  split at h
  · rename_i cells
    cases hx with
    | ptr _ b off c h1 hc hr =>
      refine fin (R := A1R w g) (fun _ _ h => h) (vs := c) (by simpa using hc) (fun i x hi => ?_) h rfl
      simp at hi
      obtain ⟨y, hy, rfl⟩ := hi
      exact hr i y hy
  · rename_i id off
    obtain ⟨r, hr, rfl⟩ := hx
    split at h
    · rename_i l hl
      have hB := hs.blk id _ (getD_get hl (by simp))
      obtain ⟨b, c, ty, fz, ho, hb, hu, hL, hty⟩ := hB
      rw [ho] at hr
      simp at hr
      subst hr
      refine fin (R := A1R w g) (fun _ _ h => h) (vs := fun i => (c[off + i]?).getD undef) (fun i hi => ?_) (fun i x hi => ?_) h rfl
      · simp at hi
        have hlen := hL.1
        simp at hlen
        rw [cell_of hb, Array.getElem?_eq_getElem (by omega)]; rfl
      · simp at hi
        obtain ⟨u, hu1, hu2⟩ := hL.2 _ _ hi
        have : c[off + i]? = some u := by simpa using hu1
        simp only [this, Option.getD_some]
        exact hu2
    · rename_i sz elems _ hl
      split at h
      · rename_i n e hk
        split at h
        · rename_i hsz
          simp only [Bool.and_eq_true] at hsz
          obtain ⟨⟨hsz1, hsz2⟩, hsz3⟩ := hsz
          have hsz : sz = (E.td e).size := Nat.eq_of_beq_eq_true hsz1
          have htsz : (E.td t).size = n * sz := Nat.eq_of_beq_eq_true hsz2
          have htp : 0 < (E.td t).size := by simpa using hsz3
          obtain ⟨hlen, hK⟩ := h
          have hB := hs.blk id _ (getD_get hl (by simp))
          obtain ⟨hes, r0, rs, ho, hn, hg, _, hv⟩ := hB
          obtain ⟨hrs, hst⟩ := hg rfl
          rw [ho, hrs] at hr
          simp at hr
          subst hr
          have hver := hv r (by simp)
          obtain ⟨i, d, h1, h2, h3⟩ := td_inv hT (t := t) (.inr (by rw [hk]; simp))
          have hd : d = .array n e := by rw [h3] at hk; cases d <;> simp [tdIn] at hk; rw [hk.1, hk.2]
          obtain ⟨c, ty, fz, hb, hu, hcs, _, hm⟩ := hver.mem
          have hc : n * sz ≤ c.size := by rw [hcs]; exact Nat.mul_le_mul_right _ (by have := hver.cap; omega)
          have hag : (E.td t).agg = true := by rw [h3, hd]; rfl
          refine ⟨_, .agg (c.toList.take (n * sz)).toArray, _, hK, rfl, ?_, ⟨_, rfl, ?_, ?_⟩⟩
          · have hlc := run_loadCells_list (P := P) w ⟨r.blk, 0, none⟩ (c.toList.take (n * sz)) (fun j v hj => by
              rw [List.getElem?_take] at hj
              split at hj
              · rw [add_zero', Nat.zero_add, cell_of hb]; simpa using hj
              · simp at hj)
            have hll : (c.toList.take (n * sz)).length = n * sz := by simp; omega
            rw [hll] at hlc
            have hsz' : (sizeOf t).run P w = .ok (n * sz) w := by rw [← htsz]; exact run_sizeOf_td hT htp w
            simp only [loadVar, Sem.run_bind, run_isAgg_td hT htp w, hag, Result.andThen, if_true, hsz', hlc, Sem.run_pure]
          · simp [flat_len hes, hlen]; omega
          · intro k x hx
            obtain ⟨i, j, e', q1, q2, q3⟩ := flat_get hes hx
            have hi : i < elems.length := (List.getElem?_eq_some_iff.1 q1).1
            have hj : j < sz := by rw [← hes e' (List.mem_of_getElem? q1)]; exact (List.getElem?_eq_some_iff.1 q2).1
            obtain ⟨u, hu1, hu2⟩ := hm i e' (by omega) (by omega) q1 j x q2
            rw [hst, Nat.sub_zero, ← q3] at hu1
            have hk : k < n * sz := by
              have : (i + 1) * sz ≤ n * sz := Nat.mul_le_mul_right _ (by omega)
              rw [Nat.add_mul] at this; omega
            refine ⟨u, ?_, hu2⟩
            rw [List.getElem?_take, if_pos hk]; simpa using hu1
        · exact h.elim
      · exact h.elim
    · exact h.elim
  · rename_i id idx sub
    obtain ⟨r, hr, h1, h2, rfl⟩ := hx
    split at h
    · rename_i sz elems gr _ hl
      obtain ⟨cells, hcells, hK⟩ := h
      have hB := hs.blk id _ (getD_get hl (by simp))
      obtain ⟨hes, r0, rs, ho, hn, _, _, hv⟩ := hB
      have hver := hv r (by rw [← ho]; exact hr)
      obtain ⟨vs, hvs⟩ := ver_cells hver hes h1 h2 hcells
      refine fin (R := A1R w g) (fun _ _ h => h) (b := r.blk) (off := (idx - r.start) * sz + sub) (vs := fun i => vs (sub + i)) (fun i hi => ?_) (fun i x hi => ?_) hK (by rw [hver.hz])
      · simp at hi
        have := (hvs (sub + i) cells[sub + i] (by rw [List.getElem?_eq_getElem])).1
        rw [← this, Nat.add_assoc]
      · simp at hi
        obtain ⟨y, hy, rfl⟩ := hi
        exact (hvs _ _ hy).2
    · exact h.elim
  · exact h.elim

end
end Go.Abs

namespace Go.Abs
open Go
set_option linter.unusedSimpArgs false

section
variable {P : Program} {E : Env}

theorem BlkR.keep {w w' : World} {g g' : Gh} (hr : ∀ iv v, Rd w g.imm iv v → Rd w' g'.imm iv v) (ho : OwnLe g g') {id : Nat} (he : g'.own id = g.own id)
    {B : Blk} (hb : B.live = true → ∀ r ∈ g.own id, w'.heap[r.blk]? = w.heap[r.blk]?) (h : BlkR w g id B) : BlkR w' g' id B := by
  cases B with
  | dead => trivial
  | cells l ot =>
    obtain ⟨b, c, ty, fz, h1, h2, h3, h4, h5⟩ := h
    exact ⟨b, c, ty, fz, by rw [he, h1], (hb rfl ⟨b, 0, 0, 1, l.length⟩ (by rw [h1]; simp)).trans h2, h3, h4.mono fun _ _ h => A1R.keep hr ho h, h5⟩
  | vec sz elems gr ot =>
    obtain ⟨h0, r, rs, h1, h2, h3, h4, h5⟩ := h
    refine ⟨h0, r, rs, by rw [he, h1], h2, h3, h4, fun v hv => ?_⟩
    obtain ⟨q1, q2, q3, q4, c, ty, fz, q5, q6, q7, q9, q8⟩ := h5 v hv
    refine ⟨q1, q2, q3, q4, c, ty, fz, by rw [hb rfl _ (by rw [h1]; exact hv)]; exact q5, q6, q7, q9, fun i e a b d j x hj => ?_⟩
    obtain ⟨u, k1, k2⟩ := q8 i e a b d j x hj
    exact ⟨u, k1, hr _ _ k2⟩

theorem blk_lt {w : World} {g : Gh} {id : Nat} {B : Blk} (h : BlkR w g id B) (hl : B.live = true) {r : Ver} (hr : r ∈ g.own id) : r.blk < w.heap.size := by
  have key : ∀ {b : Nat} {o : Obj}, w.heap[b]? = some o → b < w.heap.size := by
    intro b o hb
    rcases Nat.lt_or_ge b w.heap.size with h | h
    · exact h
    · simp [Array.getElem?_eq_none h] at hb
  cases B with
  | dead => simp [Blk.live] at hl
  | cells l ot => obtain ⟨b, c, ty, fz, h1, h2, _⟩ := h; rw [h1] at hr; simp at hr; subst hr; exact key h2
  | vec sz elems gr ot =>
    obtain ⟨h0, r', rs, h1, h2, h3, h4, h5⟩ := h
    obtain ⟨_, _, _, _, c, ty, fz, q5, _⟩ := h5 r (by rw [← h1]; exact hr)
    exact key q5

theorem Sim.own_lt {w : World} {g : Gh} {H : List Blk} (hs : Sim E w g H) {b : Nat} (h : Owned g H b) : b < w.heap.size := by
  obtain ⟨id, B, h1, h2, r, h3, rfl⟩ := h
  exact blk_lt (hs.blk id B h1) h2 h3

/-- the ghost of a new block -/
def Gh.push (g : Gh) (n : Nat) (r : Ver) : Gh := ⟨g.imm, fun id => if id = n then [r] else g.own id⟩

theorem push_le {w : World} {g : Gh} {H : List Blk} (hs : Sim E w g H) (r : Ver) : OwnLe g (g.push H.length r) := by
  intro id q hq
  refine ⟨q, ?_, rfl, rfl, rfl, rfl, Nat.le_refl _⟩
  simp only [Gh.push]
  split
  · rename_i e; rw [hs.nil id (by omega)] at hq; simp at hq
  · exact hq

theorem heap_push {w w' : World} {o : Obj} (hh : w'.heap = w.heap.push o) (b : Nat) (hb : b < w.heap.size) : w'.heap[b]? = w.heap[b]? := by
  rw [hh, Array.getElem?_push, if_neg (by omega)]

theorem Rd.push {w w' : World} {g : Gh} {H : List Blk} {o : Obj} (hs : Sim E w g H) (hh : w'.heap = w.heap.push o) {iv : IV} {v : Value} (h : Rd w g.imm iv v) : Rd w' g.imm iv v :=
  h.keep (fun _ h => h) (fun b hb => heap_push hh b (hs.lt b hb))

theorem sim_push {w w' : World} {g : Gh} {H : List Blk} {o : Obj} (hs : Sim E w g H) (hh : w'.heap = w.heap.push o) (h1 : w'.os = w.os) (h2 : w'.tape = w.tape) (h3 : w'.output = w.output)
    {B : Blk} {r : Ver} (hr : r.blk = w.heap.size) (hB : BlkR w' (g.push H.length r) H.length B) :
    Sim E w' (g.push H.length r) (H ++ [B]) ∧ Step w g H w' (g.push H.length r) (H ++ [B]) ∧ OwnLe g (g.push H.length r) := by
  have hle := push_le hs r
  have hrd : ∀ iv v, Rd w g.imm iv v → Rd w' (g.push H.length r).imm iv v := fun iv v h => Rd.push hs hh h
  have hsz : w'.heap.size = w.heap.size + 1 := by rw [hh]; simp
  have hold : ∀ id, id < H.length → (g.push H.length r).own id = g.own id := fun id h => by simp [Gh.push, Nat.ne_of_lt h]
  have hnew : (g.push H.length r).own H.length = [r] := by simp [Gh.push]
  have hget : ∀ (id : Nat) (B' : Blk), (H ++ [B])[id]? = some B' → (id < H.length ∧ H[id]? = some B') ∨ (id = H.length ∧ B' = B) := by
    intro id B' h
    rw [List.getElem?_append] at h
    split at h
    · exact .inl ⟨‹_›, h⟩
    · right
      rcases Nat.lt_or_ge (id - H.length) 1 with h' | h'
      · have : id - H.length = 0 := by omega
        rw [this] at h; simp at h; exact ⟨by omega, h.symm⟩
      · rw [List.getElem?_eq_none (by simpa using h')] at h; simp at h
  have hown : ∀ b, Owned (g.push H.length r) (H ++ [B]) b → Owned g H b ∨ b = w.heap.size := by
    rintro b ⟨id, B', q1, q2, q, q3, rfl⟩
    rcases hget id B' q1 with ⟨q4, q5⟩ | ⟨rfl, rfl⟩
    · rw [hold id q4] at q3; exact .inl ⟨id, B', q5, q2, q, q3, rfl⟩
    · rw [hnew] at q3; simp at q3; subst q3; exact .inr hr
  refine ⟨⟨?_, ?_, ?_, ?_, ?_, ?_⟩, ⟨h1, h2, h3, by omega, fun b hb _ => heap_push hh b hb, fun _ h => h, fun _ h => .inl h, fun b hb => ?_⟩, hle⟩
  · intro id B' hid
    rcases hget id B' hid with ⟨q4, q5⟩ | ⟨rfl, rfl⟩
    · exact (hs.blk id B' q5).keep hrd hle (hold id q4) (fun hl q hq => heap_push hh _ (blk_lt (hs.blk id B' q5) hl hq))
    · exact hB
  · intro id B1 id' B2 q q' a1 a2 a3 a4 a5 a6 a7
    rcases hget id B1 a1 with ⟨q4, q5⟩ | ⟨rfl, rfl⟩
    · rw [hold id q4] at a5
      rcases hget id' B2 a3 with ⟨q6, q7⟩ | ⟨rfl, rfl⟩
      · rw [hold id' q6] at a6; exact hs.dis id B1 id' B2 q q' q5 a2 q7 a4 a5 a6 a7
      · rw [hnew] at a6; simp at a6; subst a6
        have := blk_lt (hs.blk id B1 q5) a2 a5
        omega
    · rw [hnew] at a5; simp at a5; subst a5
      rcases hget id' B2 a3 with ⟨q6, q7⟩ | ⟨rfl, rfl⟩
      · rw [hold id' q6] at a6
        have := blk_lt (hs.blk id' B2 q7) a4 a6
        omega
      · rw [hnew] at a6; simp at a6; exact ⟨rfl, a6.symm⟩
  · intro b hb hi
    rcases hown b hb with h | h
    · exact hs.imm b h hi
    · have := hs.lt b hi; omega
  · intro b hb; have := hs.lt b hb; omega
  · intro id hid
    simp at hid
    have : id ≠ H.length := by omega
    simp only [Gh.push, if_neg this]
    exact hs.nil id (by omega)
  · intro k cells hk; exact hrd _ _ (hs.glob k cells hk)
  · rcases hown b hb with h | h
    · exact .inl h
    · exact .inr (by omega)

theorem a1_new_ref {w : World} {g : Gh} {n off : Nat} {r : Ver} : A1R w (g.push n r) (.ref n off) (.pointer (some ⟨r.blk, off, none⟩)) :=
  ⟨r, by simp [Gh.push], rfl⟩

theorem chunk_len {α : Type} : ∀ (n sz : Nat) (l : List α), (chunk n sz l).length = n
  | 0, _, _ => rfl
  | n + 1, sz, l => by simp [chunk, chunk_len n sz]

theorem chunk_each {α : Type} : ∀ (n sz : Nat) (l : List α), l.length = n * sz → ∀ e ∈ chunk n sz l, e.length = sz
  | 0, _, _, _, e, h => by simp [chunk] at h
  | n + 1, sz, l, hl, e, h => by
    rw [Nat.add_mul] at hl
    simp only [chunk, List.mem_cons] at h
    rcases h with rfl | h
    · simp; omega
    · exact chunk_each n sz (l.drop sz) (by simp; omega) e h

theorem chunk_get {α : Type} : ∀ (n sz : Nat) (l : List α) (i j : Nat) (e : List α) (x : α), (chunk n sz l)[i]? = some e → e[j]? = some x → j < sz → l[i * sz + j]? = some x
  | 0, _, _, i, j, e, x, h, _, _ => by simp [chunk] at h
  | n + 1, sz, l, 0, j, e, x, h, hx, hj => by
    simp only [chunk, List.getElem?_cons_zero, Option.some.injEq] at h
    subst h
    rw [List.getElem?_take, if_pos hj] at hx
    simpa using hx
  | n + 1, sz, l, i + 1, j, e, x, h, hx, hj => by
    simp only [chunk, List.getElem?_cons_succ] at h
    have := chunk_get n sz (l.drop sz) i j e x h hx hj
    rw [List.getElem?_drop] at this
    rw [← this]; congr 1
    rw [Nat.add_mul]; omega

theorem imms_get : ∀ {l : List A1} {vs : List IV}, imms l = some vs → l.length = vs.length ∧ ∀ (i : Nat) x, vs[i]? = some x → l[i]? = some (.imm x)
  | [], vs, h => by simp [imms] at h; subst h; simp
  | a :: l, vs, h => by
    cases a <;> simp [imms] at h
    obtain ⟨t, h1, rfl⟩ := h
    obtain ⟨h2, h3⟩ := imms_get h1
    refine ⟨by simp [h2], fun i x hx => ?_⟩
    cases i with
    | zero => simpa using hx
    | succ i => simpa using h3 i x (by simpa using hx)

theorem L2.imms {w : World} {g : Gh} {l : List A1} {vs : List IV} (h : imms l = some vs) {m : List Value} (hm : L2 (A1R w g) l m) : L2 (Rd w g.imm) vs m := by
  obtain ⟨h1, h2⟩ := imms_get h
  exact ⟨h1 ▸ hm.1, fun i x hx => hm.2 i _ (h2 i x hx)⟩

/-- a new block of cells -/
theorem sim_new (hT : TyOk P E) {w w' : World} {g : Gh} {H : List Blk} {t : Nat} {cs : List A1} {c : Array Value} {ty : TypeId} (hs : Sim E w g H)
    (hh : w'.heap = w.heap.push (.cells c ty (0, 0))) (h1 : w'.os = w.os) (h2 : w'.tape = w.tape) (h3 : w'.output = w.output)
    (hc : L2 (A1R w g) cs c.toList) (hsz : cs.length = (E.td t).size) (hpos : 0 < (E.td t).size) (hty : ty = t) {keep : Bool} :
    ∃ g', Sim E w' g' (H ++ [mkBlk E keep t cs]) ∧ Step w g H w' g' (H ++ [mkBlk E keep t cs]) ∧ OwnLe g g' ∧ A1R w' g' (.ref H.length 0) (.pointer (some ⟨w.heap.size, 0, none⟩)) := by
  have hget : w'.heap[w.heap.size]? = some (.cells c ty (0, 0)) := by rw [hh]; simp
  have hunf : unfrozen (0, 0) c.size := fun i _ => by simp
  have cells : ∀ ot : Option Nat, (∀ t', ot = some t' → ty = t') → ∃ g', Sim E w' g' (H ++ [.cells cs ot]) ∧ Step w g H w' g' (H ++ [.cells cs ot]) ∧ OwnLe g g' ∧ A1R w' g' (.ref H.length 0) (.pointer (some ⟨w.heap.size, 0, none⟩)) := by
    intro ot hot
    refine ⟨g.push H.length ⟨w.heap.size, 0, 0, 1, cs.length⟩, ?_⟩
    obtain ⟨a, b, d⟩ := sim_push (B := .cells cs ot) hs hh h1 h2 h3 (r := ⟨w.heap.size, 0, 0, 1, cs.length⟩) rfl
      ⟨w.heap.size, c, ty, (0, 0), by simp [Gh.push], hget, hunf, hc.mono fun x v hx => A1R.keep (g' := g.push H.length ⟨w.heap.size, 0, 0, 1, cs.length⟩) (fun _ _ h => Rd.push hs hh h) (push_le hs _) hx, hot⟩
    exact ⟨a, b, d, a1_new_ref⟩
  unfold mkBlk
  split
  · rename_i n e hk
    split
    · rename_i vs hvs hne
      have hne : (E.td e).size * n = (E.td t).size := Nat.eq_of_beq_eq_true hne
      · refine ⟨g.push H.length ⟨w.heap.size, 0, n, (E.td e).size, n⟩, ?_⟩
        have hlen : vs.length = n * (E.td e).size := by rw [← (imms_get hvs).1, hsz, ← hne, Nat.mul_comm]
        have hcv := L2.imms hvs hc
        have hver : VerR w' (g.push H.length ⟨w.heap.size, 0, n, (E.td e).size, n⟩).imm (E.td e).size (chunk n (E.td e).size vs) none ⟨w.heap.size, 0, n, (E.td e).size, n⟩ := by
          refine ⟨rfl, by rw [chunk_len]; exact Nat.le_refl _, Nat.zero_le _, Nat.le_refl _, c, ty, (0, 0), hget, hunf, by have := hcv.1; simp at this; rw [← this, hlen], (fun _ h => by cases h), fun i e' _ _ he' j x hx => ?_⟩
          have hj : j < (E.td e).size := by rw [← chunk_each n _ vs hlen e' (List.mem_of_getElem? he')]; exact (List.getElem?_eq_some_iff.1 hx).1
          obtain ⟨u, hu1, hu2⟩ := hcv.2 _ _ (chunk_get n _ vs i j e' x he' hx hj)
          exact ⟨u, by simpa using hu1, Rd.push hs hh hu2⟩
        obtain ⟨a, b, d⟩ := sim_push (B := .vec (E.td e).size (chunk n (E.td e).size vs) false) hs hh h1 h2 h3 (r := ⟨w.heap.size, 0, n, (E.td e).size, n⟩) rfl
          ⟨chunk_each n _ vs hlen, ⟨w.heap.size, 0, n, (E.td e).size, n⟩, [], by simp [Gh.push], by rw [chunk_len], fun _ => ⟨rfl, rfl⟩, by simp, fun v hv => by simp at hv; subst hv; exact hver⟩
        exact ⟨a, b, d, a1_new_ref⟩
    · exact cells none (fun _ h => by cases h)
  · refine cells _ fun t' ht' => ?_
    cases keep with
    | true => exact hty.trans (Option.some.inj ht')
    | false => cases ht'

end
end Go.Abs

namespace Go.Abs
open Go
set_option linter.unusedSimpArgs false

section
variable {P : Program} {E : Env}

/-! ### a store -/

theorem store_cell {w : World} {b o : Nat} {c : Array Value} {ty : TypeId} {fz : Nat × Nat} (hb : w.heap[b]? = some (.cells c ty fz)) (hu : unfrozen fz c.size) (ho : o < c.size) {v : Value} (hv : v.oneCell' = true) :
    (store ⟨b, o, none⟩ v).run P w = .ok () (w.setCell ⟨b, o, none⟩ v) := by
  rw [run_store P w _ v .plain hv, cell_of hb, Array.getElem?_eq_getElem ho, frozen_of hb hu o ho]
  rfl

theorem heap_setCell_same {w : World} {b o : Nat} {c : Array Value} {ty : TypeId} {fz : Nat × Nat} (hb : w.heap[b]? = some (.cells c ty fz)) (v : Value) :
    (w.setCell ⟨b, o, none⟩ v).heap[b]? = some (.cells (c.setIfInBounds o v) ty fz) := by
  simp [World.setCell, Array.getElem?_modify, hb]

/-- c with the values from place o on -/
def putAt (c : Array Value) (o : Nat) : List Value → Array Value
  | [] => c
  | v :: t => putAt (c.setIfInBounds o v) (o + 1) t

theorem putAt_size : ∀ (l : List Value) (c : Array Value) (o : Nat), (putAt c o l).size = c.size
  | [], _, _ => rfl
  | v :: t, c, o => by simp [putAt, putAt_size t]

theorem splice_set {α : Type} (l : List α) (o : Nat) (v : α) (t : List α) (h : o < l.length) : splice (l.set o v) (o + 1) t = splice l o (v :: t) := by
  simp only [splice, List.length_cons]
  have h1 : (l.set o v).take (o + 1) = l.take o ++ [v] := by
    rw [List.take_succ_eq_append_getElem (by simpa using h), List.take_set_of_le (Nat.le_refl _)]
    simp
  have h2 : (l.set o v).drop (o + 1 + t.length) = l.drop (o + (t.length + 1)) := by
    rw [List.drop_set, if_pos (by omega)]; congr 1; omega
  rw [h1, h2]; simp

theorem putAt_toList : ∀ (l : List Value) (c : Array Value) (o : Nat), o + l.length ≤ c.size → (putAt c o l).toList = splice c.toList o l
  | [], c, o, h => by simp [putAt, splice]
  | v :: t, c, o, h => by
    simp only [List.length_cons] at h
    rw [putAt, putAt_toList t _ _ (by simp; omega), Array.toList_setIfInBounds, splice_set _ _ _ _ (by simp; omega)]

theorem run_storeCells_put {b : Nat} {ty : TypeId} {fz : Nat × Nat} : ∀ (l : List Value) (i o : Nat) (c : Array Value) (w : World), w.heap[b]? = some (.cells c ty fz) → unfrozen fz c.size → o + i + l.length ≤ c.size → (∀ v ∈ l, v.oneCell' = true) →
    ∃ w', (storeCells ⟨b, o, none⟩ l i).run P w = .ok () w' ∧ w'.heap = w.heap.setIfInBounds b (.cells (putAt c (o + i) l) ty fz) ∧ w'.os = w.os ∧ w'.tape = w.tape ∧ w'.output = w.output
  | [], i, o, c, w, hb, hu, hle, h1 => by
    refine ⟨w, by simp [storeCells], ?_, rfl, rfl, rfl⟩
    apply Array.ext_getElem?
    intro j
    rw [Array.getElem?_setIfInBounds]
    split
    · rename_i e; subst e
      have : b < w.heap.size := by
        rcases Nat.lt_or_ge b w.heap.size with h | h
        · exact h
        · simp [Array.getElem?_eq_none h] at hb
      rw [if_pos this, hb]; rfl
    · rfl
  | v :: t, i, o, c, w, hb, hu, hle, h1 => by
    simp only [List.length_cons] at hle
    have hst := store_cell (P := P) hb hu (o := o + i) (by omega) (h1 v (by simp))
    have hb' := heap_setCell_same (o := o + i) hb v
    obtain ⟨w', k1, k2, k3, k4, k5⟩ := run_storeCells_put t (i + 1) o (c.setIfInBounds (o + i) v) (w.setCell ⟨b, o + i, none⟩ v) hb' (by simpa using hu) (by simp; omega) (fun x hx => h1 x (by simp [hx]))
    refine ⟨w', ?_, ?_, k3, k4, k5⟩
    · simp only [storeCells, Sem.run_bind, add_zero', hst, Result.andThen, k1]
    · rw [k2]
      apply Array.ext_getElem?
      intro j
      simp only [Array.getElem?_setIfInBounds, putAt, Nat.add_assoc]
      by_cases e : b = j
      · simp [e, World.setCell]
      · simp only [if_neg e]
        exact Below.heap_setCell_ne e
where
  Below.heap_setCell_ne {w : World} {b j : Nat} {a : Nat} {v : Value} (e : b ≠ j) : (w.setCell ⟨b, a, none⟩ v).heap[j]? = w.heap[j]? := by
    simp only [World.setCell, Array.getElem?_modify, if_neg e]

/-- one block of the frame's own is written anew: what holds of the others stays -/
theorem sim_write {w w' : World} {g : Gh} {H : List Blk} {id b : Nat} {B B' : Blk} {o : Obj} (hs : Sim E w g H) (hid : H[id]? = some B) (hl : B.live = true) (hl' : B'.live = true)
    (hr : ∃ r ∈ g.own id, r.blk = b) (hh : w'.heap = w.heap.setIfInBounds b o) (h1 : w'.os = w.os) (h2 : w'.tape = w.tape) (h3 : w'.output = w.output)
    (hB : BlkR w' g id B') : Sim E w' g (H.set id B') ∧ Step w g H w' g (H.set id B') := by
  obtain ⟨r, hr1, hr2⟩ := hr
  have hlt : id < H.length := (List.getElem?_eq_some_iff.1 hid).1
  have hne : ∀ k, k ≠ b → w'.heap[k]? = w.heap[k]? := fun k hk => by rw [hh, Array.getElem?_setIfInBounds, if_neg (Ne.symm hk)]
  have hsz : w'.heap.size = w.heap.size := by rw [hh]; simp
  have hob : Owned g H b := ⟨id, B, hid, hl, r, hr1, hr2⟩
  have hrd : ∀ iv v, Rd w g.imm iv v → Rd w' g.imm iv v := fun iv v h => h.keep (fun _ h => h) (fun k hk => hne k (fun e => hs.imm b hob (e ▸ hk)))
  have hget : ∀ (j : Nat) (C : Blk), (H.set id B')[j]? = some C → (j = id ∧ C = B') ∨ (j ≠ id ∧ H[j]? = some C) := by
    intro j C h
    rw [List.getElem?_set] at h
    by_cases e : id = j
    · rw [if_pos e] at h; simp [hlt] at h; exact .inl ⟨e.symm, h.symm⟩
    · rw [if_neg e] at h; exact .inr ⟨fun e' => e e'.symm, h⟩
  have hown : ∀ k, Owned g (H.set id B') k → Owned g H k := by
    rintro k ⟨j, C, q1, q2, q, q3, q4⟩
    rcases hget j C q1 with ⟨rfl, rfl⟩ | ⟨_, q5⟩
    · exact ⟨j, B, hid, hl, q, q3, q4⟩
    · exact ⟨j, C, q5, q2, q, q3, q4⟩
  refine ⟨⟨?_, ?_, fun k hk => hs.imm k (hown k hk), fun k hk => by rw [hsz]; exact hs.lt k hk, fun j hj => hs.nil j (by simpa using hj), fun k cells hk => hrd _ _ (hs.glob k cells hk)⟩,
    ⟨h1, h2, h3, by omega, fun k _ hk => hne k (fun e => hk (e ▸ hob)), fun _ h => h, fun _ h => .inl h, fun k hk => .inl (hown k hk)⟩⟩
  · intro j C hj
    rcases hget j C hj with ⟨rfl, rfl⟩ | ⟨q, q5⟩
    · exact hB
    · refine (hs.blk j C q5).keep hrd (.refl g) rfl (fun hlc r' hr' => hne _ (fun e => q ?_))
      exact (hs.dis j C id B r' r q5 hlc hid hl hr' hr1 (e.trans hr2.symm)).1
  · intro j1 C1 j2 C2 q q' a1 a2 a3 a4 a5 a6 a7
    obtain ⟨D1, d1, d2⟩ : ∃ D, H[j1]? = some D ∧ D.live = true := by
      rcases hget j1 C1 a1 with ⟨rfl, rfl⟩ | ⟨_, q5⟩
      · exact ⟨B, hid, hl⟩
      · exact ⟨C1, q5, a2⟩
    obtain ⟨D2, e1, e2⟩ : ∃ D, H[j2]? = some D ∧ D.live = true := by
      rcases hget j2 C2 a3 with ⟨rfl, rfl⟩ | ⟨_, q5⟩
      · exact ⟨B, hid, hl⟩
      · exact ⟨C2, q5, a4⟩
    exact hs.dis j1 D1 j2 D2 q q' d1 d2 e1 e2 a5 a6 a7

theorem L2.splice {α β : Type} {R : α → β → Prop} {l : List α} {m : List β} {v : List α} {u : List β} (h : L2 R l m) (hv : L2 R v u) (o : Nat) : L2 R (splice l o v) (splice m o u) := by
  unfold Abs.splice
  exact (h.take o).append (hv.append (by rw [hv.1]; exact h.drop _))

theorem splice_len {α : Type} {l v : List α} {o : Nat} (h : o + v.length ≤ l.length) : (splice l o v).length = l.length := by
  simp only [splice, List.length_append, List.length_take, List.length_drop]; omega

theorem splice_get {α : Type} {l v : List α} {o : Nat} (h : o + v.length ≤ l.length) (k : Nat) : (splice l o v)[k]? = if k < o then l[k]? else if k < o + v.length then v[k - o]? else l[k]? := by
  simp only [splice, List.getElem?_append, List.length_take, Nat.min_eq_left (show o ≤ l.length by omega)]
  by_cases h1 : k < o
  · rw [if_pos h1, if_pos h1, List.getElem?_take, if_pos h1]
  · rw [if_neg h1, if_neg h1]
    by_cases h2 : k < o + v.length
    · rw [if_pos (by omega), if_pos h2]
    · rw [if_neg (by omega), if_neg h2, List.getElem?_drop]; congr 1; omega

theorem putAt_get {c : Array Value} {l : List Value} {o : Nat} (h : o + l.length ≤ c.size) (k : Nat) : (putAt c o l)[k]? = if k < o then c[k]? else if k < o + l.length then l[k - o]? else c[k]? := by
  rw [← Array.getElem?_toList, putAt_toList l c o h, splice_get (by simpa using h)]
  simp

theorem a1R_one {w : World} {g : Gh} {l : List A1} {m : List Value} (h : L2 (A1R w g) l m) : ∀ v ∈ m, v.oneCell' = true := by
  intro v hv
  obtain ⟨i, hi⟩ := List.getElem?_of_mem hv
  have hlt := (List.getElem?_eq_some_iff.1 hi).1
  have hli : i < l.length := by have := h.1; omega
  obtain ⟨b, hb, hr⟩ := h.2 i l[i] (List.getElem?_eq_getElem hli)
  rw [hi] at hb; simp at hb; subst hb
  exact A1R.oneCell hr

theorem storeVar_run (hT : TyOk P E) {t : Nat} {w : World} {a : Addr} {v : Value} (hpos : 0 < (E.td t).size) (hsz : v.cells.size = (E.td t).size) : (storeVar t a v).run P w = (storeCells a v.cells.toList).run P w := by
  simp only [storeVar, Sem.run_bind, run_sizeOf_td hT hpos w, Result.andThen, hsz, ne_eq, not_true_eq_false, if_false, Sem.run_ite]

theorem imms_map : ∀ l : List IV, imms (l.map .imm) = some l
  | [] => rfl
  | a :: l => by simp [imms, imms_map l]

theorem immsV_eq {v : AV} {vs : List IV} (h : immsV v = some vs) : imms v.cells = some vs := by
  cases v <;> simp_all [immsV, AV.cells, imms_map]

theorem aStore_sound (hT : TyOk P E) {w : World} {g : Gh} {H : List Blk} (hs : Sim E w g H) {t : Nat} {x y : AV} {v u : Value} (hx : AVR w g x v) (hy : AVR w g y u) {K : List Blk → Prop} (h : aStore E t x y H K) :
    ∃ H' a w', K H' ∧ v = .pointer (some a) ∧ (storeVar t a u).run P w = .ok () w' ∧ Sim E w' g H' ∧ Step w g H w' g H' := by
  unfold aStore at h
  split at h
  · rename_i id off
    obtain ⟨r, hr, rfl⟩ := hx
    split at h
    · rename_i l ot hl
      have hid := getD_get hl (by simp)
      split at h
      · rename_i hb1 hb2 hb0
        have hsz : y.cells.length = (E.td t).size := Nat.eq_of_beq_eq_true hb1
        have hle : off + y.cells.length ≤ l.length := Nat.le_of_ble_eq_true hb2
        obtain ⟨b, c, ty, fz, ho, hb, hu, hL, hty⟩ := hs.blk id _ hid
        rw [ho] at hr
        simp at hr
        subst hr
        have hpos : 0 < (E.td t).size := by simpa using hb0
        · have hcy := hy.cells (by intro e; rw [e] at hsz; simp at hsz; omega)
          have hcl : l.length = c.size := by simpa using hL.1
          have hul : u.cells.toList.length = y.cells.length := hcy.1.symm
          obtain ⟨w', k1, k2, k3, k4, k5⟩ := run_storeCells_put (P := P) u.cells.toList 0 off c w hb hu (by omega) (a1R_one hcy)
          rw [Nat.add_zero] at k2
          refine ⟨_, _, w', h, rfl, ?_, ?_⟩
          · rw [storeVar_run hT hpos (by rw [← hsz, ← hul]; simp)]; exact k1
          · have hbl : b < w.heap.size := blk_lt (hs.blk id _ hid) rfl (r := ⟨b, 0, 0, 1, l.length⟩) (by rw [ho]; simp)
            have hob : Owned g H b := ⟨id, _, hid, rfl, ⟨b, 0, 0, 1, l.length⟩, by rw [ho]; simp, rfl⟩
            have hrd : ∀ iv v, Rd w g.imm iv v → Rd w' g.imm iv v := fun iv v h => h.keep (fun _ h => h) (fun k hk => by rw [k2, Array.getElem?_setIfInBounds, if_neg (fun (e : b = k) => hs.imm b hob (e ▸ hk))])
            refine sim_write hs hid rfl rfl ⟨⟨b, 0, 0, 1, l.length⟩, by rw [ho]; simp, rfl⟩ k2 k3 k4 k5 ⟨b, putAt c off u.cells.toList, ty, fz, by rw [ho, splice_len hle], ?_, ?_, ?_, hty⟩
            · rw [k2, Array.getElem?_setIfInBounds, if_pos rfl, if_pos hbl]
            · rw [putAt_size]; exact hu
            · rw [putAt_toList _ _ _ (by omega)]
              exact (hL.splice hcy off).mono fun _ _ h => A1R.keep hrd (.refl g) h
      · exact h.elim
    · rename_i sz elems _ hl
      have hid := getD_get hl (by simp)
      split at h
      · rename_i vs hvs
        have hvs := immsV_eq hvs
        split at h
        · rename_i hb0
          obtain ⟨hsz, hpos0, hlen, hK⟩ := h
          have hoff : off = 0 := Nat.eq_of_beq_eq_true hb0
          subst hoff
          have hlv := (imms_get hvs).1
          have hpos : 0 < (E.td t).size := by omega
          obtain ⟨hes, r0, rs, ho, hn0, hg, hlt, hv⟩ := hs.blk id _ hid
          obtain ⟨hrs, hr0⟩ := hg rfl
          rw [ho, hrs] at hr
          simp at hr
          subst hr
          have hver := hv r (by simp)
          obtain ⟨c, ty, fz, hb, hu, hcs, _, hm⟩ := hver.mem
          have hcy := hy.cells (by intro e; rw [e] at hlv; simp at hlv; omega)
          have hiv := L2.imms hvs hcy
          have hul : u.cells.toList.length = vs.length := hiv.1.symm
          have hin : 0 + vs.length ≤ c.size := by
            rw [hcs, hlen, Nat.zero_add]
            exact Nat.mul_le_mul_right _ (by have := hver.cap; omega)
          obtain ⟨w', k1, k2, k3, k4, k5⟩ := run_storeCells_put (P := P) u.cells.toList 0 0 c w hb hu (by omega) (a1R_one hcy)
          rw [Nat.add_zero] at k2
          refine ⟨_, _, w', hK, rfl, ?_, ?_⟩
          · rw [storeVar_run hT hpos (by rw [← hsz, ← hul]; simp)]; exact k1
          · have hbl : r.blk < w.heap.size := blk_lt (hs.blk id _ hid) rfl (r := r) (by rw [ho]; simp)
            have hob : Owned g H r.blk := ⟨id, _, hid, rfl, r, by rw [ho]; simp, rfl⟩
            have hrd : ∀ iv v, Rd w g.imm iv v → Rd w' g.imm iv v := fun iv v h => h.keep (fun _ h => h) (fun k hk => by rw [k2, Array.getElem?_setIfInBounds, if_neg (fun (e : r.blk = k) => hs.imm _ hob (e ▸ hk))])
            refine sim_write hs hid rfl rfl ⟨r, by rw [ho]; simp, rfl⟩ k2 k3 k4 k5 ⟨fun e he => chunk_each _ _ _ hlen e he, r, [], by rw [ho, hrs], by rw [chunk_len]; exact hn0, fun _ => ⟨rfl, hr0⟩, by simp, fun v hv' => ?_⟩
            simp at hv'; subst hv'
            refine ⟨hver.hz, by rw [chunk_len]; exact hver.le, hver.st, hver.cap, _, ty, fz, by rw [k2, Array.getElem?_setIfInBounds, if_pos rfl, if_pos hbl], by rw [putAt_size]; exact hu, by rw [putAt_size]; exact hcs, (fun _ h => by cases h), fun i e h1 h2 he j x hj => ?_⟩
            rw [hr0, Nat.sub_zero, putAt_get (by omega), if_neg (by omega)]
            have hjs : j < sz := by rw [← chunk_each _ _ _ hlen e (List.mem_of_getElem? he)]; exact (List.getElem?_eq_some_iff.1 hj).1
            have hq := chunk_get _ _ _ i j e x he hj hjs
            have hql := (List.getElem?_eq_some_iff.1 hq).1
            rw [if_pos (by omega)]
            obtain ⟨q, q1, q2⟩ := hiv.2 _ _ hq
            exact ⟨q, by rw [← q1]; rfl, hrd _ _ q2⟩
        · exact h.elim
      · exact h.elim
    · exact h.elim
  · rename_i id idx sub
    obtain ⟨r, hr, hst, hn, rfl⟩ := hx
    split at h
    · rename_i sz elems _ hl
      have hid := getD_get hl (by simp)
      split at h
      · rename_i vs hvs
        split at h
        · rename_i hb1
          obtain ⟨hpos0, cells, hcells, hle, hK⟩ := h
          have hlv := (imms_get hvs).1
          have hsz : vs.length = (E.td t).size := Nat.eq_of_beq_eq_true hb1
          have hpos : 0 < (E.td t).size := by omega
          obtain ⟨hes, r0, rs, ho, hn0, hg, hlt, hv⟩ := hs.blk id _ hid
          obtain ⟨hrs, hr0⟩ := hg rfl
          rw [ho, hrs] at hr
          simp at hr
          subst hr
          have hver := hv r (by simp)
          obtain ⟨c, ty, fz, hb, hu, hcs, _, hm⟩ := hver.mem
          have hcl : cells.length = sz := hes _ (List.mem_of_getElem? hcells)
          have hcy := hy.cells (by intro e; rw [e] at hlv; simp at hlv; omega)
          have hiv := L2.imms hvs hcy
          have hul : u.cells.toList.length = vs.length := hiv.1.symm
          rw [hver.hz, hr0, Nat.sub_zero]
          have hidx : idx < elems.length := (List.getElem?_eq_some_iff.1 hcells).1
          have hin : idx * sz + sub + vs.length ≤ c.size := by
            rw [hcs]
            have : (idx + 1) * sz ≤ r.cap * sz := Nat.mul_le_mul_right _ (by have := hver.cap; omega)
            rw [Nat.add_mul] at this; omega
          obtain ⟨w', k1, k2, k3, k4, k5⟩ := run_storeCells_put (P := P) u.cells.toList 0 (idx * sz + sub) c w hb hu (by omega) (a1R_one hcy)
          rw [Nat.add_zero] at k2
          refine ⟨_, _, w', hK, rfl, ?_, ?_⟩
          · rw [storeVar_run hT hpos (by rw [← hsz, ← hul]; simp)]; exact k1
          · have hbl : r.blk < w.heap.size := blk_lt (hs.blk id _ hid) rfl (r := r) (by rw [ho]; simp)
            have hob : Owned g H r.blk := ⟨id, _, hid, rfl, r, by rw [ho]; simp, rfl⟩
            have hrd : ∀ iv v, Rd w g.imm iv v → Rd w' g.imm iv v := fun iv v h => h.keep (fun _ h => h) (fun k hk => by rw [k2, Array.getElem?_setIfInBounds, if_neg (fun (e : r.blk = k) => hs.imm _ hob (e ▸ hk))])
            refine sim_write hs hid rfl rfl ⟨r, by rw [ho]; simp, rfl⟩ k2 k3 k4 k5 ⟨fun e he => ?_, r, [], by rw [ho, hrs], by rw [List.length_set]; exact hn0, fun _ => ⟨rfl, hr0⟩, by simp, fun v hv' => ?_⟩
            · rcases List.mem_or_eq_of_mem_set he with he | rfl
              · exact hes e he
              · rw [splice_len hle, hcl]
            · simp at hv'; subst hv'
              refine ⟨hver.hz, by rw [List.length_set]; exact hver.le, hver.st, hver.cap, _, ty, fz, by rw [k2, Array.getElem?_setIfInBounds, if_pos rfl, if_pos hbl], by rw [putAt_size]; exact hu, by rw [putAt_size]; exact hcs, (fun _ h => by cases h), fun i e h1 h2 he j x hj => ?_⟩
              rw [hr0, Nat.sub_zero, putAt_get (by omega)]
              rw [List.getElem?_set] at he
              by_cases hi : idx = i
              · subst hi
                rw [if_pos rfl, if_pos hidx] at he
                simp only [Option.some.injEq] at he
                subst he
                rw [splice_get hle] at hj
                by_cases j1 : j < sub
                · rw [if_pos j1] at hj
                  rw [if_pos (by omega)]
                  obtain ⟨q, q1, q2⟩ := hm idx cells (by omega) (by omega) hcells j x hj
                  rw [hr0, Nat.sub_zero] at q1
                  exact ⟨q, q1, hrd _ _ q2⟩
                · rw [if_neg j1] at hj
                  rw [if_neg (by omega)]
                  by_cases j2 : j < sub + vs.length
                  · rw [if_pos j2] at hj
                    rw [if_pos (by omega)]
                    obtain ⟨q, q1, q2⟩ := hiv.2 _ _ hj
                    exact ⟨q, by rw [← q1]; congr 1; omega, hrd _ _ q2⟩
                  · rw [if_neg j2] at hj
                    rw [if_neg (by omega)]
                    obtain ⟨q, q1, q2⟩ := hm idx cells (by omega) (by omega) hcells j x hj
                    rw [hr0, Nat.sub_zero] at q1
                    exact ⟨q, q1, hrd _ _ q2⟩
              · rw [if_neg hi] at he
                obtain ⟨q, q1, q2⟩ := hm i e h1 h2 he j x hj
                rw [hr0, Nat.sub_zero] at q1
                have hjs : j < sz := by rw [← hes e (List.mem_of_getElem? he)]; exact (List.getElem?_eq_some_iff.1 hj).1
                refine ⟨q, ?_, hrd _ _ q2⟩
                rcases Nat.lt_or_gt_of_ne hi with h' | h'
                · have : (idx + 1) * sz ≤ i * sz := Nat.mul_le_mul_right _ h'
                  rw [Nat.add_mul] at this
                  rw [if_neg (by omega), if_neg (by omega)]; exact q1
                · have : (i + 1) * sz ≤ idx * sz := Nat.mul_le_mul_right _ h'
                  rw [Nat.add_mul] at this
                  rw [if_pos (by omega)]; exact q1
        · exact h.elim
      · exact h.elim
    · exact h.elim
  · exact h.elim

end
end Go.Abs

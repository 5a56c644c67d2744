/- The abstract evaluator: what a Go function of the model computes, told over an abstract heap (no tape, no capacities): definitions alone. -/
import GoSem.Step
namespace Bly
open Go

/-- Abstract values. 'any': some value of one cell; 'bad': any value at all. 'tup []' is the model's 'undef'. -/
inductive AV where
  | bool (b : Bool)
  | int (k : IntKind) (n : Int)
  | sym (i : Nat)
  | str (s : List AV)
  | ptr (b off : Nat)
  | nilp
  | slice (b off len esz : Nat)
  | nils
  | map (r : Nat)
  | nilm
  | fn (f : Nat) (cap : List AV)
  | yld (l : Nat)
  | nilf
  | nili
  | agg (cs : List AV)
  | tup (vs : List AV)
  | any
  | bad
  deriving Inhabited

/-! ### A trie -/
inductive T (α : Type) where
  | e
  | leaf (v : α)
  | node (l r : T α)
  deriving Inhabited

def T.get {α} : Nat → T α → Nat → Option α
  | 0, t, _ => match t with | .leaf v => some v | _ => none
  | d+1, t, k => match t with
    | .node l r => match k % 2 with | 0 => T.get d l (k/2) | _ => T.get d r (k/2)
    | _ => none
def T.set {α} : Nat → T α → Nat → Option α → T α
  | 0, _, _, v => match v with | some v => .leaf v | none => .e
  | d+1, t, k, v => match t with
    | .node l r => match k % 2 with | 0 => .node (T.set d l (k/2) v) r | _ => .node l (T.set d r (k/2) v)
    | _ => match k % 2 with | 0 => .node (T.set d .e (k/2) v) .e | _ => .node .e (T.set d .e (k/2) v)

def mkT {α β} (f : α → Option β) : List α → Nat → T β → T β
  | [], _, t => t
  | a :: l, i, t => mkT f l (i+1) (T.set 12 t i (f a))

/-! ### Lists -/
def nth {α} : List α → Nat → Option α
  | [], _ => none
  | a :: l, n => match n with | 0 => some a | n+1 => nth l n
def setNth {α} : List α → Nat → α → List α
  | [], _, _ => []
  | a :: l, n, v => match n with | 0 => v :: l | n+1 => a :: setNth l n v
/-- vs laid over l from place i on. -/
def over {α} : List α → Nat → List α → List α
  | l, 0, vs => vs ++ l.drop vs.length
  | a :: l, n+1, vs => a :: over l n vs
  | [], _, _ => []
/-- n copies of z, one behind the other. -/
def copies {α} : Nat → List α → List α
  | 0, _ => []
  | n+1, z => z ++ copies n z

/-! ### The heap -/
inductive AEx where
  | normal | exit (id : Nat) | goto (l : Nat) | ret
  deriving DecidableEq

/-- A frame's temporaries: those of number < n. -/
structure Tm where
  t : T AV
  n : Nat
def TD : Nat := 9
def Tm.rd (tm : Tm) (t : Nat) : AV := match Nat.blt t tm.n with | true => (tm.t.get TD t).getD (.tup []) | false => .tup []
def Tm.put (tm : Tm) (d : Nat) (v : AV) : Tm := match Nat.blt d tm.n with | true => ⟨tm.t.set TD d (some v), tm.n⟩ | false => tm
def Tm.putO (tm : Tm) (d : Option Nat) (v : AV) : Tm := match d with | some d => tm.put d v | none => tm

structure LoopR where
  state : LoopState
  pending : Option AEx
  fid : Nat
  tm : Tm
  params : List Nat
  assign : Code
  body : Code

/-- A map's entry bears its number of birth, as the model's does. -/
structure Ent where
  key : AV
  val : AV
  born : Nat
inductive AObj where
  /-- a row of n cells; 'rw': it may be written. -/
  | cells (cs : List AV) (n : Nat) (rw : Bool)
  | map (es : List Ent) (clock : Nat)
  | iter (m : Option Nat) (since : Nat) (seen : List Nat) (stepped : Nat)
  | loop (l : LoopR)

structure H where
  heap : T AObj
  next : Nat
def HD : Nat := 20
def HM : Nat := 1048576
def H.get (h : H) (b : Nat) : Option AObj := match Nat.blt b HM with | true => h.heap.get HD b | false => none
def H.put (h : H) (b : Nat) (o : AObj) : H := ⟨h.heap.set HD b (some o), h.next⟩
def H.kill (h : H) (b : Nat) : H := ⟨h.heap.set HD b none, h.next⟩
def H.new (h : H) (o : AObj) : Option (Nat × H) := match Nat.blt h.next HM with | true => some (h.next, ⟨h.heap.set HD h.next (some o), h.next + 1⟩) | false => none

/-! ### Types -/
inductive TK where
  | int (k : IntKind)
  | string
  | bool
  | slice (elem esz ebytes : Nat) (ezero : Option (List AV))
  | array (len elem esz : Nat) (eagg : Bool)
  | ptrArr (len : Nat)
  | ptr
  | func
  /-- each field: its offset, its cells, is it an aggregate -/
  | struct (fs : List (Nat × Nat × Bool))
  | map (kk : Nat) (ezero : Option AV)
  | other
structure TI where
  size : Nat
  agg : Bool
  zero : Option (List AV)
  zlen : Nat
  kind : TK

/-- May it lie in one cell? -/
def okCell : AV → Bool
  | .agg _ | .tup _ | .bad => false
  | _ => true
def cellsV : AV → Option (List AV)
  | .agg cs => some cs
  | .tup _ | .bad => none
  | v => some [v]
def byteAV (b : UInt8) : AV := .int .u8 b.toNat
def ofConst1 : Value → AV
  | .bool b => .bool b
  | .int k n => .int k n
  | .string s => .str (s.data.toList.map byteAV)
  | .pointer none => .nilp
  | .slice none 0 0 => .nils
  | .map none => .nilm
  | .nilFunc => .nilf
  | .nilIface => .nili
  | .agg _ | .tuple _ => .bad
  | _ => .any
def ofConst : Value → AV
  | .agg cs => if cs.toList.all (fun c => okCell (ofConst1 c)) then .agg (cs.toList.map ofConst1) else .bad
  | v => ofConst1 v

def isAggD : TypeDesc → Bool
  | .struct _ | .array _ _ => true
  | _ => false
def aggOf (P : Program) (t : TypeId) : Bool := match P.underlying t with | some d => isAggD d | none => false
def zeroOf (P : Program) (t : TypeId) : Option (List AV) := match P.info? t with
  | some i => match i.zero with | some v => cellsV (ofConst v) | none => none
  | none => none
def zero1Of (P : Program) (t : TypeId) : Option AV := match P.info? t with
  | some i => match i.zero with | some v => some (ofConst v) | none => none
  | none => none
/-- keys that the evaluator compares: 1 integers, 2 strings; 0: others. -/
def keyKind (P : Program) (t : TypeId) : Nat := match P.underlying t with | some (.int _) => 1 | some .string => 2 | _ => 0
def known (P : Program) (t : TypeId) : Bool := (P.info? t).isSome && (P.underlying t).isSome
def tkOf (P : Program) : TypeDesc → TK
  | .int k => .int k
  | .string => .string
  | .bool => .bool
  | .slice e => match known P e with | true => .slice e (P.cellsOf e) (P.bytesOf e) (zeroOf P e) | false => .other
  | .array n e => match known P e with | true => .array n e (P.cellsOf e) (aggOf P e) | false => .other
  | .pointer e => match P.underlying e with | some (.array n _) => .ptrArr n | _ => .ptr
  | .func _ _ _ => .func
  | .struct fs => match fs.toList.all fun f => known P f.type with | true => .struct (fs.toList.map fun f => (f.offset, P.cellsOf f.type, aggOf P f.type)) | false => .other
  | .map k e => match known P k && known P e with | true => .map (keyKind P k) (zero1Of P e) | false => .other
  | _ => .other
def tiOf (P : Program) (t : TypeId) : Option TI :=
  match P.info? t, P.underlying t with
  | some i, some d => some { size := i.size, agg := isAggD d, zero := zeroOf P t, zlen := ((zeroOf P t).getD []).length, kind := tkOf P d }
  | _, _ => none

/-- 'ng': so many package-level variables are told: block g is variable g's. -/
structure Env where
  ty : T TI
  fn : T Func
  ng : Nat
def mkEnv (P : Program) (ng : Nat) : Env := ⟨mkT (tiOf P) (List.range P.types.size) 0 .e, mkT some P.funcs.toList 0 .e, ng⟩
def Env.ti (E : Env) (t : Nat) : Option TI := match Nat.blt t 4096 with | true => E.ty.get 12 t | false => none
def Env.func (E : Env) (f : Nat) : Option Func := match Nat.blt f 4096 with | true => E.fn.get 12 f | false => none
def Env.tk (E : Env) (t : Nat) : TK := match E.ti t with | some ti => ti.kind | none => .other

/-! ### Numbers -/
def modOf : IntKind → Nat | .i8 | .u8 => 256 | .i16 | .u16 => 65536 | .i32 | .u32 => 4294967296 | _ => 18446744073709551616
def topOf : IntKind → Nat | .i8 => 128 | .u8 => 256 | .i16 => 32768 | .u16 => 65536 | .i32 => 2147483648 | .u32 => 4294967296 | .i64 => 9223372036854775808 | .u64 => 18446744073709551616
def wrapA (k : IntKind) (n : Int) : Int :=
  match n with
  | .ofNat m => match Nat.blt m (topOf k) with
    | true => .ofNat m
    | false => k.wrap (.ofNat m)
  | n => k.wrap n
def ieq : Int → Int → Bool
  | .ofNat a, .ofNat b => Nat.beq a b
  | .negSucc a, .negSucc b => Nat.beq a b
  | _, _ => false
def ilt : Int → Int → Bool
  | .ofNat a, .ofNat b => Nat.blt a b
  | .negSucc a, .negSucc b => Nat.blt b a
  | .negSucc _, .ofNat _ => true
  | .ofNat _, .negSucc _ => false
def bitsA (op : BinOp) (k : IntKind) (x y : Int) : Option Int :=
  let a := BitVec.ofInt k.bits x
  let b := BitVec.ofInt k.bits y
  match op with
  | .and => some (k.wrap (a &&& b).toNat)
  | .or => some (k.wrap (a ||| b).toNat)
  | .xor => some (k.wrap (a ^^^ b).toNat)
  | .andNot => some (k.wrap (a &&& ~~~b).toNat)
  | _ => none
def natOf : AV → Option Nat
  | .int _ (.ofNat n) => some n
  | _ => none

/-- Are two rows of bytes equal? none: it hangs on an unknown one. -/
def eqBytes : List AV → List AV → Option Bool
  | [], [] => some true
  | [], _ :: _ => some false
  | _ :: _, [] => some false
  | a :: l, b :: m =>
    match a, b with
    | .int _ a, .int _ b => match ieq a b with | true => eqBytes l m | false => some false
    | .sym i, .sym j => match Nat.beq i j with
      | true => eqBytes l m
      | false => match eqBytes l m with | some false => some false | _ => none
    | _, _ => match eqBytes l m with | some false => some false | _ => none

def intBin (op : BinOp) (k : IntKind) (a b : Int) : Option AV :=
  match op with
  | .add => some (.int k (wrapA k (a + b)))
  | .sub => some (.int k (wrapA k (a - b)))
  | .mul => some (.int k (wrapA k (a * b)))
  | .quo => match ieq b 0 with | true => none | false => some (.int k (wrapA k (a.tdiv b)))
  | .rem => match ieq b 0 with | true => none | false => some (.int k (a.tmod b))
  | .eql => some (.bool (ieq a b))
  | .neq => some (.bool (!ieq a b))
  | .lss => some (.bool (ilt a b))
  | .leq => some (.bool (!ilt b a))
  | .gtr => some (.bool (ilt b a))
  | .geq => some (.bool (!ilt a b))
  | .shl | .shr => none
  | op => match bitsA op k a b with | some n => some (.int k n) | none => none
def shiftBin (op : BinOp) (k : IntKind) (a b : Int) : Option AV :=
  match b with
  | .ofNat n => match op with
    | .shl => some (.int k (wrapA k (a * 2 ^ (min n k.bits))))
    | .shr => some (.int k (a.fdiv (2 ^ (min n k.bits))))
    | _ => none
  | _ => none
def strBin (op : BinOp) (a b : List AV) : Option AV :=
  match op with
  | .eql => match eqBytes a b with | some x => some (.bool x) | none => none
  | .neq => match eqBytes a b with | some x => some (.bool !x) | none => none
  | .add => match Nat.blt (a.length + b.length) 1099511627776 with | true => some (.str (a ++ b)) | false => none
  | _ => none
/-- '==' of a value and nil; of bools. -/
def ptrEq : AV → AV → Option Bool
  | .nilp, .nilp => some true | .nilp, .ptr _ _ => some false | .ptr _ _, .nilp => some false
  | _, _ => none
def nilEq (k : TK) (x y : AV) : Option Bool :=
  match k with
  | .ptr => ptrEq x y
  | .ptrArr _ => ptrEq x y
  | .slice _ _ _ _ => match x, y with
    | .nils, .nils => some true | .nils, .slice _ _ _ _ => some false | .slice _ _ _ _, .nils => some false
    | _, _ => none
  | .map _ _ => match x, y with
    | .nilm, .nilm => some true | .nilm, .map _ => some false | .map _, .nilm => some false
    | _, _ => none
  | .func => match x, y with
    | .nilf, .nilf => some true | .nilf, .fn _ _ => some false | .fn _ _, .nilf => some false | .nilf, .yld _ => some false | .yld _, .nilf => some false
    | _, _ => none
  | .bool => match x, y with
    | .bool a, .bool b => some (a == b)
    | _, _ => none
  | _ => none
def isShift : BinOp → Bool | .shl | .shr => true | _ => false
def binA (k : TK) (op : BinOp) (x y : AV) : Option AV :=
  match x, y with
  | .int i a, .int i' b => match isShift op with
    | true => shiftBin op i a b
    | false => if i = i' then intBin op i a b else none
  | .str a, .str b => strBin op a b
  | x, y => match op with
    | .eql => match nilEq k x y with | some b => some (.bool b) | none => none
    | .neq => match nilEq k x y with | some b => some (.bool !b) | none => none
    | _ => none
def unA (op : UnOp) (x : AV) : Option AV :=
  match op, x with
  | .not, .bool b => some (.bool !b)
  | .neg, .int k n => some (.int k (wrapA k (0 - n)))
  | .xor, .int k n => match bitsA .xor k (if k.signed then -1 else k.max) n with | some m => some (.int k m) | none => none
  | _, _ => none

/-! ### Operations -/
abbrev Res := Option (AV × H)
abbrev Caller := AV → List AV → H → Res
def retA (v : AV) (h : H) : Res := some (v, h)
def valA (v : Option AV) (h : H) : Res := match v with | some v => some (v, h) | none => none

def loadCellsA (h : H) (b off n : Nat) : Option (List AV) :=
  match h.get b with
  | some (.cells cs m _) => match Nat.ble (off + n) m with | true => some ((cs.drop off).take n) | false => none
  | _ => none
def load1A (h : H) (b off : Nat) : Option AV :=
  match h.get b with
  | some (.cells cs _ _) => nth cs off
  | _ => none
def loadA (h : H) (ti : TI) (a : AV) : Option AV :=
  match a with
  | .ptr b off => match ti.agg with
    | true => match loadCellsA h b off ti.size with | some cs => some (.agg cs) | none => none
    | false => load1A h b off
  | _ => none
def storeCellsA (h : H) (b off : Nat) (vs : List AV) (k : Nat) : Option H :=
  match h.get b with
  | some (.cells cs n true) => match Nat.ble (off + k) n with
    | true => some (h.put b (.cells (over cs off vs) n true))
    | false => none
  | _ => none
def storeA (h : H) (ti : TI) (a v : AV) : Option H :=
  match a with
  | .ptr b off => match cellsV v with
    | some vs => match Nat.beq vs.length ti.size with | true => storeCellsA h b off vs ti.size | false => none
    | none => none
  | _ => none
def boxA (v : AV) (h : H) : Res :=
  match cellsV v with
  | some cs => match h.new (.cells cs cs.length true) with | some (b, h) => some (.ptr b 0, h) | none => none
  | none => none
def allocA (ti : TI) (h : H) : Res :=
  match ti.zero with
  | some z => match h.new (.cells z ti.zlen true) with | some (b, h) => some (.ptr b 0, h) | none => none
  | none => none

def fillA (place : Nat → Option (Nat × Nat)) (n : Nat) (cells : List AV) : List (Nat × AV) → Option (List AV)
  | [] => some cells
  | (i, v) :: rest => match place i, cellsV v with
    | some (off, size), some vs => match Nat.beq vs.length size, Nat.ble (off + size) n with
      | true, true => fillA place n (over cells off vs) rest
      | _, _ => none
    | _, _ => none
def fieldPlaceA (fs : List (Nat × Nat × Bool)) (i : Nat) : Option (Nat × Nat) := match nth fs i with | some (o, s, _) => some (o, s) | none => none
def buildA (ti : TI) (parts : List (Nat × AV)) : Option AV :=
  match ti.zero with
  | some z => match ti.kind with
    | .struct fs => match fillA (fieldPlaceA fs) ti.zlen z parts with | some cs => some (.agg cs) | none => none
    | .array _ _ esz _ => match fillA (fun i => some (i * esz, esz)) ti.zlen z parts with | some cs => some (.agg cs) | none => none
    | _ => none
  | none => none
def buildSliceA (k : TK) (len : Nat) (parts : List (Nat × AV)) (h : H) : Res :=
  match k with
  | .slice _ esz _ (some z) => match Nat.beq z.length esz, Nat.blt 0 esz, Nat.ble (len * esz) 65536 with
    | true, true, true => match fillA (fun i => some (i * esz, esz)) (len * esz) (copies len z) parts with
      | some cs => match h.new (.cells cs (len * esz) true) with | some (b, h) => some (.slice b 0 len esz, h) | none => none
      | none => none
    | _, _, _ => none
  | _ => none
def makeSliceA (k : TK) (l c : AV) (h : H) : Res :=
  match k, natOf l, natOf c with
  | .slice _ esz eb (some z), some l, some c => match Nat.beq z.length esz, Nat.blt 0 esz, Nat.ble l c, Nat.ble (c * eb) 1099511627776, Nat.ble c 1099511627776 with
    | true, true, true, true, true => match h.new (.cells (copies c z) (c * esz) true) with | some (b, h) => some (.slice b 0 l esz, h) | none => none
    | _, _, _, _, _ => none
  | _, _, _ => none
def optNat (v : Option AV) (d : Nat) : Option Nat := match v with | none => some d | some v => natOf v
/-- lo ≤ hi ≤ mx ≤ len -/
def boundsA (len : Nat) (lo hi mx : Option AV) : Option (Nat × Nat) :=
  match optNat mx len with
  | some m => match optNat hi len, Nat.ble m len with
    | some h, true => match optNat lo 0, Nat.ble h m with
      | some l, true => match Nat.ble l h with | true => some (l, h) | false => none
      | _, _ => none
    | _, _ => none
  | none => none
def sliceA (h : H) (k : TK) (x : AV) (lo hi mx : Option AV) : Option AV :=
  if mx.isSome && hi.isNone then none else
  match k, x with
  | .array n _ esz _, .ptr b off => match boundsA n lo hi mx, h.get b with
    | some (l, u), some (.cells _ m _) => match Nat.ble (off + n * esz) m with | true => some (.slice b (off + l * esz) (u - l) esz) | false => none
    | _, _ => none
  | .slice _ esz _ _, .slice b off len esz' => match boundsA len lo hi mx, Nat.beq esz esz' with
    | some (l, h), true => some (.slice b (off + l * esz) (h - l) esz)
    | _, _ => none
  | .slice _ _ _ _, .nils => match boundsA 0 lo hi mx with | some _ => some .nils | none => none
  | .string, .str s => if mx.isSome then none else match boundsA s.length lo hi mx with
    | some (l, h) => some (.str ((s.drop l).take (h - l)))
    | none => none
  | _, _ => none
def fieldAddrA (k : TK) (x : AV) (f : Nat) : Option AV :=
  match k, x with
  | .struct fs, .ptr b off => match nth fs f with
    | some (o, s, _) => match Nat.blt 0 s with | true => some (.ptr b (off + o)) | false => none
    | none => none
  | _, _ => none
def partA (cs : List AV) (off n : Nat) (agg : Bool) : Option AV :=
  match agg with
  | true => match Nat.ble (off + n) cs.length with | true => some (.agg ((cs.drop off).take n)) | false => none
  | false => nth cs off
def fieldA (k : TK) (x : AV) (f : Nat) : Option AV :=
  match k, x with
  | .struct fs, .agg cs => match nth fs f with
    | some (o, s, a) => partA cs o s a
    | none => none
  | _, _ => none
def indexAddrA (k : TK) (x i : AV) : Option AV :=
  match natOf i with
  | some i => match k, x with
    | .slice _ esz _ _, .slice b off len esz' => match Nat.blt i len, Nat.beq esz esz' with | true, true => some (.ptr b (off + i * esz)) | _, _ => none
    | .array n _ esz _, .ptr b off => match Nat.blt i n with | true => some (.ptr b (off + i * esz)) | false => none
    | _, _ => none
  | none => none
def indexA (k : TK) (x i : AV) : Option AV :=
  match natOf i with
  | some i => match k, x with
    | .array n _ esz eagg, .agg cs => match Nat.blt i n with | true => partA cs (i * esz) esz eagg | false => none
    | .string, .str s => nth s i
    | _, _ => none
  | none => none
def isByte : AV → Bool
  | .int .u8 (.ofNat n) => Nat.blt n 256
  | .sym _ => true
  | _ => false
def convA (ks kd : TK) (sb db : Bool) (x : AV) (h : H) : Res :=
  match ks, kd, x with
  | .int _, .int k, .int _ n => some (.int k (wrapA k n), h)
  | .int .u8, .int .u8, .sym i => some (.sym i, h)
  | .string, .string, .str s => some (.str s, h)
  | .string, .slice _ _ _ _, .str s => match db with
    | true => match h.new (.cells s s.length true) with | some (b, h) => some (.slice b 0 s.length 1, h) | none => none
    | false => none
  | .slice _ _ _ _, .string, .nils => match sb with | true => some (.str [], h) | false => none
  | .slice _ _ _ _, .string, .slice b off n 1 => match sb with
    | true => match loadCellsA h b off n with | some s => (match s.all isByte with | true => some (.str s, h) | false => none) | none => none
    | false => none
  | _, _, _ => none
/-- Is it a slice of bytes? -/
def Env.bytes (E : Env) (k : TK) : Bool := match k with | .slice e 1 1 _ => (match E.tk e with | .int .u8 => true | _ => false) | _ => false

/-! ### Maps: an entry bears its number of birth, as the model's does -/
def keyEq (kk : Nat) (a b : AV) : Option Bool :=
  match kk, a, b with
  | 1, .int k x, .int k' y => if k = k' then some (ieq x y) else none
  | _, _, _ => none
/-- the place of a key, and its entry. -/
def findA (kk : Nat) (k : AV) : List Ent → Nat → Option (Option (Nat × Ent))
  | [], _ => some none
  | e :: l, i => match keyEq kk k e.key with | some true => some (some (i, e)) | some false => findA kk k l (i+1) | none => none
def goodKey (kk : Nat) (k : AV) : Bool := match kk, k with | 1, .int _ _ => true | _, _ => false
def entriesA (h : H) (m : AV) : Option (List Ent) :=
  match m with
  | .nilm => some []
  | .map r => match h.get r with | some (.map es _) => some es | _ => none
  | _ => none
def lookupA (k : TK) (m key : AV) (ok : Bool) (h : H) : Option AV :=
  match k, entriesA h m with
  | .map kk (some z), some es => match goodKey kk key, findA kk key es 0 with
    | true, some (some (_, e)) => some (match ok with | true => .tup [e.val, .bool true] | false => e.val)
    | true, some none => some (match ok with | true => .tup [z, .bool false] | false => z)
    | _, _ => none
  | _, _ => none
def mapUpdateA (k : TK) (m key v : AV) (h : H) : Option H :=
  match k, m with
  | .map kk _, .map r => match h.get r with
    | some (.map es c) => match goodKey kk key, findA kk key es 0 with
      | true, some none => some (h.put r (.map (es ++ [⟨key, v, c⟩]) (c + 1)))
      | true, some (some (i, e)) => some (h.put r (.map (setNth es i ⟨key, v, e.born⟩) c))
      | _, _ => none
    | _ => none
  | _, _ => none
def deleteA (k : TK) (m key : AV) (h : H) : Option H :=
  match k, m with
  | .map kk _, .nilm => match goodKey kk key with | true => some h | false => none
  | .map kk _, .map r => match h.get r with
    | some (.map es c) => match goodKey kk key, findA kk key es 0 with
      | true, some none => some h
      | true, some (some (i, _)) => some (h.put r (.map (es.take i ++ es.drop (i+1)) c))
      | _, _ => none
    | _ => none
  | _, _ => none
def rangeA (m : AV) (h : H) : Res :=
  match m with
  | .nilm => match h.new (.iter none 0 [] 0) with | some (b, h) => some (.ptr b 0, h) | none => none
  | .map r => match h.get r with
    | some (.map _ c) => match h.new (.iter (some r) c [] c) with | some (b, h) => some (.ptr b 0, h) | none => none
    | _ => none
  | _ => none
/-- One step over a map that has at most one entry left. -/
def nextA (it : AV) (h : H) : Res :=
  match it with
  | .ptr b 0 => match h.get b with
    | some (.iter none _ _ _) => some (.tup [.bool false], h)
    | some (.iter (some r) since seen last) => match h.get r with
      | some (.map es c) =>
        if !seen.isEmpty && !es.isEmpty && es.all (fun e => Nat.ble last e.born) then none else
        match es.filter (fun e => !seen.contains e.born) with
        | [] => some (.tup [.bool false], h)
        | [e] => match Nat.blt e.born since with
          | true => some (.tup [.bool true, e.key, e.val], h.put b (.iter (some r) since (seen ++ [e.born]) c))
          | false => none
        | _ => none
      | _ => none
    | _ => none
  | _ => none

/-! ### Builtins -/
/-- The cells that are appended, and how many elements. -/
def appendedA (k : TK) (xk : TK) (esz : Nat) (x : AV) (h : H) : Option (List AV × Nat) :=
  match xk, x with
  | .int _, .int _ (.ofNat n) => match k with
    | .slice _ _ _ (some z) => match Nat.beq z.length esz with | true => some (copies n z, n) | false => none
    | _ => none
  | .slice _ _ _ _, .nils => some ([], 0)
  | .slice _ _ _ _, .slice b off n esz' => match Nat.beq esz esz' with
    | true => match loadCellsA h b off (n * esz) with | some cs => some (cs, n) | none => none
    | false => none
  | .string, .str s => match Nat.beq esz 1 with | true => some (s, s.length) | false => none
  | _, _ => none
def appendA (k xk : TK) (s x : AV) (h : H) : Res :=
  match k with
  | .slice _ esz eb (some z) => match appendedA k xk esz x h, Nat.blt 0 esz, Nat.beq z.length esz, Nat.ble eb 65536 with
    | some (xs, n), true, true, true => match Nat.beq n 0 with
      | true => match s with | .nils => some (s, h) | .slice _ _ _ esz' => (match Nat.beq esz esz' with | true => some (s, h) | false => none) | _ => none
      | false => match s with
        | .nils => match Nat.ble n 1099511627776, Nat.ble (n * eb) 1099511627776 with
          | true, true => match h.new (.cells xs (n * esz) true) with | some (b, h) => some (.slice b 0 n esz, h) | none => none
          | _, _ => none
        | .slice b off m esz' => match h.get b with
          | some (.cells cs l true) => match Nat.beq esz esz', Nat.ble (off + m * esz) l, Nat.ble (m + n) 1099511627776, Nat.ble ((m + n) * eb) 1099511627776 with
            | true, true, true, true => match (h.kill b).new (.cells ((cs.drop off).take (m * esz) ++ xs) ((m + n) * esz) true) with | some (b, h) => some (.slice b 0 (m + n) esz, h) | none => none
            | _, _, _, _ => none
          | _ => none
        | _ => none
    | _, _, _, _ => none
  | _ => none
def lenA (k : TK) (x : AV) (h : H) : Option AV :=
  match k, x with
  | .slice _ _ _ _, .nils => some (.int .i64 0)
  | .slice _ _ _ _, .slice _ _ n _ => some (.int .i64 (.ofNat n))
  | .string, .str s => some (.int .i64 (.ofNat s.length))
  | .array n _ _ _, _ => some (.int .i64 (.ofNat n))
  | .ptrArr n, _ => some (.int .i64 (.ofNat n))
  | .map _ _, m => match entriesA h m with | some es => some (.int .i64 (.ofNat es.length)) | none => none
  | _, _ => none
def copyA (k : TK) (d s : AV) (h : H) : Res :=
  match k, d with
  | .slice _ esz _ _, .slice b off n esz' => match Nat.beq esz esz' with
    | true => match s with
      | .nils => some (.int .i64 0, h)
      | .slice b' off' n' esz'' => match Nat.beq esz esz'', loadCellsA h b' off' (min n' n * esz) with
        | true, some cs => match storeCellsA h b off cs (min n' n * esz) with | some h => some (.int .i64 (.ofNat (min n' n)), h) | none => none
        | _, _ => none
      | _ => none
    | false => none
  | .slice _ _ _ _, .nils => match s with | .nils | .slice _ _ _ _ => some (.int .i64 0, h) | _ => none
  | _, _ => none
def minMaxA (max : Bool) (x y : AV) : Option AV :=
  match x, y with
  | .int k a, .int _ b => some (.int k (match max with | true => (match ilt a b with | true => b | false => a) | false => (match ilt b a with | true => b | false => a)))
  | _, _ => none
def builtinA (E : Env) (b : Builtin) (ats : List Nat) (args : List AV) (h : H) : Res :=
  match args, ats with
  | [x], [t] => match b with | .len => valA (lenA (E.tk t) x h) h | _ => none
  | [x, y], [t, u] => match b with
    | .append => appendA (E.tk t) (E.tk u) x y h
    | .copy => copyA (E.tk t) x y h
    | .delete => match deleteA (E.tk t) x y h with | some h => some (.tup [], h) | none => none
    | .min => valA (minMaxA false x y) h
    | .max => valA (minMaxA true x y) h
    | _ => none
  | _, _ => none

/-! ### An operation -/
def rd (E : Env) (tm : Tm) : Operand → AV
  | .tmp t => tm.rd t
  | .const v => ofConst v
  | .global g => match Nat.blt g E.ng with | true => .ptr g 0 | false => .bad
  | .func f => .fn f []
def nilCheckA (x : AV) (h : H) : Res := match x with | .ptr b off => some (.ptr b off, h) | .fn f c => some (.fn f c, h) | .yld l => some (.yld l, h) | _ => none
def callOpA (E : Env) (call : Caller) (r : Operand → AV) (c : Call) (h : H) : Res :=
  match c.callee with
  | .value f => match r f with
    | .fn f cap => call (.fn f []) (c.args.toList.map r ++ cap) h
    | .yld l => call (.yld l) (c.args.toList.map r) h
    | _ => none
  | .builtin b => builtinA E b c.argTypes.toList (c.args.toList.map r) h
  | _ => none
def opA (E : Env) (call : Caller) (r : Operand → AV) (o : Oper) (h : H) : Res :=
  match o.op with
  | .move x => some (r x, h)
  | .assign x => some (r x, h)
  | .pick c a b => match r c with | .bool true => some (r a, h) | .bool false => some (r b, h) | _ => none
  | .alloc t => match E.ti t with | some ti => allocA ti h | none => none
  | .box _ x => boxA (r x) h
  | .build t parts => match E.ti t with | some ti => valA (buildA ti (parts.toList.map fun p => (p.1, r p.2))) h | none => none
  | .buildSlice t len parts => buildSliceA (E.tk t) len (parts.toList.map fun p => (p.1, r p.2)) h
  | .load t a => match E.ti t with | some ti => valA (loadA h ti (r a)) h | none => none
  | .store t a x => match E.ti t with | some ti => (match storeA h ti (r a) (r x) with | some h => some (.tup [], h) | none => none) | none => none
  | .nilCheck x => nilCheckA (r x) h
  | .binOp op t x y _ => valA (binA (E.tk t) op (r x) (r y)) h
  | .unOp op _ x => valA (unA op (r x)) h
  | .convert s d x => convA (E.tk s) (E.tk d) (E.bytes (E.tk s)) (E.bytes (E.tk d)) (r x) h
  | .makeFunc f first captured => match f, first.toList with | .func f, [] => some (.fn f (captured.toList.map r), h) | _, _ => none
  | .makeMap _ x => match x with | none => (match h.new (.map [] 0) with | some (b, h) => some (.map b, h) | none => none) | _ => none
  | .makeSlice t l c => makeSliceA (E.tk t) (r l) (r c) h
  | .slice t x lo hi mx => valA (sliceA h (E.tk t) (r x) (lo.map r) (hi.map r) (mx.map r)) h
  | .fieldAddr t x f => valA (fieldAddrA (E.tk t) (r x) f) h
  | .field t x f => valA (fieldA (E.tk t) (r x) f) h
  | .indexAddr t x i => valA (indexAddrA (E.tk t) (r x) (r i)) h
  | .index t x i => valA (indexA (E.tk t) (r x) (r i)) h
  | .lookup t x k ok => valA (lookupA (E.tk t) (r x) (r k) ok h) h
  | .mapUpdate t m k v => match mapUpdateA (E.tk t) (r m) (r k) (r v) h with | some h => some (.tup [], h) | none => none
  | .insert t m k v => match mapUpdateA (E.tk t) (r m) (r k) (r v) h with | some h => some (.tup [], h) | none => none
  | .range t x => match E.tk t with | .map _ _ => rangeA (r x) h | _ => none
  | .next it str => match str with | false => nextA (r it) h | true => none
  | .extract t i => match r t with | .tup vs => valA (nth vs i) h | _ => none
  | .call c => callOpA E call r c h
  | _ => none

/-! ### A region -/
def dstOf : List Oper → Nat → Option Nat
  | [], _ => none
  | o :: l, n => match n with | 0 => o.dst | n+1 => dstOf l n
/-- Is the operation wanted? -/
def wantA (all : List Oper) (o : Oper) (tm : Tm) : Bool :=
  match o.guard with
  | none => true
  | some (j, w) => match dstOf all j with
    | some t => match tm.rd t, w with | .bool true, true => true | .bool false, false => true | _, _ => false
    | none => false
/-- A guard's temporary must be told: a bool, or not written. -/
def guardTold (all : List Oper) (o : Oper) (tm : Tm) : Bool :=
  match o.guard with
  | none => true
  | some (j, _) => match dstOf all j with
    | some t => match Nat.blt t tm.n, tm.rd t with | true, .bool _ => true | true, .tup _ => true | _, _ => false
    | none => false
def stepA (E : Env) (call : Caller) (all : List Oper) (o : Oper) (tm : Tm) (h : H) : Res :=
  match guardTold all o tm with
  | true => match wantA all o tm with
    | true => opA E call (rd E tm) o h
    | false => some (.tup [], h)
  | false => none
def opsA (E : Env) (call : Caller) (all : List Oper) : List Oper → Tm → H → Option (Tm × H)
  | [], tm, h => some (tm, h)
  | o :: l, tm, h => match stepA E call all o tm h with
    | some (v, h) => opsA E call all l (tm.putO o.dst v) h
    | none => none
end Bly

/- The abstract evaluator, second part: a region that draws its order; code; calls. -/
import Derived.Test.YtgafbagehjmipaaBlyA
namespace Bly
open Go

/-! ### A region that draws its order: run in the list's order, with what must hold for every other order -/
/-- Operations whose run leaves the heap alone. -/
def quiet : Op → Bool
  | .move _ | .assign _ | .pick .. | .load .. | .nilCheck _ | .binOp .. | .unOp .. | .build .. | .makeFunc .. | .slice .. | .fieldAddr .. | .field .. | .indexAddr .. | .index .. | .lookup .. | .extract .. => true
  | .call { callee := .builtin .len, .. } | .call { callee := .builtin .min, .. } | .call { callee := .builtin .max, .. } => true
  | _ => false
/-- With its value: a conversion to a slice allocates; no other does. -/
def quietV (op : Op) (v : AV) : Bool := quiet op || (match op with | .convert _ _ _ => (match v with | .slice _ _ _ _ => false | _ => true) | _ => false)
/-- The temporaries that an operation reads. -/
def readsT (all : List Oper) (o : Oper) : List Nat :=
  (match o.guard with | some (j, _) => (dstOf all j).toList | none => []) ++ o.op.operands.toList.filterMap fun | .tmp t => some t | _ => none
/-- one operation's record: itself, its temporaries ahead, was it wanted, its value, the heap ahead -/
structure Rec where
  o : Oper
  tm : Tm
  run : Bool
  v : AV
  h : H
/-- is it loud (does it touch the heap)? -/
def Rec.loud (r : Rec) : Bool := r.run && !quietV r.o.op r.v
/-- of operation i's edges: bits of what must come before (all of them, also through others). -/
def befores : List Oper → List Nat → List Nat
  | [], acc => acc
  | o :: l, acc => befores l (acc ++ [o.after.toList.foldl (fun s e => if Region.binds .any e then Nat.lor s (Nat.lor (2 ^ e.on) (acc.getD e.on 0)) else s) 0])
def recsA (E : Env) (call : Caller) (all : List Oper) : List Oper → Tm → H → Option (List Rec × Tm × H)
  | [], tm, h => some ([], tm, h)
  | o :: l, tm, h => match stepA E call all o tm h with
    | some (v, h') => match recsA E call all l (tm.putO o.dst v) h' with
      | some (rs, tm', h'') => some (⟨o, tm, wantA all o tm, v, h⟩ :: rs, tm', h'')
      | none => none
    | none => none
mutual
def avEq : AV → AV → Bool
  | .bool a, .bool b => a == b
  | .int k a, .int l b => (if k = l then true else false) && ieq a b
  | .sym a, .sym b => Nat.beq a b
  | .ptr a b, .ptr c d => Nat.beq a c && Nat.beq b d
  | .nilp, .nilp => true
  | .slice a b c d, .slice e f g i => Nat.beq a e && Nat.beq b f && Nat.beq c g && Nat.beq d i
  | .nils, .nils => true
  | .map a, .map b => Nat.beq a b
  | .nilm, .nilm => true
  | .fn f c, .fn g d => Nat.beq f g && avsEq c d
  | .yld a, .yld b => Nat.beq a b
  | .nilf, .nilf => true
  | .nili, .nili => true
  | .agg c, .agg d => avsEq c d
  | .tup c, .tup d => avsEq c d
  | .str c, .str d => avsEq c d
  | _, _ => false
def avsEq : List AV → List AV → Bool
  | [], [] => true
  | a :: l, b :: m => avEq a b && avsEq l m
  | _, _ => false
end
/-- Loud ones follow one another; each temporary's writers and readers are in order; each quiet one gives its value at every heap at which its turn may come. -/
def bitOf (b : List Nat) (i j : Nat) : Bool := Nat.testBit (b.getD j 0) i
def orderedAll (all : List Oper) (b : List Nat) : Bool :=
  (List.range all.length).all fun j => (List.range j).all fun i =>
    match nth all i, nth all j with
    | some oi, some oj =>
      bitOf b i j ||
      ((match oi.dst with | some t => !(readsT all oj).contains t && !(oj.dst == some t) | none => true) &&
       (match oj.dst with | some t => !(readsT all oi).contains t | none => true))
    | _, _ => false
def edgesBack (all : List Oper) : Bool :=
  (List.range all.length).all fun j => match nth all j with
    | some o => o.after.toList.all fun e => !(Region.binds .any e) || Nat.blt e.on j
    | none => false
def loudChain (rs : List Rec) (b : List Nat) : Bool :=
  (List.range rs.length).all fun j => (List.range j).all fun i =>
    match nth rs i, nth rs j with
    | some ri, some rj => !ri.loud || !rj.loud || bitOf b i j
    | _, _ => false
/-- quiet record i, loud record j: either in order, or i gives its value at j's other side: at the heap ahead of j and behind it. -/
def quietFits (E : Env) (call : Caller) (rs : List Rec) (b : List Nat) (hend : H) : Bool :=
  (List.range rs.length).all fun i => match nth rs i with
    | some r => r.loud || !r.run || (List.range (rs.length + 1)).all fun k =>
        -- the heap ahead of k: may i's turn come there? not if a loud one at or behind k must come before i, nor if a loud one ahead of k must come behind i
        ((List.range rs.length).any fun j => match nth rs j with
          | some rj => rj.loud && ((Nat.ble k j && bitOf b j i) || (Nat.blt j k && bitOf b i j))
          | none => false) ||
        (let h := match nth rs k with | some rk => rk.h | none => hend
         match opA E call (rd E r.tm) r.o h with
         | some (v, _) => avEq v r.v
         | none => false)
    | none => false
def drawA (E : Env) (call : Caller) (ops : List Oper) (tm : Tm) (h : H) : Option (Tm × H) :=
  match recsA E call ops ops tm h with
  | some (rs, tm', h') =>
    let b := befores ops []
    match edgesBack ops, orderedAll ops b, loudChain rs b, quietFits E call rs b h' with
    | true, true, true, true => some (tm', h')
    | _, _, _, _ => none
  | none => none

/-! ### Code -/
abbrev CodeR := Tm → H → Option (AEx × Tm × H)
def loopA (body : CodeR) : Nat → CodeR
  | 0, _, _ => none
  | n+1, tm, h => match body tm h with
    | some (.normal, tm, h) => loopA body n tm h
    | r => r
def jumpOf : AEx → Option AEx | .normal => none | e => some e
def codeA (E : Env) (call : Caller) (fid : Nat) (fuel : Nat) : Code → CodeR
  | .skip, tm, h => some (.normal, tm, h)
  | .label _, tm, h => some (.normal, tm, h)
  | .region _ ops draw, tm, h => match draw with
    | true => match drawA E call ops.toList tm h with | some (tm, h) => some (.normal, tm, h) | none => none
    | false => match opsA E call ops.toList ops.toList tm h with | some (tm, h) => some (.normal, tm, h) | none => none
  | .seq a b, tm, h => match codeA E call fid fuel a tm h with
    | some (.normal, tm, h) => codeA E call fid fuel b tm h
    | r => r
  | .cond c a b, tm, h => match rd E tm c with
    | .bool true => codeA E call fid fuel a tm h
    | .bool false => codeA E call fid fuel b tm h
    | _ => none
  | .block id c, tm, h => match codeA E call fid fuel c tm h with
    | some (.exit id', tm, h) => match Nat.beq id' id with | true => some (.normal, tm, h) | false => some (.exit id', tm, h)
    | r => r
  | .loop c, tm, h => loopA (codeA E call fid fuel c) fuel tm h
  | .rangeFunc g ps as body, tm, h => match rd E tm g with
    | .fn f cap => match h.new (.loop ⟨.ready, none, fid, tm, ps.toList, as, body⟩) with
      | some (l, h) => match call (.fn f []) (.yld l :: cap) h with
        | some (_, h) => match h.get l with
          | some (.loop r) => match r.state with
            | .busy => none
            | _ => match r.pending with
              | none => some (.normal, tm, h.put l (.loop { r with state := .exhausted }))
              | some ex => some (ex, tm, h.put l (.loop { r with state := .exhausted }))
          | _ => none
        | none => none
      | none => none
    | _ => none
  | .exit id, tm, h => some (.exit id, tm, h)
  | .ret, tm, h => some (.ret, tm, h)
  | .goto l, tm, h => some (.goto l, tm, h)
  | .scope c, tm, h => match codeA E call fid fuel c tm h with
    | some (.goto _, _, _) => none
    | r => r
  | .refuse _, _, _ => none

def mkTm : List AV → Nat → T AV → T AV
  | [], _, t => t
  | a :: l, i, t => mkTm l (i+1) (t.set TD i (some a))
def resA (E : Env) (tm : Tm) (h : H) : List ResultVar → Option (List AV)
  | [] => some []
  | .tmp t :: l => match resA E tm h l with | some vs => some (tm.rd t :: vs) | none => none
  | .cell a t :: l => match E.ti t with
    | some ti => match loadA h ti (tm.rd a), resA E tm h l with
      | some v, some vs => some (v :: vs)
      | _, _ => none
    | none => none
def oneOf : List AV → AV
  | [v] => v
  | vs => .tup vs
def putAll : List Nat → List AV → Tm → Tm
  | p :: ps, a :: as, tm => putAll ps as (tm.put p a)
  | _, _, tm => tm
def roundA (E : Env) (call : Caller) (fuel : Nat) (l : Nat) (r : LoopR) (args : List AV) (h : H) : Res :=
  match Nat.beq args.length r.params.length, codeA E call r.fid fuel r.assign (putAll r.params args r.tm) h with
  | true, some (.normal, tm, h) => match h.get l with
    | some (.loop r1) => match r1.state with
      | .ready => match codeA E call r.fid fuel r.body tm (h.put l (.loop { r1 with state := .busy })) with
        | some (ex, _, h) => match h.get l with
          | some (.loop r2) => match jumpOf ex with
            | none => some (.bool true, h.put l (.loop { r2 with state := .ready, pending := none }))
            | some ex => some (.bool false, h.put l (.loop { r2 with state := .done, pending := some ex }))
          | _ => none
        | none => none
      | _ => none
    | _ => none
  | _, _ => none
/-- Some functions may be answered by a contract of theirs. -/
abbrev Orc := Nat → List AV → H → Option Res
def callA (E : Env) (orc : Orc) (fuel : Nat) : Nat → Caller
  | 0, _, _, _ => none
  | n+1, c, args, h => match c with
    | .fn f _ => match orc f args h with
      | some r => r
      | none => match E.func f with
        | some F => match F.body, Nat.ble F.ntmps 512, Nat.ble args.length F.ntmps with
          | some c, true, true => match codeA E (callA E orc fuel n) f fuel c ⟨mkTm args 0 .e, F.ntmps⟩ h with
            | some (ex, tm, h) => match ex with
              | .normal | .ret => match resA E tm h F.results.toList with | some vs => some (oneOf vs, h) | none => none
              | _ => none
            | none => none
          | _, _, _ => none
        | none => none
    | .yld l => match h.get l with
      | some (.loop r) => roundA E (callA E orc fuel n) fuel l r args h
      | _ => none
    | _ => none
def noOrc : Orc := fun _ _ _ => none
def isTrue : Res → Bool
  | some (.bool true, _) => true
  | _ => false
def H0 : H := ⟨.e, 0⟩
end Bly

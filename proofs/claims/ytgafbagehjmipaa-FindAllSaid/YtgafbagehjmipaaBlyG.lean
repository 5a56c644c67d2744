/- The evaluator, by rules: for a heap and for values that are not all known. -/
import Derived.Test.YtgafbagehjmipaaBlyU
namespace Bly
open Go

variable {E : Env} {call : Caller} {fid fuel : Nat}

def wpC (E : Env) (call : Caller) (fid fuel : Nat) (c : Code) (tm : Tm) (h : H) (Q : AEx → Tm → H → Prop) : Prop := ∃ ex tm' h', codeA E call fid fuel c tm h = some (ex, tm', h') ∧ Q ex tm' h'
def wpO (E : Env) (call : Caller) (all l : List Oper) (tm : Tm) (h : H) (Q : Tm → H → Prop) : Prop := ∃ tm' h', opsA E call all l tm h = some (tm', h') ∧ Q tm' h'
theorem wpO_nil {all : List Oper} {tm : Tm} {h : H} {Q : Tm → H → Prop} (hq : Q tm h) : wpO E call all [] tm h Q := ⟨tm, h, rfl, hq⟩
theorem wpO_cons {all l : List Oper} {o : Oper} {tm : Tm} {h h' : H} {v : AV} {Q : Tm → H → Prop} (hg : o.guard = none) (hs : opA E call (rd E tm) o h = some (v, h'))
    (hk : wpO E call all l (tm.putO o.dst v) h' Q) : wpO E call all (o :: l) tm h Q := by
  obtain ⟨tm', h'', h1, h2⟩ := hk
  refine ⟨tm', h'', ?_, h2⟩
  have : stepA E call all o tm h = some (v, h') := by unfold stepA guardTold wantA; rw [hg]; exact hs
  unfold opsA
  rw [this]; exact h1
theorem wpC_region {id : Nat} {ops : Array Oper} {tm : Tm} {h : H} {Q : AEx → Tm → H → Prop} (hk : wpO E call ops.toList ops.toList tm h (Q .normal)) : wpC E call fid fuel (.region id ops false) tm h Q := by
  obtain ⟨tm', h', h1, h2⟩ := hk
  exact ⟨.normal, tm', h', by simp only [codeA, h1], h2⟩
def seqQ (k : Tm → H → Prop) (Q : AEx → Tm → H → Prop) : AEx → Tm → H → Prop
  | .normal, tm, h => k tm h
  | ex, tm, h => Q ex tm h
theorem wpC_seq {a b : Code} {tm : Tm} {h : H} {Q : AEx → Tm → H → Prop} (hk : wpC E call fid fuel a tm h (seqQ (fun tm h => wpC E call fid fuel b tm h Q) Q)) : wpC E call fid fuel (.seq a b) tm h Q := by
  obtain ⟨ex, tm', h', h1, h2⟩ := hk
  cases ex with
  | normal =>
    obtain ⟨ex2, tm2, h3, h4, h5⟩ := h2
    exact ⟨ex2, tm2, h3, by simp only [codeA, h1, h4], h5⟩
  | _ => exact ⟨_, tm', h', by simp only [codeA, h1], h2⟩
theorem wpC_skip {tm : Tm} {h : H} {Q : AEx → Tm → H → Prop} (hq : Q .normal tm h) : wpC E call fid fuel .skip tm h Q := ⟨_, _, _, rfl, hq⟩
theorem wpC_label {l : Nat} {tm : Tm} {h : H} {Q : AEx → Tm → H → Prop} (hq : Q .normal tm h) : wpC E call fid fuel (.label l) tm h Q := ⟨_, _, _, rfl, hq⟩
theorem wpC_exit {id : Nat} {tm : Tm} {h : H} {Q : AEx → Tm → H → Prop} (hq : Q (.exit id) tm h) : wpC E call fid fuel (.exit id) tm h Q := ⟨_, _, _, rfl, hq⟩
theorem wpC_ret {tm : Tm} {h : H} {Q : AEx → Tm → H → Prop} (hq : Q .ret tm h) : wpC E call fid fuel .ret tm h Q := ⟨_, _, _, rfl, hq⟩
theorem wpC_cond {c : Operand} {a b : Code} {tm : Tm} {h : H} {Q : AEx → Tm → H → Prop} (t : Bool) (hc : rd E tm c = .bool t) (ha : t = true → wpC E call fid fuel a tm h Q) (hb : t = false → wpC E call fid fuel b tm h Q) :
    wpC E call fid fuel (.cond c a b) tm h Q := by
  cases t with
  | true => obtain ⟨ex, tm', h', h1, h2⟩ := ha rfl; exact ⟨ex, tm', h', by simp only [codeA, hc, h1], h2⟩
  | false => obtain ⟨ex, tm', h', h1, h2⟩ := hb rfl; exact ⟨ex, tm', h', by simp only [codeA, hc, h1], h2⟩
def blockQ (id : Nat) (Q : AEx → Tm → H → Prop) : AEx → Tm → H → Prop
  | .exit id', tm, h => if id' = id then Q .normal tm h else Q (.exit id') tm h
  | ex, tm, h => Q ex tm h
theorem wpC_block {id : Nat} {c : Code} {tm : Tm} {h : H} {Q : AEx → Tm → H → Prop} (hk : wpC E call fid fuel c tm h (blockQ id Q)) : wpC E call fid fuel (.block id c) tm h Q := by
  obtain ⟨ex, tm', h', h1, h2⟩ := hk
  cases ex with
  | exit id' =>
    by_cases e : id' = id
    · subst e
      simp only [blockQ, if_true] at h2
      exact ⟨_, tm', h', by simp only [codeA, h1, Nat.beq_refl], h2⟩
    · simp only [blockQ, e, if_false] at h2
      have hb : Nat.beq id' id = false := by rw [← Bool.not_eq_true]; exact fun hb => e (Nat.eq_of_beq_eq_true hb)
      exact ⟨_, tm', h', by simp only [codeA, h1, hb], h2⟩
  | _ => exact ⟨_, tm', h', by simp only [codeA, h1], h2⟩
theorem wpC_scope {c : Code} {tm : Tm} {h : H} {Q : AEx → Tm → H → Prop} (hk : wpC E call fid fuel c tm h (fun ex tm h => (∀ l, ex ≠ .goto l) ∧ Q ex tm h)) : wpC E call fid fuel (.scope c) tm h Q := by
  obtain ⟨ex, tm', h', h1, h2, h3⟩ := hk
  cases ex with
  | goto l => exact absurd rfl (h2 l)
  | _ => exact ⟨_, tm', h', by simp only [codeA, h1], h3⟩
/-- I n: at most n rounds more. -/
theorem wpC_loop {c : Code} {tm : Tm} {h : H} {Q : AEx → Tm → H → Prop} (I : Nat → Tm → H → Prop) (n : Nat) (hn : n < fuel) (h0 : I n tm h)
    (hk : ∀ n tm h, I n tm h → wpC E call fid fuel c tm h (seqQ (fun tm h => ∃ m, m < n ∧ I m tm h) Q)) : wpC E call fid fuel (.loop c) tm h Q := by
  have key : ∀ (f n : Nat) (tm : Tm) (h : H), n < f → I n tm h → ∃ ex tm' h', loopA (codeA E call fid fuel c) f tm h = some (ex, tm', h') ∧ Q ex tm' h' := by
    intro f
    induction f with
    | zero => intro n tm h hn; omega
    | succ f ih =>
      intro n tm h hn hI
      obtain ⟨ex, tm', h', h1, h2⟩ := hk n tm h hI
      cases ex with
      | normal =>
        obtain ⟨m, hm, hI'⟩ := h2
        obtain ⟨ex2, tm2, h3, h4, h5⟩ := ih m tm' h' (by omega) hI'
        exact ⟨ex2, tm2, h3, by simp only [loopA, h1, h4], h5⟩
      | _ => exact ⟨_, tm', h', by simp only [loopA, h1], h2⟩
  obtain ⟨ex, tm', h', h1, h2⟩ := key fuel n tm h hn h0
  exact ⟨ex, tm', h', by simp only [codeA, h1], h2⟩
theorem wpC_range {g : Operand} {ps : Array Tmp} {as body : Code} {tm : Tm} {h h1 h2 : H} {Q : AEx → Tm → H → Prop} {f l : Nat} {cap : List AV} {v : AV} {r : LoopR} (hg : rd E tm g = .fn f cap)
    (hn : h.new (.loop ⟨.ready, none, fid, tm, ps.toList, as, body⟩) = some (l, h1)) (hc : call (.fn f []) (.yld l :: cap) h1 = some (v, h2)) (hl : h2.get l = some (.loop r)) (hb : r.state ≠ .busy)
    (hq : Q (r.pending.getD .normal) tm (h2.put l (.loop { r with state := .exhausted }))) : wpC E call fid fuel (.rangeFunc g ps as body) tm h Q := by
  refine ⟨_, _, _, ?_, hq⟩
  cases hp : r.pending with
  | none => cases hs : r.state <;> first | exact absurd hs hb | simp only [codeA, hg, hn, hc, hl, hp, hs, Option.getD]
  | some ex => cases hs : r.state <;> first | exact absurd hs hb | simp only [codeA, hg, hn, hc, hl, hp, hs, Option.getD]
theorem wpC_mono {c : Code} {tm : Tm} {h : H} {Q Q' : AEx → Tm → H → Prop} (hk : wpC E call fid fuel c tm h Q) (hq : ∀ ex tm h, Q ex tm h → Q' ex tm h) : wpC E call fid fuel c tm h Q' :=
  let ⟨ex, tm', h', h1, h2⟩ := hk; ⟨ex, tm', h', h1, hq _ _ _ h2⟩

/-! ### Calls -/
def endQ (E : Env) (rs : List ResultVar) (R : AV → H → Prop) (ex : AEx) (tm : Tm) (h : H) : Prop := (ex = .normal ∨ ex = .ret) ∧ ∃ vs, resA E tm h rs = some vs ∧ R (oneOf vs) h
theorem call_eq {n f : Nat} {cap args : List AV} {h : H} {F : Func} {c : Code} {R : AV → H → Prop} (hf : E.func f = some F) (hb : F.body = some c) (h1 : Nat.ble F.ntmps 512 = true) (h2 : Nat.ble args.length F.ntmps = true)
    (hk : wpC E (callA E noOrc fuel n) f fuel c ⟨mkTm args 0 .e, F.ntmps⟩ h (endQ E F.results.toList R)) : ∃ v h', callA E noOrc fuel (n+1) (.fn f cap) args h = some (v, h') ∧ R v h' := by
  obtain ⟨ex, tm', h', h3, h4, vs, h5, h6⟩ := hk
  refine ⟨_, h', ?_, h6⟩
  rcases h4 with rfl | rfl <;> simp only [callA, noOrc, hf, hb, h1, h2, h3, h5]
theorem yield_eq {n l : Nat} {args : List AV} {h : H} {r : LoopR} {R : AV → H → Prop} (hl : h.get l = some (.loop r)) (ha : args.length = r.params.length)
    (hk : wpC E (callA E noOrc fuel n) r.fid fuel r.assign (putAll r.params args r.tm) h (seqQ (fun tm h => ∃ r1, h.get l = some (.loop r1) ∧ r1.state = .ready ∧
      wpC E (callA E noOrc fuel n) r.fid fuel r.body tm (h.put l (.loop { r1 with state := .busy })) (fun ex _ h => ∃ r2, h.get l = some (.loop r2) ∧
        match jumpOf ex with
        | none => R (.bool true) (h.put l (.loop { r2 with state := .ready, pending := none }))
        | some ex => R (.bool false) (h.put l (.loop { r2 with state := .done, pending := some ex })))) (fun _ _ _ => False))) :
    ∃ v h', callA E noOrc fuel (n+1) (.yld l) args h = some (v, h') ∧ R v h' := by
  obtain ⟨ex, tm1, h1, g1, g2⟩ := hk
  cases ex with
  | normal =>
    obtain ⟨r1, g3, g4, ex2, tm2, h2, g5, r2, g6, g7⟩ := g2
    have hlen : Nat.beq args.length r.params.length = true := by rw [ha]; exact Nat.beq_refl _
    cases hj : jumpOf ex2 with
    | none =>
      rw [hj] at g7
      exact ⟨_, _, by simp only [callA, hl, roundA, hlen, g1, g3, g4, g5, g6, hj], g7⟩
    | some ex3 =>
      rw [hj] at g7
      exact ⟨_, _, by simp only [callA, hl, roundA, hlen, g1, g3, g4, g5, g6, hj], g7⟩
  | _ => exact g2.elim

/-! ### Temporaries, heap -/
theorem rd_put' {tm : Tm} {d t : Nat} {v : AV} (hle : tm.n ≤ 512) : (tm.put d v).rd t = if t = d ∧ d < tm.n then v else tm.rd t := Tm.rd_put hle d v t
theorem n_put {tm : Tm} {d : Nat} {v : AV} : (tm.put d v).n = tm.n := Tm.put_n
def H.alc (h : H) (o : AObj) : H := ⟨T.set HD h.heap h.next (some o), h.next + 1⟩
theorem new_alc {h : H} {o : AObj} (hlt : h.next < HM) : h.new o = some (h.next, h.alc o) := by
  unfold H.new; rw [blt_true.2 hlt]; rfl
theorem get_alc {h : H} {o : AObj} (hlt : h.next < HM) (b : Nat) : (h.alc o).get b = if b = h.next then some o else h.get b := (H.new_eq (new_alc (o := o) hlt)).2.2.2 b
theorem next_alc {h : H} {o : AObj} : (h.alc o).next = h.next + 1 := rfl
theorem next_put {h : H} {b : Nat} {o : AObj} : (h.put b o).next = h.next := rfl
theorem next_kill {h : H} {b : Nat} : (h.kill b).next = h.next := rfl

/-! ### Operations, by rules -/
section
variable {o : Oper} {r : Operand → AV} {h h' : H} {v : AV}
theorem loadA_cell {ti : TI} {b off m : Nat} {cs : List AV} {w : Bool} (ha : ti.agg = false) (hg : h.get b = some (.cells cs m w)) (hn : nth cs off = some v) : loadA h ti (.ptr b off) = some v := by
  simp only [loadA, ha, load1A, hg, hn]
theorem op_load {t : Nat} {x : Operand} {ti : TI} (ho : o.op = .load t x) (ht : E.ti t = some ti) (hl : loadA h ti (r x) = some v) : opA E call r o h = some (v, h) := by
  simp only [opA, ho, ht, hl, valA]
theorem op_store {t : Nat} {x y : Operand} {ti : TI} (ho : o.op = .store t x y) (ht : E.ti t = some ti) (hl : storeA h ti (r x) (r y) = some h') : opA E call r o h = some (.tup [], h') := by
  simp only [opA, ho, ht, hl]
theorem storeA_cell {ti : TI} {b off m : Nat} {cs : List AV} (h1 : cellsV v = some [v]) (h2 : ti.size = 1) (hg : h.get b = some (.cells cs m true)) (hn : Nat.ble (off + 1) m = true) :
    storeA h ti (.ptr b off) v = some (h.put b (.cells (over cs off [v]) m true)) := by
  simp only [storeA, h1, h2, storeCellsA, hg, hn, List.length_cons, List.length_nil, Nat.zero_add, Nat.beq_refl]
theorem op_box {t : Nat} {x : Operand} {cs : List AV} (ho : o.op = .box t x) (hc : cellsV (r x) = some cs) (hlt : h.next < HM) : opA E call r o h = some (.ptr h.next 0, h.alc (.cells cs cs.length true)) := by
  simp only [opA, ho, boxA, hc, new_alc hlt]
theorem op_alloc {t : Nat} {ti : TI} {z : List AV} (ho : o.op = .alloc t) (ht : E.ti t = some ti) (hz : ti.zero = some z) (hlt : h.next < HM) : opA E call r o h = some (.ptr h.next 0, h.alc (.cells z ti.zlen true)) := by
  simp only [opA, ho, ht, allocA, hz, new_alc hlt]
theorem op_len {x : Operand} {t : Nat} {k : TK} {c : Call} (ho : o.op = .call c) (hc : c.callee = .builtin .len) (ha : c.args.toList = [x]) (hat : c.argTypes.toList = [t]) (ht : E.tk t = k) (hl : lenA k (r x) h = some v) :
    opA E call r o h = some (v, h) := by
  simp only [opA, ho, callOpA, hc, ha, hat, List.map, builtinA, ht, hl, valA]
theorem op_append {x y : Operand} {t u : Nat} {c : Call} (ho : o.op = .call c) (hc : c.callee = .builtin .append) (ha : c.args.toList = [x, y]) (hat : c.argTypes.toList = [t, u]) (hl : appendA (E.tk t) (E.tk u) (r x) (r y) h = some (v, h')) :
    opA E call r o h = some (v, h') := by
  simp only [opA, ho, callOpA, hc, ha, hat, List.map, builtinA, hl]
theorem op_slice {t : Nat} {x : Operand} {lo hi mx : Option Operand} (ho : o.op = .slice t x lo hi mx) (hl : sliceA h (E.tk t) (r x) (lo.map r) (hi.map r) (mx.map r) = some v) : opA E call r o h = some (v, h) := by
  simp only [opA, ho, hl, valA]
theorem op_indexAddr {t : Nat} {x i : Operand} (ho : o.op = .indexAddr t x i) (hl : indexAddrA (E.tk t) (r x) (r i) = some v) : opA E call r o h = some (v, h) := by
  simp only [opA, ho, hl, valA]
theorem op_fieldAddr {t f : Nat} {x : Operand} (ho : o.op = .fieldAddr t x f) (hl : fieldAddrA (E.tk t) (r x) f = some v) : opA E call r o h = some (v, h) := by
  simp only [opA, ho, hl, valA]
theorem op_bin {t u : Nat} {b : BinOp} {x y : Operand} (ho : o.op = .binOp b t x y u) (hl : binA (E.tk t) b (r x) (r y) = some v) : opA E call r o h = some (v, h) := by
  simp only [opA, ho, hl, valA]
theorem op_call {c : Call} {x : Operand} {f : Nat} {cap : List AV} (ho : o.op = .call c) (hc : c.callee = .value x) (hx : r x = .fn f cap) (hl : call (.fn f []) (c.args.toList.map r ++ cap) h = some (v, h')) : opA E call r o h = some (v, h') := by
  simp only [opA, ho, callOpA, hc, hx, hl]
theorem op_yield {c : Call} {x : Operand} {l : Nat} (ho : o.op = .call c) (hc : c.callee = .value x) (hx : r x = .yld l) (hl : call (.yld l) (c.args.toList.map r) h = some (v, h')) : opA E call r o h = some (v, h') := by
  simp only [opA, ho, callOpA, hc, hx, hl]
theorem op_buildSlice {t n esz eb : Nat} {e : Nat} {z cs : List AV} {ps : Array (Nat × Operand)} (ho : o.op = .buildSlice t n ps) (ht : E.tk t = .slice e esz eb (some z)) (h1 : Nat.beq z.length esz = true) (h2 : Nat.blt 0 esz = true) (h3 : Nat.ble (n * esz) 65536 = true)
    (hf : fillA (fun i => some (i * esz, esz)) (n * esz) (copies n z) (ps.toList.map fun p => (p.1, r p.2)) = some cs) (hlt : h.next < HM) : opA E call r o h = some (.slice h.next 0 n esz, h.alc (.cells cs (n * esz) true)) := by
  simp only [opA, ho, ht, buildSliceA, h1, h2, h3, hf, new_alc hlt]
end

/-! ### Slices of integers -/
abbrev slK (e eb : Nat) : TK := .slice e 1 eb (some [.int .i64 0])
/-- v holds these numbers. -/
structure SlAt (h : H) (v : AV) (b : Nat) (rw : Bool) (L : List Int) : Prop where
  off : ∃ off cs m, v = .slice b off L.length 1 ∧ h.get b = some (.cells cs m rw) ∧ off + L.length ≤ cs.length ∧ cs.length = m ∧ (cs.drop off).take L.length = L.map (.int .i64)
  lt : b < h.next
def Sl (h : H) (v : AV) (rw : Bool) (L : List Int) : Prop := (v = .nils ∧ L = []) ∨ ∃ b, SlAt h v b rw L
section
variable {h h' : H} {v : AV} {w : Bool} {L M : List Int} {e eb : Nat}
theorem Sl.len (hs : Sl h v w L) : lenA (slK e eb) v h = some (.int .i64 L.length) := by
  rcases hs with ⟨rfl, rfl⟩ | ⟨b, ⟨off, cs, m, rfl, _⟩, _⟩ <;> rfl
theorem SlAt.frame {b : Nat} (hs : SlAt h v b w L) (hb : h'.get b = h.get b) (hn : h.next ≤ h'.next) : SlAt h' v b w L := by
  obtain ⟨⟨off, cs, m, h1, h2, h3⟩, hlt⟩ := hs
  exact ⟨⟨off, cs, m, h1, hb.trans h2, h3⟩, by omega⟩
def blk : AV → Option Nat | .slice b _ _ _ => some b | _ => none
theorem SlAt.blk {b : Nat} (hs : SlAt h v b w L) : blk v = some b := by obtain ⟨⟨off, cs, m, rfl, _⟩, _⟩ := hs; rfl
theorem Sl.frame (hs : Sl h v w L) (hb : ∀ b, blk v = some b → h'.get b = h.get b) (hn : h.next ≤ h'.next) : Sl h' v w L := by
  rcases hs with hs | ⟨b, hs⟩
  · exact .inl hs
  · exact .inr ⟨b, hs.frame (hb b hs.blk) hn⟩
theorem Sl.blk_lt (hs : Sl h v w L) {b : Nat} (hb : blk v = some b) : b < h.next := by
  rcases hs with ⟨rfl, _⟩ | ⟨b', hs⟩
  · cases hb
  · have := hs.blk; rw [hb] at this; cases this; exact hs.lt
theorem nth_map_int {L : List Int} {i : Nat} (hi : i < L.length) {cs : List AV} {off : Nat} (he : (cs.drop off).take L.length = L.map (.int .i64)) : nth cs (off + i) = some (.int .i64 L[i]) := by
  rw [nth_eq]
  have h1 : ((cs.drop off).take L.length)[i]? = (L.map (AV.int .i64))[i]? := by rw [he]
  rw [List.getElem?_take, if_pos hi, List.getElem?_drop, List.getElem?_map, List.getElem?_eq_getElem hi] at h1
  simpa using h1
theorem Sl.idx (hs : Sl h v w L) {i : Nat} (hi : i < L.length) {k : IntKind} {ti : TI} (ha : ti.agg = false) : ∃ a, indexAddrA (slK e eb) v (.int k (.ofNat i)) = some a ∧ loadA h ti a = some (.int .i64 L[i]) := by
  rcases hs with ⟨rfl, rfl⟩ | ⟨b, ⟨off, cs, m, rfl, hg, hle, hm, he⟩, _⟩
  · simp at hi
  · refine ⟨.ptr b (off + i * 1), ?_, loadA_cell ha hg ?_⟩
    · simp only [indexAddrA, natOf, blt_true.2 hi, Nat.beq_refl]
    · rw [Nat.mul_one]; exact nth_map_int hi he
theorem take_drop_map {cs : List AV} {off n k : Nat} {L : List Int} (he : (cs.drop off).take n = L.map (.int .i64)) : (cs.drop (off + k)).take (n - k) = (L.drop k).map (.int .i64) := by
  rw [List.map_drop, ← he, List.drop_take, List.drop_drop]
theorem Sl.lo (hs : Sl h v w L) {n : Nat} (hn : n ≤ L.length) {k : IntKind} : ∃ v', sliceA h (slK e eb) v (some (.int k (.ofNat n))) none none = some v' ∧ Sl h v' w (L.drop n) ∧ blk v' = blk v := by
  rcases hs with ⟨rfl, rfl⟩ | ⟨b, ⟨off, cs, m, rfl, hg, hle, hm, he⟩, hlt⟩
  · have : n = 0 := by simpa using hn
    subst this
    exact ⟨.nils, rfl, .inl ⟨rfl, rfl⟩, rfl⟩
  · refine ⟨.slice b (off + n * 1) (L.length - n) 1, ?_, .inr ⟨b, ⟨off + n * 1, cs, m, by simp, hg, by simp; omega, hm, ?_⟩, hlt⟩, rfl⟩
    · have h1 := Nat.ble_eq_true_of_le hn
      have h2 : Nat.ble L.length L.length = true := Nat.ble_eq_true_of_le (Nat.le_refl _)
      simp only [sliceA, boundsA, optNat, natOf, h1, h2, Nat.beq_refl]
      rfl
    · rw [Nat.mul_one, List.length_drop]; exact take_drop_map he
theorem Sl.hi (hs : Sl h v w L) {n : Nat} (hn : n ≤ L.length) {k : IntKind} : ∃ v', sliceA h (slK e eb) v none (some (.int k (.ofNat n))) none = some v' ∧ Sl h v' w (L.take n) ∧ blk v' = blk v := by
  rcases hs with ⟨rfl, rfl⟩ | ⟨b, ⟨off, cs, m, rfl, hg, hle, hm, he⟩, hlt⟩
  · have : n = 0 := by simpa using hn
    subst this
    exact ⟨.nils, rfl, .inl ⟨rfl, rfl⟩, rfl⟩
  · refine ⟨.slice b (off + 0 * 1) (n - 0) 1, ?_, .inr ⟨b, ⟨off + 0 * 1, cs, m, by simp [Nat.min_eq_left hn], hg, by simp [Nat.min_eq_left hn]; omega, hm, ?_⟩, hlt⟩, rfl⟩
    · have h1 := Nat.ble_eq_true_of_le hn
      have h2 : Nat.ble L.length L.length = true := Nat.ble_eq_true_of_le (Nat.le_refl _)
      have h3 : Nat.ble 0 n = true := Nat.ble_eq_true_of_le (Nat.zero_le _)
      simp only [sliceA, boundsA, optNat, natOf, h1, h2, h3, Nat.beq_refl]
      rfl
    · simp only [Nat.zero_mul, Nat.add_zero, List.length_take, Nat.min_eq_left hn, List.map_take]
      rw [← he, List.take_take, Nat.min_eq_left hn]
theorem Sl.cells (hs : Sl h v w L) : appendedA (slK e eb) (slK e eb) 1 v h = some (L.map (.int .i64), L.length) := by
  rcases hs with ⟨rfl, rfl⟩ | ⟨b, ⟨off, cs, m, rfl, hg, hle, hm, he⟩, _⟩
  · rfl
  · have h1 := Nat.ble_eq_true_of_le (show off + L.length ≤ m by omega)
    simp only [appendedA, loadCellsA, hg, h1, Nat.mul_one, he]
/-- append, where what is appended to may be written: its block is let go. -/
theorem Sl.append {s x : AV} {wx : Bool} (hs : Sl h s true L) (hx : Sl h x wx M) (hlt : h.next < HM) (hsz : L.length + M.length ≤ 100000) (heb : eb ≤ 65536) :
    ∃ v h', appendA (slK e eb) (slK e eb) s x h = some (v, h') ∧ Sl h' v true (L ++ M) ∧ h.next ≤ h'.next ∧ h'.next ≤ h.next + 1 ∧ (∀ b, b < h.next → blk s ≠ some b → h'.get b = h.get b) ∧ (blk v = blk s ∨ blk v = some h.next) := by
  have h1 := hx.cells (e := e) (eb := eb)
  have hb1 : Nat.ble eb 65536 = true := Nat.ble_eq_true_of_le heb
  have hb2 : Nat.blt 0 1 = true := rfl
  have hmul : ∀ n : Nat, n ≤ 100000 → n * eb ≤ 1099511627776 := fun n hn => Nat.le_trans (Nat.mul_le_mul hn heb) (by decide)
  by_cases h0 : M.length = 0
  · have hM : M = [] := List.length_eq_zero_iff.1 h0
    subst hM
    refine ⟨s, h, ?_, by simpa using hs, Nat.le_refl _, by omega, fun _ _ _ => rfl, .inl rfl⟩
    rcases hs with ⟨rfl, rfl⟩ | ⟨b, ⟨off, cs, m, rfl, _⟩, _⟩
    · simp only [appendA, h1, hb1, hb2, List.length_cons, List.length_nil, Nat.zero_add, Nat.beq_refl]
    · simp only [appendA, h1, hb1, hb2, List.length_cons, List.length_nil, Nat.zero_add, Nat.beq_refl]
  · have hne : Nat.beq M.length 0 = false := by rw [← Bool.not_eq_true]; exact fun hb => h0 (Nat.eq_of_beq_eq_true hb)
    rcases hs with ⟨rfl, rfl⟩ | ⟨b, ⟨off, cs, m, rfl, hg, hle, hm, he⟩, hblt⟩
    · have g1 := Nat.ble_eq_true_of_le (show M.length ≤ 1099511627776 by simp at hsz; omega)
      have g2 := Nat.ble_eq_true_of_le (hmul M.length (by simpa using hsz))
      refine ⟨.slice h.next 0 M.length 1, h.alc (.cells (M.map (.int .i64)) (M.length * 1) true), ?_, .inr ⟨h.next, ⟨0, _, _, by simp, by rw [get_alc hlt, if_pos rfl], by simp, by simp, by rw [List.nil_append, List.drop_zero]; exact List.take_of_length_le (by simp)⟩, by rw [next_alc]; omega⟩, by rw [next_alc]; omega, by rw [next_alc]; omega, fun b hb _ => ?_, .inr rfl⟩
      · simp only [appendA, h1, hb1, hb2, hne, g1, g2, List.length_cons, List.length_nil, Nat.zero_add, Nat.beq_refl, new_alc hlt]
      · rw [get_alc hlt, if_neg (by omega)]
    · have g0 := Nat.ble_eq_true_of_le (show off + L.length * 1 ≤ m by omega)
      have g1 := Nat.ble_eq_true_of_le (show L.length + M.length ≤ 1099511627776 by omega)
      have g2 := Nat.ble_eq_true_of_le (hmul (L.length + M.length) hsz)
      have hlt' : (h.kill b).next < HM := hlt
      have hbm : b < HM := by omega
      refine ⟨.slice h.next 0 (L.length + M.length) 1, (h.kill b).alc (.cells ((cs.drop off).take (L.length * 1) ++ M.map (.int .i64)) ((L.length + M.length) * 1) true), ?_,
        .inr ⟨h.next, ⟨0, _, _, by simp, by rw [get_alc hlt', if_pos next_kill.symm], by simp; omega, by simp; omega, ?_⟩, by rw [next_alc, next_kill]; omega⟩, by rw [next_alc, next_kill]; omega, by rw [next_alc, next_kill]; omega, fun b' hb hne' => ?_, .inr rfl⟩
      · simp only [appendA, h1, hb1, hb2, hne, hg, g0, g1, g2, List.length_cons, List.length_nil, Nat.zero_add, Nat.beq_refl, new_alc hlt', next_kill]
      · rw [Nat.mul_one, he, List.drop_zero, List.map_append]; exact List.take_of_length_le (by simp)
      · have : b' ≠ b := fun e => hne' (by rw [e]; rfl)
        rw [get_alc hlt', if_neg (by rw [next_kill]; omega), H.get_kill hbm, if_neg this]
end

theorem wpO_do {all l : List Oper} {o : Oper} {tm : Tm} {h h' : H} {v : AV} {Q : Tm → H → Prop} (hg : guardTold all o tm = true) (hw : wantA all o tm = true) (hs : opA E call (rd E tm) o h = some (v, h'))
    (hk : wpO E call all l (tm.putO o.dst v) h' Q) : wpO E call all (o :: l) tm h Q := by
  obtain ⟨tm', h'', h1, h2⟩ := hk
  refine ⟨tm', h'', ?_, h2⟩
  have : stepA E call all o tm h = some (v, h') := by unfold stepA; rw [hg, hw]; exact hs
  unfold opsA
  rw [this]; exact h1
theorem wpO_skip {all l : List Oper} {o : Oper} {tm : Tm} {h : H} {Q : Tm → H → Prop} (hg : guardTold all o tm = true) (hw : wantA all o tm = false)
    (hk : wpO E call all l (tm.putO o.dst (.tup [])) h Q) : wpO E call all (o :: l) tm h Q := by
  obtain ⟨tm', h'', h1, h2⟩ := hk
  refine ⟨tm', h'', ?_, h2⟩
  have : stepA E call all o tm h = some (.tup [], h) := by unfold stepA; rw [hg, hw]
  unfold opsA
  rw [this]; exact h1
theorem Sl.cellsV {h : H} {v : AV} {w : Bool} {L : List Int} (hs : Sl h v w L) : cellsV v = some [v] := by
  rcases hs with ⟨rfl, rfl⟩ | ⟨b, ⟨off, cs, m, rfl, _⟩, _⟩ <;> rfl
theorem Sl.nil {h : H} {w : Bool} : Sl h .nils w [] := .inl ⟨rfl, rfl⟩
theorem min_nat {k : IntKind} {a b : Nat} : minMaxA false (.int k (.ofNat a)) (.int .i64 (b : Int)) = some (.int k (.ofNat (min a b))) := by
  show some (AV.int k (match ilt (Int.ofNat b) (Int.ofNat a) with | true => (b : Int) | false => .ofNat a)) = _
  rw [ilt_eq]
  by_cases h : b < a
  · have h1 : Int.ofNat b < Int.ofNat a := by simpa using h
    rw [decide_eq_true h1, Nat.min_eq_right (by omega)]
    rfl
  · have h1 : ¬ Int.ofNat b < Int.ofNat a := by simpa using h
    rw [decide_eq_false h1, Nat.min_eq_left (by omega)]
theorem op_min {o : Oper} {r : Operand → AV} {h : H} {v : AV} {x y : Operand} {t u : Nat} {c : Call} (ho : o.op = .call c) (hc : c.callee = .builtin .min) (ha : c.args.toList = [x, y]) (hat : c.argTypes.toList = [t, u]) (hl : minMaxA false (r x) (r y) = some v) :
    opA E call r o h = some (v, h) := by
  simp only [opA, ho, callOpA, hc, ha, hat, List.map, builtinA, hl, valA]
end Bly

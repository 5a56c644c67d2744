/- The relation between an abstract heap and a world of the model. -/
import Derived.Test.YtgafbagehjmipaaBlyB
import Derived.RangeFuncRecord
import Derived.Below
namespace Bly
open Go Go.RowKit

/-! ### The trie -/
theorem T.get_set {α} (d : Nat) : ∀ (t : T α) (k k' : Nat) (v : Option α), k < 2 ^ d → k' < 2 ^ d →
    (T.set d t k v).get d k' = if k' = k then v else t.get d k' := by
  induction d with
  | zero =>
    intro t k k' v hk hk'
    have h1 : k = 0 := by simpa using hk
    have h2 : k' = 0 := by simpa using hk'
    subst h1; subst h2
    cases v <;> simp [T.set, T.get]
  | succ d ih =>
    intro t k k' v hk hk'
    have e1 : k / 2 < 2 ^ d := by rw [Nat.pow_succ] at hk; omega
    have e2 : k' / 2 < 2 ^ d := by rw [Nat.pow_succ] at hk'; omega
    have hE : ∀ j, T.get d (T.e : T α) j = none := by intro j; cases d <;> rfl
    rcases Nat.mod_two_eq_zero_or_one k with h0 | h0 <;> rcases Nat.mod_two_eq_zero_or_one k' with h1 | h1
    · have hiff : (k' / 2 = k / 2) ↔ k' = k := by omega
      cases t <;> simp [T.set, T.get, h0, h1, ih _ _ _ _ e1 e2, hiff, hE]
    · have hne : k' ≠ k := by omega
      cases t <;> simp [T.set, T.get, h0, h1, hne, hE]
    · have hne : k' ≠ k := by omega
      cases t <;> simp [T.set, T.get, h0, h1, hne, hE]
    · have hiff : (k' / 2 = k / 2) ↔ k' = k := by omega
      cases t <;> simp [T.set, T.get, h0, h1, ih _ _ _ _ e1 e2, hiff, hE]

theorem blt_true {a b : Nat} : Nat.blt a b = true ↔ a < b := by simp [Nat.blt, Nat.ble_eq]; omega
theorem blt_false {a b : Nat} : Nat.blt a b = false ↔ ¬ a < b := by
  rw [← Bool.not_eq_true, blt_true]

theorem H.get_lt {h : H} {b : Nat} {o : AObj} (hg : h.get b = some o) : b < HM := by
  unfold H.get at hg; split at hg
  · exact blt_true.1 (by assumption)
  · cases hg
theorem HM_eq : HM = 2 ^ HD := rfl
theorem H.get_put {h : H} {b : Nat} {o : AObj} (hb : b < HM) (b' : Nat) : (h.put b o).get b' = if b' = b then some o else h.get b' := by
  unfold H.get H.put
  by_cases h' : b' < HM
  · rw [blt_true.2 h']; simp only
    rw [T.get_set HD _ _ _ _ hb h']
  · have : b' ≠ b := by omega
    rw [blt_false.2 h']; simp [this]
theorem H.get_kill {h : H} {b : Nat} (hb : b < HM) (b' : Nat) : (h.kill b).get b' = if b' = b then none else h.get b' := by
  unfold H.get H.kill
  by_cases h' : b' < HM
  · rw [blt_true.2 h']; simp only
    rw [T.get_set HD _ _ _ _ hb h']
  · have : b' ≠ b := by omega
    rw [blt_false.2 h']; simp [this]
theorem H.new_eq {h h' : H} {o : AObj} {b : Nat} (hn : h.new o = some (b, h')) : b = h.next ∧ h.next < HM ∧ h'.next = h.next + 1 ∧ ∀ b', h'.get b' = if b' = h.next then some o else h.get b' := by
  unfold H.new at hn; split at hn
  · rename_i hlt
    have hlt := blt_true.1 hlt
    simp only [Option.some.injEq, Prod.mk.injEq] at hn
    obtain ⟨rfl, rfl⟩ := hn
    refine ⟨rfl, hlt, rfl, fun b' => ?_⟩
    exact H.get_put (h := h) (o := o) hlt b'
  · cases hn
theorem H.put_next {h : H} {b : Nat} {o : AObj} : (h.put b o).next = h.next := rfl
theorem H.kill_next {h : H} {b : Nat} : (h.kill b).next = h.next := rfl

/-! ### Values -/
structure Pl where
  blk : Nat
  sh : Nat
  size : Nat
abbrev Phi := Nat → Option Pl
def bv (b : UInt8) : Value := .int .u8 b.toNat
def oneC : Value → Bool
  | .agg _ | .tuple _ => false
  | _ => true
def SliceOK (p : Pl) (off len esz : Nat) (a : Addr) (cap : Nat) : Prop :=
  (a = ⟨p.blk, p.sh + off, none⟩ ∧ len ≤ cap ∧ p.sh + off + cap * esz ≤ p.size) ∨ (len = 0 ∧ cap = 0)

mutual
inductive VR (φ : Phi) (ρ : Nat → UInt8) : AV → Value → Prop
  | bool (b) : VR φ ρ (.bool b) (.bool b)
  | int (k n) : VR φ ρ (.int k n) (.int k n)
  | sym (i) : VR φ ρ (.sym i) (.int .u8 (ρ i).toNat)
  | str {l} {s : ByteArray} (h : VRs φ ρ l (s.data.toList.map bv)) (hb : ∀ c ∈ l, isByte c = true) : VR φ ρ (.str l) (.string s)
  | ptr {b off p} (h : φ b = some p) : VR φ ρ (.ptr b off) (.pointer (some ⟨p.blk, p.sh + off, none⟩))
  | nilp : VR φ ρ .nilp (.pointer none)
  | slice {b off len esz p a cap} (h : φ b = some p) (hs : SliceOK p off len esz a cap) : VR φ ρ (.slice b off len esz) (.slice (some a) len cap)
  | nils : VR φ ρ .nils (.slice none 0 0)
  | map {r p} (h : φ r = some p) : VR φ ρ (.map r) (.map (some p.blk))
  | nilm : VR φ ρ .nilm (.map none)
  | fn {f cap cs} (h : VRs φ ρ cap cs) : VR φ ρ (.fn f cap) (.func (.func f) #[] cs.toArray)
  | yld {l p} (h : φ l = some p) : VR φ ρ (.yld l) (.func (.yield p.blk) #[] #[])
  | nilf : VR φ ρ .nilf .nilFunc
  | nili : VR φ ρ .nili .nilIface
  | agg {cs vs} (h : VRs φ ρ cs vs) (ho : ∀ c ∈ cs, okCell c = true) : VR φ ρ (.agg cs) (.agg vs.toArray)
  | tup {cs vs} (h : VRs φ ρ cs vs) : VR φ ρ (.tup cs) (.tuple vs.toArray)
  | any {v} (h : oneC v = true) : VR φ ρ .any v
  | bad (v) : VR φ ρ .bad v
inductive VRs (φ : Phi) (ρ : Nat → UInt8) : List AV → List Value → Prop
  | nil : VRs φ ρ [] []
  | cons {a v l m} (h : VR φ ρ a v) (t : VRs φ ρ l m) : VRs φ ρ (a :: l) (v :: m)
end

variable {φ φ' φ'' : Phi} {ρ : Nat → UInt8}
def PhiLe (φ φ' : Phi) : Prop := ∀ b p, φ b = some p → φ' b = some p
theorem PhiLe.refl (φ : Phi) : PhiLe φ φ := fun _ _ h => h
theorem PhiLe.trans (h : PhiLe φ φ') (k : PhiLe φ' φ'') : PhiLe φ φ'' := fun b p hb => k b p (h b p hb)

mutual
theorem VR.mono (hφ : PhiLe φ φ') : ∀ {a v}, VR φ ρ a v → VR φ' ρ a v
  | _, _, .bool b => .bool b
  | _, _, .int k n => .int k n
  | _, _, .sym i => .sym i
  | _, _, .str h hb => .str (VRs.mono hφ h) hb
  | _, _, .ptr h => .ptr (hφ _ _ h)
  | _, _, .nilp => .nilp
  | _, _, .slice h hs => .slice (hφ _ _ h) hs
  | _, _, .nils => .nils
  | _, _, .map h => .map (hφ _ _ h)
  | _, _, .nilm => .nilm
  | _, _, .fn h => .fn (VRs.mono hφ h)
  | _, _, .yld h => .yld (hφ _ _ h)
  | _, _, .nilf => .nilf
  | _, _, .nili => .nili
  | _, _, .agg h ho => .agg (VRs.mono hφ h) ho
  | _, _, .tup h => .tup (VRs.mono hφ h)
  | _, _, .any h => .any h
  | _, _, .bad v => .bad v
theorem VRs.mono (hφ : PhiLe φ φ') : ∀ {l m}, VRs φ ρ l m → VRs φ' ρ l m
  | _, _, .nil => .nil
  | _, _, .cons h t => .cons (VR.mono hφ h) (VRs.mono hφ t)
end

theorem VRs.length : ∀ {l m}, VRs φ ρ l m → l.length = m.length
  | _, _, .nil => rfl
  | _, _, .cons _ t => by simp [VRs.length t]
theorem VRs.append : ∀ {l m l' m'}, VRs φ ρ l m → VRs φ ρ l' m' → VRs φ ρ (l ++ l') (m ++ m')
  | _, _, _, _, .nil, h => h
  | _, _, _, _, .cons h t, h' => .cons h (VRs.append t h')
theorem VRs.take : ∀ (n : Nat) {l m}, VRs φ ρ l m → VRs φ ρ (l.take n) (m.take n)
  | 0, _, _, _ => by simpa using VRs.nil
  | _+1, _, _, .nil => by simpa using VRs.nil
  | n+1, _, _, .cons h t => by simpa using VRs.cons h (VRs.take n t)
theorem VRs.drop : ∀ (n : Nat) {l m}, VRs φ ρ l m → VRs φ ρ (l.drop n) (m.drop n)
  | 0, _, _, h => by simpa using h
  | _+1, _, _, .nil => by simpa using VRs.nil
  | n+1, _, _, .cons _ t => by simpa using VRs.drop n t
theorem VRs.nth : ∀ {l m} (_ : VRs φ ρ l m) {i a}, nth l i = some a → ∃ v, m[i]? = some v ∧ VR φ ρ a v
  | _, _, .nil, _, _, h => by simp [Bly.nth] at h
  | _, _, .cons h t, 0, _, e => by simp [Bly.nth] at e; subst e; exact ⟨_, rfl, h⟩
  | _, _, .cons h t, i+1, _, e => by simp [Bly.nth] at e; simpa using VRs.nth t e
theorem VRs.copies {l m} (h : VRs φ ρ l m) : ∀ n, VRs φ ρ (copies n l) (copies n m)
  | 0 => .nil
  | n+1 => h.append (VRs.copies h n)
theorem VRs.over : ∀ (i : Nat) {l m vs ws} (_ : VRs φ ρ l m) (_ : VRs φ ρ vs ws), VRs φ ρ (over l i vs) (over m i ws)
  | 0, _, _, _, _, h, k => by unfold Bly.over; rw [k.length]; exact k.append (h.drop _)
  | _+1, _, _, _, _, .nil, _ => by simpa [Bly.over] using VRs.nil
  | i+1, _, _, _, _, .cons h t, k => by simpa [Bly.over] using VRs.cons h (VRs.over i t k)
theorem VRs.setNth : ∀ (i : Nat) {l m a v} (_ : VRs φ ρ l m) (_ : VR φ ρ a v), VRs φ ρ (setNth l i a) (setNth m i v)
  | _, _, _, _, _, .nil, _ => by simpa [Bly.setNth] using VRs.nil
  | 0, _, _, _, _, .cons h t, k => by simpa [Bly.setNth] using VRs.cons k t
  | i+1, _, _, _, _, .cons h t, k => by simpa [Bly.setNth] using VRs.cons h (VRs.setNth i t k)
theorem VRs.map {α} (f : α → AV) (g : α → Value) (h : ∀ x, VR φ ρ (f x) (g x)) : ∀ l : List α, VRs φ ρ (l.map f) (l.map g)
  | [] => .nil
  | x :: l => .cons (h x) (VRs.map f g h l)
theorem nth_eq {α} : ∀ (l : List α) (i : Nat), nth l i = l[i]?
  | [], i => by simp [nth]
  | a :: l, 0 => by simp [nth]
  | a :: l, i+1 => by simp [nth, nth_eq l i]
theorem over_length {α} : ∀ (l : List α) (i : Nat) (vs : List α), i + vs.length ≤ l.length → (over l i vs).length = l.length
  | l, 0, vs, h => by unfold over; simp at *; omega
  | a :: l, i+1, vs, h => by simp [over] at *; rw [over_length l i vs (by omega)]
  | [], i+1, vs, h => by simp at h
theorem over_mem {α} : ∀ (l : List α) (i : Nat) (vs : List α) (x : α), x ∈ over l i vs → x ∈ l ∨ x ∈ vs
  | l, 0, vs, x, h => by
    unfold over at h; rcases List.mem_append.1 h with h | h
    · exact .inr h
    · exact .inl (List.mem_of_mem_drop h)
  | a :: l, i+1, vs, x, h => by
    simp [over] at h; rcases h with h | h
    · exact .inl (by simp [h])
    · rcases over_mem l i vs x h with h | h
      · exact .inl (by simp [h])
      · exact .inr h
  | [], i+1, vs, x, h => by simp [over] at h
theorem copies_length {α} : ∀ (n : Nat) (z : List α), (copies n z).length = n * z.length
  | 0, _ => by simp [copies]
  | n+1, z => by simp [copies, copies_length n z, Nat.succ_mul]; omega
theorem copies_mem {α} : ∀ (n : Nat) (z : List α) (x : α), x ∈ copies n z → x ∈ z
  | 0, _, _, h => by simp [copies] at h
  | n+1, z, x, h => by simp [copies] at h; rcases h with h | h; exact h; exact copies_mem n z x h

theorem VR.one {a v} (h : VR φ ρ a v) (ho : okCell a = true) : oneC v = true := by
  cases h <;> simp_all [okCell, oneC]
theorem VR.undef : VR φ ρ (.tup []) Go.undef := .tup .nil
theorem VR.undef_inv {v} (h : VR φ ρ (.tup []) v) : v = Go.undef := by
  cases h with
  | tup h => cases h; rfl
/-- A value's cells. -/
theorem VR.cells {a v cs} (h : VR φ ρ a v) (hc : cellsV a = some cs) : VRs φ ρ cs v.cells.toList ∧ ∀ c ∈ cs, okCell c = true := by
  cases h with
  | agg h ho => simp [cellsV] at hc; subst hc; exact ⟨by simpa [Value.cells] using h, ho⟩
  | tup h => simp [cellsV] at hc
  | bad v => simp [cellsV] at hc
  | any ho =>
    simp [cellsV] at hc; subst hc
    have : v.cells = #[v] := by cases v <;> simp_all [oneC, Value.cells]
    rw [this]; exact ⟨.cons (.any ho) .nil, by simp [okCell]⟩
  | _ => simp [cellsV] at hc; subst hc; exact ⟨.cons (by constructor <;> assumption) .nil, by simp [okCell]⟩

/-! ### Objects and worlds -/
def CellsAt (w : World) (p : Pl) (rw : Bool) (c : Array Value) : Prop :=
  ∃ e fr, w.heap[p.blk]? = some (.cells c e fr) ∧ c.size = p.size ∧ (rw = true → ∀ i, i < c.size → ¬ (fr.1 ≤ i ∧ i < fr.2))
structure EntR (φ : Phi) (ρ : Nat → UInt8) (e : Ent) (m : MapEntry) : Prop where
  key : VR φ ρ e.key m.key
  val : VR φ ρ e.val m.val
  born : e.born = m.born
def EntsR (φ : Phi) (ρ : Nat → UInt8) : List Ent → List MapEntry → Prop
  | [], [] => True
  | e :: l, m :: k => EntR φ ρ e m ∧ EntsR φ ρ l k
  | _, _ => False
structure TR (φ : Phi) (ρ : Nat → UInt8) (tm : Tm) (tmps : Array Value) : Prop where
  size : tmps.size = tm.n
  le : tm.n ≤ 512
  rd : ∀ t, VR φ ρ (tm.rd t) (tmps.getD t Go.undef)
def exCode : AEx → Code
  | .normal => .skip
  | .exit id => .exit id
  | .goto l => .goto l
  | .ret => .ret
structure LoopOK (φ : Phi) (ρ : Nat → UInt8) (r : LoopR) (lr : Loop) : Prop where
  state : lr.state = r.state
  pending : lr.pending = r.pending.map exCode
  tm : TR φ ρ r.tm lr.tmps
  params : lr.params.toList = r.params
  assign : lr.assign = r.assign
  body : lr.body = r.body
def OR (φ : Phi) (ρ : Nat → UInt8) (w : World) (p : Pl) : AObj → Prop
  | .cells cs n rw => cs.length = n ∧ p.sh + n ≤ p.size ∧ (∀ c ∈ cs, okCell c = true) ∧ ∃ c, CellsAt w p rw c ∧ VRs φ ρ cs ((c.toList.drop p.sh).take n)
  | .map es clock => ∃ en, w.heap[p.blk]? = some (.map en clock) ∧ EntsR φ ρ es en.toList
  | .iter m since seen last => ∃ mm, w.heap[p.blk]? = some (.mapIter mm since seen.toArray last) ∧ p.sh = 0 ∧
      (match m with | none => mm = none | some r => ∃ q, φ r = some q ∧ mm = some q.blk)
  | .loop r => ∃ lr, w.heap[p.blk]? = some (.loop lr) ∧ LoopOK φ ρ r lr
def AObj.rw : AObj → Bool
  | .cells _ _ b => b
  | _ => true
/-- 'B': no block below B is written. 'ng': the package-level variables that are told. -/
structure WR (B ng : Nat) (φ : Phi) (ρ : Nat → UInt8) (h : H) (w : World) : Prop where
  obj : ∀ b o, h.get b = some o → ∃ p, φ b = some p ∧ OR φ ρ w p o ∧ (o.rw = true → B ≤ p.blk)
  inj : ∀ b b' o o' p p', h.get b = some o → h.get b' = some o' → φ b = some p → φ b' = some p' → o.rw = true → p.blk = p'.blk → b = b'
  dom : ∀ b, h.next ≤ b → φ b = none
  lt : ∀ b p, φ b = some p → p.blk < w.heap.size
  low : B ≤ w.heap.size
  glob : ∀ g, g < ng → ∃ s, φ g = some ⟨g, 0, s⟩
/-- From (φ, w) to (φ', w'). -/
structure Step (B : Nat) (φ : Phi) (w : World) (φ' : Phi) (w' : World) : Prop where
  ext : PhiLe φ φ'
  img : ∀ b p, φ' b = some p → (∃ b0 p0, φ b0 = some p0 ∧ p0.blk = p.blk) ∨ w.heap.size ≤ p.blk
  low : Below B w w'
  frame : ∀ k, k < w.heap.size → (∀ b p, φ b = some p → p.blk ≠ k) → w'.heap[k]? = w.heap[k]?
  loops : ∀ (k : Nat) (r : Loop), w.heap[k]? = some (Obj.loop r) → ∃ r' : Loop, w'.heap[k]? = some (Obj.loop r')
theorem Step.refl (B : Nat) (φ : Phi) (w : World) : Step B φ w φ w :=
  ⟨.refl φ, fun b p h => .inl ⟨b, p, h, rfl⟩, .refl B w, fun _ _ _ => rfl, fun _ r h => ⟨r, h⟩⟩
theorem Step.trans {B : Nat} {w w' w'' : World} (h : Step B φ w φ' w') (k : Step B φ' w' φ'' w'') : Step B φ w φ'' w'' := by
  refine ⟨h.ext.trans k.ext, fun b p hb => ?_, h.low.trans k.low, fun i hi hn => ?_, fun i r hr => let ⟨r1, h1⟩ := h.loops i r hr; k.loops i r1 h1⟩
  · rcases k.img b p hb with ⟨b0, p0, h0, e0⟩ | hge
    · rcases h.img b0 p0 h0 with ⟨b1, p1, h1, e1⟩ | hge
      · exact .inl ⟨b1, p1, h1, e1.trans e0⟩
      · exact .inr (by omega)
    · exact .inr (Nat.le_trans h.low.size hge)
  · rw [k.frame i (Nat.lt_of_lt_of_le hi h.low.size), h.frame i hi hn]
    intro b p hb e
    rcases h.img b p hb with ⟨b0, p0, h0, e0⟩ | hge
    · exact hn b0 p0 h0 (e0.trans e)
    · omega
theorem TR.mono {tm tmps} (hφ : PhiLe φ φ') (h : TR φ ρ tm tmps) : TR φ' ρ tm tmps := ⟨h.size, h.le, fun t => (h.rd t).mono hφ⟩
theorem LoopOK.mono {r lr} (hφ : PhiLe φ φ') (h : LoopOK φ ρ r lr) : LoopOK φ' ρ r lr := ⟨h.state, h.pending, h.tm.mono hφ, h.params, h.assign, h.body⟩
theorem EntsR.mono (hφ : PhiLe φ φ') : ∀ {l m}, EntsR φ ρ l m → EntsR φ' ρ l m
  | [], [], _ => trivial
  | [], _ :: _, h => h.elim
  | _ :: _, [], h => h.elim
  | _ :: _, _ :: _, ⟨h, t⟩ => ⟨⟨h.key.mono hφ, h.val.mono hφ, h.born⟩, EntsR.mono hφ t⟩
theorem CellsAt.of_same {w w' : World} {p : Pl} {rw : Bool} {c} (e : w'.heap[p.blk]? = w.heap[p.blk]?) (h : CellsAt w p rw c) : CellsAt w' p rw c := by
  obtain ⟨e', fr, h1, h2, h3⟩ := h; exact ⟨e', fr, e.trans h1, h2, h3⟩
theorem OR.keep {w w' : World} {p : Pl} (hφ : PhiLe φ φ') (e : w'.heap[p.blk]? = w.heap[p.blk]?) : ∀ {o}, OR φ ρ w p o → OR φ' ρ w' p o
  | .cells _ _ _, ⟨h1, h2, h3, c, h4, h5⟩ => ⟨h1, h2, h3, c, h4.of_same e, h5.mono hφ⟩
  | .map _ _, ⟨en, h1, h2⟩ => ⟨en, e.trans h1, h2.mono hφ⟩
  | .iter m _ _ _, ⟨mm, h1, hs, h2⟩ => ⟨mm, e.trans h1, hs, by cases m with | none => exact h2 | some r => obtain ⟨q, hq, h3⟩ := h2; exact ⟨q, hφ _ _ hq, h3⟩⟩
  | .loop _, ⟨lr, h1, h2⟩ => ⟨lr, e.trans h1, h2.mono hφ⟩

section
variable {B ng : Nat} {h h' : H} {w w' : World}

theorem WR.cellsAt (hw : WR B ng φ ρ h w) {b cs n rw} (hg : h.get b = some (.cells cs n rw)) :
    ∃ p c, φ b = some p ∧ cs.length = n ∧ p.sh + n ≤ p.size ∧ (∀ c ∈ cs, okCell c = true) ∧ CellsAt w p rw c ∧ VRs φ ρ cs ((c.toList.drop p.sh).take n) := by
  obtain ⟨p, hp, ⟨h1, h2, h3, c, h4, h5⟩, _⟩ := hw.obj b _ hg
  exact ⟨p, c, hp, h1, h2, h3, h4, h5⟩

/-- Only the draws' count, the marks .. have turned. -/
theorem WR.same (hw : WR B ng φ ρ h w) (hh : w'.heap = w.heap) : WR B ng φ ρ h w' :=
  ⟨fun b o hb => let ⟨p, hp, ho, hr⟩ := hw.obj b o hb; ⟨p, hp, ho.keep (.refl φ) (by rw [hh]), hr⟩, hw.inj, hw.dom, fun b p hp => by rw [hh]; exact hw.lt b p hp, by rw [hh]; exact hw.low, hw.glob⟩
theorem Step.drew : Step B φ w φ w.drew := ⟨.refl φ, fun b p h => .inl ⟨b, p, h, rfl⟩, (Below.refl B w).drew, fun _ _ _ => rfl, fun _ r h => ⟨r, h⟩⟩

def Phi.put (φ : Phi) (b : Nat) (p : Pl) : Phi := fun b' => if b' = b then some p else φ b'
theorem Phi.put_same {b p} : (φ.put b p) b = some p := by simp [Phi.put]
theorem Phi.put_le {b p} (h : φ b = none) : PhiLe φ (φ.put b p) := fun b' p' h' => by
  unfold Phi.put; split
  · rename_i e; rw [e, h] at h'; cases h'
  · exact h'

/-- A new object on both sides. -/
theorem WR.new (hw : WR B ng φ ρ h w) {o : AObj} {b : Nat} {ob : Obj} {sz : Nat} (hn : h.new o = some (b, h'))
    (ho : OR (φ.put b ⟨w.heap.size, 0, sz⟩) ρ (w.alloc ob) ⟨w.heap.size, 0, sz⟩ o) :
    WR B ng (φ.put b ⟨w.heap.size, 0, sz⟩) ρ h' (w.alloc ob) ∧ Step B φ w (φ.put b ⟨w.heap.size, 0, sz⟩) (w.alloc ob) := by
  obtain ⟨rfl, hlt, hnx, hget⟩ := H.new_eq hn
  have hφ : φ h.next = none := hw.dom _ (Nat.le_refl _)
  have hle := Phi.put_le (p := ⟨w.heap.size, 0, sz⟩) hφ
  have hfresh : ∀ b o, h.get b = some o → b ≠ h.next := fun b o hb e => by
    obtain ⟨p, hp, _⟩ := hw.obj b o hb; rw [e, hφ] at hp; cases hp
  refine ⟨⟨fun b' o' hb => ?_, fun b1 b2 o1 o2 p1 p2 h1 h2 e1 e2 hr he => ?_, fun b' hb => ?_, fun b' p' hp => ?_, by have := hw.low; simp; omega, fun g hg => ?_⟩, ?_⟩
  · rw [hget] at hb; split at hb
    · rename_i e; subst e; cases hb; exact ⟨_, Phi.put_same, ho, fun _ => hw.low⟩
    · obtain ⟨p, hp, hor, hr⟩ := hw.obj b' o' hb
      exact ⟨p, hle _ _ hp, hor.keep hle (Below.heap_alloc w ob p.blk (hw.lt _ _ hp)), hr⟩
  · rw [hget] at h1 h2
    by_cases c1 : b1 = h.next <;> by_cases c2 : b2 = h.next
    · rw [c1, c2]
    · rw [if_neg c2] at h2
      subst c1; rw [Phi.put_same] at e1; cases e1
      have : φ b2 = some p2 := by simpa [Phi.put, c2] using e2
      have := hw.lt _ _ this; simp at he; omega
    · rw [if_neg c1] at h1
      subst c2; rw [Phi.put_same] at e2; cases e2
      have : φ b1 = some p1 := by simpa [Phi.put, c1] using e1
      have := hw.lt _ _ this; simp at he; omega
    · rw [if_neg c1] at h1; rw [if_neg c2] at h2
      exact hw.inj b1 b2 o1 o2 p1 p2 h1 h2 (by simpa [Phi.put, c1] using e1) (by simpa [Phi.put, c2] using e2) hr he
  · have : b' ≠ h.next := by omega
    simp [Phi.put, this]; exact hw.dom b' (by omega)
  · simp only [Phi.put] at hp; split at hp
    · cases hp; simp
    · have := hw.lt _ _ hp; simp; omega
  · obtain ⟨s, hs⟩ := hw.glob g hg; exact ⟨s, hle _ _ hs⟩
  · refine ⟨hle, fun b' p' hp => ?_, (Below.refl B w).alloc hw.low ob, fun k hk _ => Below.heap_alloc w ob k hk, fun k r hk => ⟨r, (Below.heap_alloc w ob k (Array.getElem?_eq_some_iff.1 hk).1).trans hk⟩⟩
    simp only [Phi.put] at hp; split at hp
    · cases hp; exact .inr (Nat.le_refl _)
    · exact .inl ⟨b', p', hp, rfl⟩

/-- An object that may be written is written, on both sides. -/
theorem WR.put (hw : WR B ng φ ρ h w) {b : Nat} {o o' : AObj} {ob : Obj} {p : Pl} (hg : h.get b = some o) (hr : o.rw = true) (hp : φ b = some p)
    (ho : OR φ ρ (w.putObj p.blk ob) p o') (hlp : ∀ r : Loop, w.heap[p.blk]? = some (Obj.loop r) → ∃ r' : Loop, ob = Obj.loop r') :
    WR B ng φ ρ (h.put b o') (w.putObj p.blk ob) ∧ Step B φ w φ (w.putObj p.blk ob) := by
  have hb : b < HM := H.get_lt hg
  obtain ⟨p0, hp0, _, hB⟩ := hw.obj b o hg
  rw [hp] at hp0; cases hp0
  have hB := hB hr
  refine ⟨⟨fun b' o1 hb' => ?_, fun b1 b2 o1 o2 p1 p2 h1 h2 e1 e2 hr1 he => ?_, hw.dom, fun b' p' hp' => by simpa using hw.lt b' p' hp', by simpa using hw.low, hw.glob⟩, ?_⟩
  · rw [H.get_put hb] at hb'; split at hb'
    · rename_i e; subst e; cases hb'; exact ⟨p, hp, ho, fun _ => hB⟩
    · rename_i hne
      obtain ⟨q, hq, hor, hrq⟩ := hw.obj b' o1 hb'
      refine ⟨q, hq, hor.keep (.refl φ) (World.putObj_heap_other ?_), hrq⟩
      intro e; exact hne (hw.inj b b' o o1 p q hg hb' hp hq hr e.symm).symm
  · rw [H.get_put hb] at h1 h2
    have g1 : ∃ o1', h.get b1 = some o1' ∧ o1'.rw = true := by
      split at h1
      · rename_i e; exact ⟨o, by rw [e]; exact hg, hr⟩
      · exact ⟨o1, h1, hr1⟩
    have g2 : ∃ o2', h.get b2 = some o2' := by
      split at h2
      · rename_i e; exact ⟨o, by rw [e]; exact hg⟩
      · exact ⟨o2, h2⟩
    obtain ⟨o1', g1, r1⟩ := g1
    obtain ⟨o2', g2⟩ := g2
    exact hw.inj b1 b2 o1' o2' p1 p2 g1 g2 e1 e2 r1 he
  · refine ⟨.refl φ, fun b' p' h' => .inl ⟨b', p', h', rfl⟩, ⟨rfl, rfl, rfl, by simp, fun k hk => World.putObj_heap_other (by omega)⟩, fun k hk hn => World.putObj_heap_other (fun e => hn b p hp e.symm), fun k r hk => ?_⟩
    by_cases e : k = p.blk
    · subst e; obtain ⟨r', rfl⟩ := hlp r hk; exact ⟨r', World.putObj_heap_same (hw.lt _ _ hp)⟩
    · exact ⟨r, (World.putObj_heap_other e).trans hk⟩

/-- An abstract block is let go. -/
theorem WR.kill (hw : WR B ng φ ρ h w) {b : Nat} (hb : b < HM) : WR B ng φ ρ (h.kill b) w := by
  refine ⟨fun b' o' hb' => ?_, fun b1 b2 o1 o2 p1 p2 h1 h2 e1 e2 => ?_, hw.dom, hw.lt, hw.low, hw.glob⟩
  · rw [H.get_kill hb] at hb'; split at hb'
    · cases hb'
    · exact hw.obj b' o' hb'
  · rw [H.get_kill hb] at h1 h2; split at h1
    · cases h1
    · split at h2
      · cases h2
      · exact hw.inj b1 b2 o1 o2 p1 p2 h1 h2 e1 e2
end
end Bly

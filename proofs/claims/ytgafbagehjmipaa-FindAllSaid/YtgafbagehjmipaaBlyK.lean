/- The evaluator, by rules, over a list of what temporaries are known to hold. -/
import Derived.Test.YtgafbagehjmipaaBlyG
namespace Bly
open Go

variable {E : Env} {call : Caller} {fid fuel n : Nat}

abbrev SL := List (Nat × AV)
def lk : SL → Nat → Option AV
  | [], _ => none
  | (d, v) :: s, t => match Nat.beq d t with | true => some v | false => lk s t
def Holds (tm : Tm) (s : SL) : Prop := ∀ t v, lk s t = some v → tm.rd t = v
def rdL (E : Env) (s : SL) : Operand → AV
  | .tmp t => match lk s t with | some v => v | none => .bad
  | .const v => ofConst v
  | .global g => match Nat.blt g E.ng with | true => .ptr g 0 | false => .bad
  | .func f => .fn f []
def knownL (s : SL) : List Operand → Bool
  | [] => true
  | .tmp t :: l => match lk s t with | some _ => knownL s l | none => false
  | _ :: l => knownL s l
def updL (s : SL) (d : Option Nat) (v : AV) : SL := match d with | some d => (d, v) :: s | none => s
def fitsD (d : Option Nat) (n : Nat) : Bool := match d with | some d => Nat.blt d n | none => true

theorem rdL_ok {tm : Tm} {s : SL} (hs : Holds tm s) : ∀ {l : List Operand}, knownL s l = true → ∀ x ∈ l, rd E tm x = rdL E s x
  | y :: l, hk, x, hx => by
    have hr : knownL s l = true := by
      cases y <;> simp only [knownL] at hk <;> first | exact hk | (split at hk; exact hk; cases hk)
    rcases List.mem_cons.1 hx with rfl | hx
    · cases x with
      | tmp t =>
        simp only [knownL] at hk
        cases hl : lk s t with
        | none => rw [hl] at hk; cases hk
        | some v => simp only [rd, rdL, hl]; exact hs t v hl
      | const v => rfl
      | global g => rfl
      | func f => rfl
    · exact rdL_ok hs hr x hx
theorem rdL_one {tm : Tm} {s : SL} (hs : Holds tm s) {x : Operand} (hk : knownL s [x] = true) : rd E tm x = rdL E s x := rdL_ok hs hk x (by simp)
theorem Holds.upd {tm : Tm} {s : SL} (hn : tm.n = n) (hle : n ≤ 512) (hs : Holds tm s) {d : Option Nat} (hd : fitsD d n = true) (v : AV) : Holds (tm.putO d v) (updL s d v) := by
  intro t u hl
  cases d with
  | none => exact hs t u hl
  | some d =>
    rw [rd_putO (by omega)]
    simp only [updL, lk] at hl
    by_cases e : d = t
    · subst e
      rw [Nat.beq_refl] at hl
      cases hl
      rw [if_pos ⟨rfl, by rw [hn]; exact blt_true.1 hd⟩]
    · have hb : Nat.beq d t = false := by rw [← Bool.not_eq_true]; exact fun hb => e (Nat.eq_of_beq_eq_true hb)
      rw [hb] at hl
      rw [if_neg (fun c => e (by cases c.1; rfl))]
      exact hs t u hl

def sO (E : Env) (call : Caller) (n : Nat) (all : List Oper) (s : SL) (l : List Oper) (h : H) (Q : Tm → H → Prop) : Prop := ∀ tm : Tm, tm.n = n → Holds tm s → wpO E call all l tm h Q
def sC (E : Env) (call : Caller) (fid fuel n : Nat) (s : SL) (c : Code) (h : H) (Q : AEx → Tm → H → Prop) : Prop := ∀ tm : Tm, tm.n = n → Holds tm s → wpC E call fid fuel c tm h Q
def sQ (n : Nat) (s : SL) (h : H) (Q : Tm → H → Prop) : Prop := ∀ tm : Tm, tm.n = n → Holds tm s → Q tm h
section
variable {all l : List Oper} {o : Oper} {s : SL} {h h' : H} {v : AV} {Q : Tm → H → Prop}
theorem sO_nil (hq : sQ n s h Q) : sO E call n all s [] h Q := fun tm h1 h2 => wpO_nil (hq tm h1 h2)
theorem sO_op (hle : n ≤ 512) (hg : o.guard = none) (hk : knownL s o.op.operands.toList = true) (hd : fitsD o.dst n = true) (hs : opA E call (rdL E s) o h = some (v, h'))
    (hn : sO E call n all (updL s o.dst v) l h' Q) : sO E call n all s (o :: l) h Q := fun tm h1 h2 =>
  wpO_cons hg (by rw [opA_congr (r' := rdL E s) (fun x hx => rdL_ok h2 hk x (by simpa using hx))]; exact hs) (hn _ (by rw [tm_n_putO]; exact h1) (h2.upd h1 hle hd v))
theorem guard_known {tm : Tm} {j t : Nat} {want b : Bool} (hg : o.guard = some (j, want)) (hd : dstOf all j = some t) (h1 : tm.n = n) (h2 : Holds tm s) (ht : Nat.blt t n = true) (hl : lk s t = some (.bool b)) :
    guardTold all o tm = true ∧ wantA all o tm = (b == want) := by
  have := h2 t _ hl
  constructor
  · unfold guardTold; simp only [hg, hd, h1, ht, this]
  · unfold wantA; simp only [hg, hd, this]; cases b <;> cases want <;> rfl
theorem sO_do {j t : Nat} {want : Bool} (hle : n ≤ 512) (hg : o.guard = some (j, want)) (hj : dstOf all j = some t) (ht : Nat.blt t n = true) (hl : lk s t = some (.bool want)) (hk : knownL s o.op.operands.toList = true) (hd : fitsD o.dst n = true)
    (hs : opA E call (rdL E s) o h = some (v, h')) (hn : sO E call n all (updL s o.dst v) l h' Q) : sO E call n all s (o :: l) h Q := fun tm h1 h2 => by
  obtain ⟨g1, g2⟩ := guard_known hg hj h1 h2 ht hl
  exact wpO_do g1 (by rw [g2]; simp) (by rw [opA_congr (r' := rdL E s) (fun x hx => rdL_ok h2 hk x (by simpa using hx))]; exact hs) (hn _ (by rw [tm_n_putO]; exact h1) (h2.upd h1 hle hd v))
theorem sO_skip {j t : Nat} {want b : Bool} (hle : n ≤ 512) (hg : o.guard = some (j, want)) (hj : dstOf all j = some t) (ht : Nat.blt t n = true) (hl : lk s t = some (.bool b)) (hb : (b == want) = false) (hd : fitsD o.dst n = true)
    (hn : sO E call n all (updL s o.dst (.tup [])) l h Q) : sO E call n all s (o :: l) h Q := fun tm h1 h2 => by
  obtain ⟨g1, g2⟩ := guard_known hg hj h1 h2 ht hl
  exact wpO_skip g1 (by rw [g2, hb]) (hn _ (by rw [tm_n_putO]; exact h1) (h2.upd h1 hle hd _))
/-- Let go of what is not wanted any more. -/
theorem sO_weak {s' : SL} (hw : ∀ t v, lk s' t = some v → lk s t = some v) (hn : sO E call n all s' l h Q) : sO E call n all s l h Q := fun tm h1 h2 => hn tm h1 (fun t v hl => h2 t v (hw t v hl))
end
section
variable {s : SL} {h h' : H} {v : AV} {Q : AEx → Tm → H → Prop}
theorem sC_region {id : Nat} {ops : Array Oper} (hk : sO E call n ops.toList s ops.toList h (Q .normal)) : sC E call fid fuel n s (.region id ops false) h Q := fun tm h1 h2 => wpC_region (hk tm h1 h2)
theorem sC_seq {a b : Code} (hk : sC E call fid fuel n s a h (seqQ (fun tm h => wpC E call fid fuel b tm h Q) Q)) : sC E call fid fuel n s (.seq a b) h Q := fun tm h1 h2 => wpC_seq (hk tm h1 h2)
theorem sQ_seq {b : Code} (hk : sC E call fid fuel n s b h Q) : sQ n s h (seqQ (fun tm h => wpC E call fid fuel b tm h Q) Q .normal) := hk
theorem sC_cond {c : Operand} {a b : Code} (t : Bool) (hk : knownL s [c] = true) (hc : rdL E s c = .bool t) (ha : t = true → sC E call fid fuel n s a h Q) (hb : t = false → sC E call fid fuel n s b h Q) :
    sC E call fid fuel n s (.cond c a b) h Q := fun tm h1 h2 => wpC_cond t (by rw [rdL_one h2 hk]; exact hc) (fun e => ha e tm h1 h2) (fun e => hb e tm h1 h2)
theorem sC_true {c : Operand} {a b : Code} (hk : knownL s [c] = true) (hc : rdL E s c = .bool true) (ha : sC E call fid fuel n s a h Q) : sC E call fid fuel n s (.cond c a b) h Q :=
  sC_cond true hk hc (fun _ => ha) (fun e => by cases e)
theorem sC_false {c : Operand} {a b : Code} (hk : knownL s [c] = true) (hc : rdL E s c = .bool false) (hb : sC E call fid fuel n s b h Q) : sC E call fid fuel n s (.cond c a b) h Q :=
  sC_cond false hk hc (fun e => by cases e) (fun _ => hb)
theorem sC_block {id : Nat} {c : Code} (hk : sC E call fid fuel n s c h (blockQ id Q)) : sC E call fid fuel n s (.block id c) h Q := fun tm h1 h2 => wpC_block (hk tm h1 h2)
theorem sC_scope {c : Code} (hk : sC E call fid fuel n s c h (fun ex tm h => (∀ l, ex ≠ .goto l) ∧ Q ex tm h)) : sC E call fid fuel n s (.scope c) h Q := fun tm h1 h2 => wpC_scope (hk tm h1 h2)
theorem sC_skip (hq : sQ n s h (Q .normal)) : sC E call fid fuel n s .skip h Q := fun tm h1 h2 => wpC_skip (hq tm h1 h2)
theorem sC_label {l : Nat} (hq : sQ n s h (Q .normal)) : sC E call fid fuel n s (.label l) h Q := fun tm h1 h2 => wpC_label (hq tm h1 h2)
theorem sC_exit {id : Nat} (hq : sQ n s h (Q (.exit id))) : sC E call fid fuel n s (.exit id) h Q := fun tm h1 h2 => wpC_exit (hq tm h1 h2)
theorem sC_ret (hq : sQ n s h (Q .ret)) : sC E call fid fuel n s .ret h Q := fun tm h1 h2 => wpC_ret (hq tm h1 h2)
theorem sC_mono {c : Code} {Q' : AEx → Tm → H → Prop} (hk : sC E call fid fuel n s c h Q) (hq : ∀ ex tm h, Q ex tm h → Q' ex tm h) : sC E call fid fuel n s c h Q' := fun tm h1 h2 => wpC_mono (hk tm h1 h2) hq
theorem sC_weak {c : Code} {s' : SL} (hw : ∀ t v, lk s' t = some v → lk s t = some v) (hn : sC E call fid fuel n s' c h Q) : sC E call fid fuel n s c h Q := fun tm h1 h2 => hn tm h1 (fun t v hl => h2 t v (hw t v hl))
/-- A loop: at each round's start, with k rounds to go at most, some list and some heap of which I holds. -/
theorem sC_loop {c : Code} (I : Nat → SL → H → Prop) (k : Nat) (hn : k < fuel) (h0 : I k s h) (hk : ∀ k s h, I k s h → sC E call fid fuel n s c h (seqQ (fun tm h => ∃ m s', m < k ∧ I m s' h ∧ tm.n = n ∧ Holds tm s') Q)) :
    sC E call fid fuel n s (.loop c) h Q := fun tm h1 h2 =>
  wpC_loop (fun k tm h => ∃ s, I k s h ∧ tm.n = n ∧ Holds tm s) k hn ⟨s, h0, h1, h2⟩ fun k tm h ⟨s, hI, g1, g2⟩ =>
    wpC_mono (hk k s h hI tm g1 g2) fun ex tm h hq => by
      cases ex with
      | normal => obtain ⟨m, s', a, b, c, d⟩ := hq; exact ⟨m, a, s', b, c, d⟩
      | _ => exact hq
end

/-! ### Calls -/
def startL : List AV → Nat → SL
  | [], _ => []
  | a :: l, i => (i, a) :: startL l (i+1)
theorem startL_lk : ∀ (l : List AV) (i t : Nat) (v : AV), lk (startL l i) t = some v → i ≤ t ∧ t < i + l.length ∧ l[t - i]? = some v
  | [], i, t, v, h => by cases h
  | a :: l, i, t, v, h => by
    simp only [startL, lk] at h
    by_cases e : i = t
    · subst e; rw [Nat.beq_refl] at h; cases h; simp
    · have hb : Nat.beq i t = false := by rw [← Bool.not_eq_true]; exact fun hb => e (Nat.eq_of_beq_eq_true hb)
      rw [hb] at h
      obtain ⟨h1, h2, h3⟩ := startL_lk l (i+1) t v h
      refine ⟨by omega, by simp; omega, ?_⟩
      rw [show t - i = (t - (i+1)) + 1 by omega]; simpa using h3
theorem start_holds {args : List AV} {m : Nat} (h1 : m ≤ 512) (h2 : args.length ≤ m) : Holds ⟨mkTm args 0 .e, m⟩ (startL args 0) := by
  intro t v hl
  obtain ⟨_, g2, g3⟩ := startL_lk args 0 t v hl
  unfold Tm.rd
  simp only
  rw [blt_true.2 (show t < m by omega)]
  simp only
  rw [mkTm_get args 0 .e t (by omega) (by omega), if_pos ⟨by omega, by omega⟩, g3]; rfl
def resL (E : Env) (s : SL) : List ResultVar → Option (List AV)
  | [] => some []
  | .tmp t :: l => match lk s t, resL E s l with | some v, some vs => some (v :: vs) | _, _ => none
  | .cell _ _ :: _ => none
theorem resL_ok {tm : Tm} {s : SL} (hs : Holds tm s) {h : H} : ∀ {l : List ResultVar} {vs : List AV}, resL E s l = some vs → resA E tm h l = some vs
  | [], vs, hr => hr
  | .tmp t :: l, vs, hr => by
    simp only [resL] at hr
    split at hr
    · rename_i v us h1 h2
      cases hr
      simp only [resA, resL_ok hs h2, hs t v h1]
    · cases hr
  | .cell a t :: l, vs, hr => by cases hr
theorem s_call {f : Nat} {cap args : List AV} {h : H} {F : Func} {c : Code} {R : AV → H → Prop} (hf : E.func f = some F) (hb : F.body = some c) (h1 : Nat.ble F.ntmps 512 = true) (h2 : Nat.ble args.length F.ntmps = true)
    (hk : sC E (callA E noOrc fuel n) f fuel F.ntmps (startL args 0) c h (endQ E F.results.toList R)) : ∃ v h', callA E noOrc fuel (n+1) (.fn f cap) args h = some (v, h') ∧ R v h' :=
  call_eq hf hb h1 h2 (hk _ rfl (start_holds (Nat.le_of_ble_eq_true h1) (Nat.le_of_ble_eq_true h2)))
theorem sQ_end {m : Nat} {s : SL} {h : H} {rs : List ResultVar} {R : AV → H → Prop} {vs : List AV} {ex : AEx} (he : ex = .normal ∨ ex = .ret) (hr : resL E s rs = some vs) (hR : R (oneOf vs) h) : sQ m s h (endQ E rs R ex) :=
  fun _ _ h2 => ⟨he, vs, resL_ok h2 hr, hR⟩
end Bly

/- Operations, third part: numbers, comparisons, conversions. -/
import Derived.Test.YtgafbagehjmipaaBlyP
import Derived.Laws.Small
import Derived.Laws.Strings
namespace Bly
open Go Go.RowKit

variable {P : Program} {E : Env} {w : World} {φ : Phi} {ρ : Nat → UInt8} {B ng : Nat} {h h' : H}

theorem wrap_ofNat (k : IntKind) (m : Nat) (h : m < topOf k) : k.wrap (m : Int) = m := by
  cases k <;> simp only [topOf] at h <;> simp only [IntKind.wrap, IntKind.bits, IntKind.signed] <;> simp <;> omega
theorem wrapA_eq (k : IntKind) (n : Int) : wrapA k n = k.wrap n := by
  unfold wrapA
  split
  · rename_i m
    split
    · rename_i h; exact (wrap_ofNat k m (blt_true.1 h)).symm
    · rfl
  · rfl
theorem ieq_eq (a b : Int) : ieq a b = (a == b) := by
  cases a with
  | ofNat a => cases b with
    | ofNat b => simp only [ieq]; rw [Bool.eq_iff_iff, Nat.beq_eq, beq_iff_eq]; exact ⟨fun h => by rw [h], fun h => by injection h⟩
    | negSucc b => simp [ieq]
  | negSucc a => cases b with
    | ofNat b => simp [ieq]
    | negSucc b => simp only [ieq]; rw [Bool.eq_iff_iff, Nat.beq_eq, beq_iff_eq]; exact ⟨fun h => by rw [h], fun h => by injection h⟩
theorem ilt_eq (a b : Int) : ilt a b = decide (a < b) := by
  cases a with
  | ofNat a => cases b with
    | ofNat b => simp only [ilt]; rw [Bool.eq_iff_iff, blt_true, decide_eq_true_eq]; simp
    | negSucc b => simp only [ilt]; rw [Bool.eq_iff_iff, decide_eq_true_eq]; simp; omega
  | negSucc a => cases b with
    | ofNat b => simp only [ilt]; rw [Bool.eq_iff_iff, decide_eq_true_eq]; simp; omega
    | negSucc b => simp only [ilt]; rw [Bool.eq_iff_iff, blt_true, decide_eq_true_eq]; omega
theorem ieq_zero {b : Int} (h : ieq b 0 = false) : b ≠ 0 := by rw [ieq_eq] at h; simpa using h

theorem int_fits {op : BinOp} {k : IntKind} {a b : Int} {v : AV} (hb : intBin op k a b = some v) (t : TypeId) :
    ∃ v', VR φ ρ v v' ∧ (binOp op t (.int k a) (.int k b)).run P w = .ok v' w := by
  cases op <;> simp only [intBin] at hb
  case add => cases hb; refine ⟨_, .int _ _, ?_⟩; simp [binOp, Op.intArith, wrapA_eq]
  case sub => cases hb; refine ⟨_, .int _ _, ?_⟩; simp [binOp, Op.intArith, wrapA_eq]
  case mul => cases hb; refine ⟨_, .int _ _, ?_⟩; simp [binOp, Op.intArith, wrapA_eq]
  case quo => split at hb
              · cases hb
              · rename_i h0; cases hb; refine ⟨_, .int _ _, ?_⟩; simp [binOp, Op.intDiv, wrapA_eq, ieq_zero h0]
  case rem => split at hb
              · cases hb
              · rename_i h0; cases hb; refine ⟨_, .int _ _, ?_⟩; simp [binOp, Op.intDiv, ieq_zero h0]
  case and => simp only [bitsA] at hb; cases hb; refine ⟨_, .int _ _, ?_⟩; simp [binOp, Op.intBits]
  case or => simp only [bitsA] at hb; cases hb; refine ⟨_, .int _ _, ?_⟩; simp [binOp, Op.intBits]
  case xor => simp only [bitsA] at hb; cases hb; refine ⟨_, .int _ _, ?_⟩; simp [binOp, Op.intBits]
  case andNot => simp only [bitsA] at hb; cases hb; refine ⟨_, .int _ _, ?_⟩; simp [binOp, Op.intBits]
  case shl => cases hb
  case shr => cases hb
  case eql => cases hb; refine ⟨_, .bool _, ?_⟩; simp [binOp, Op.intCmp, ieq_eq]
  case neq => cases hb; refine ⟨_, .bool _, ?_⟩; simp [binOp, Op.intCmp, ieq_eq]; rfl
  case lss => cases hb; refine ⟨_, .bool _, ?_⟩; simp [binOp, Op.intCmp, ilt_eq]
  case leq => cases hb; refine ⟨_, .bool _, ?_⟩; simp [binOp, Op.intCmp, ilt_eq]; rw [Bool.eq_iff_iff]; simp
  case gtr => cases hb; refine ⟨_, .bool _, ?_⟩; simp [binOp, Op.intCmp, ilt_eq]
  case geq => cases hb; refine ⟨_, .bool _, ?_⟩; simp [binOp, Op.intCmp, ilt_eq]; rw [Bool.eq_iff_iff]; simp
theorem shift_fits {op : BinOp} {k k' : IntKind} {a b : Int} {v : AV} (hb : shiftBin op k a b = some v) (t : TypeId) :
    ∃ v', VR φ ρ v v' ∧ (binOp op t (.int k a) (.int k' b)).run P w = .ok v' w := by
  unfold shiftBin at hb
  split at hb
  · rename_i n
    have h0 : ¬ (Int.ofNat n < 0) := by simp
    cases op <;> simp only at hb <;> cases hb
    · refine ⟨_, .int _ _, ?_⟩
      simp [binOp, Op.shift, wrapA_eq]; omega
    · refine ⟨_, .int _ _, ?_⟩
      simp [binOp, Op.shift]; omega
  · cases hb
theorem eqBytes_ok {ρ : Nat → UInt8} : ∀ {l m : List AV} {a b : List UInt8} {x : Bool}, VRs φ ρ l (a.map bv) → VRs φ ρ m (b.map bv) → eqBytes l m = some x → x = (a == b)
  | [], [], a, b, x, h1, h2, he => by
    have e1 := h1.length; have e2 := h2.length
    have f1 : a = [] := List.eq_nil_of_length_eq_zero (by simpa using e1.symm)
    have f2 : b = [] := List.eq_nil_of_length_eq_zero (by simpa using e2.symm)
    subst f1; subst f2; simp [eqBytes] at he; subst he; rfl
  | [], _ :: _, a, b, x, h1, h2, he => by
    have e1 := h1.length; have e2 := h2.length
    simp [eqBytes] at he; subst he
    cases a with
    | nil => cases b with | nil => simp at e2 | cons => rfl
    | cons => simp at e1
  | _ :: _, [], a, b, x, h1, h2, he => by
    have e1 := h1.length; have e2 := h2.length
    simp [eqBytes] at he; subst he
    cases b with
    | nil => cases a with | nil => simp at e1 | cons => rfl
    | cons => simp at e2
  | c :: l, d :: m, a, b, x, h1, h2, he => by
    cases a with
    | nil => have := h1.length; simp at this
    | cons a0 a =>
      cases b with
      | nil => have := h2.length; simp at this
      | cons b0 b =>
        simp only [List.map_cons] at h1 h2
        cases h1 with
        | cons hc hl =>
          cases h2 with
          | cons hd hm =>
            have ih := fun y => @eqBytes_ok ρ l m a b y hl hm
            have other : ∀ y, (match eqBytes l m with | some false => some false | _ => none) = some y → y = (a0 :: a == b0 :: b) := by
              intro y hy
              split at hy
              · rename_i hf
                cases hy
                have := ih false hf
                rw [Bool.eq_iff_iff] at this ⊢; simp at this ⊢
                exact fun _ => this
              · cases hy
            simp only [eqBytes] at he
            split at he
            · rename_i k1 n1 k2 n2
              cases hc; cases hd
              rw [ieq_eq] at he
              split at he
              · rename_i hq
                have := ih x he
                have hab : a0 = b0 := by
                  have : ((a0.toNat : Int) == (b0.toNat : Int)) = true := hq
                  simp at this
                  exact UInt8.toNat_inj.1 (by omega)
                rw [this, hab]; simp
              · rename_i hq
                cases he
                have hab : ¬ a0 = b0 := by
                  intro e; subst e; simp at hq
                simp [hab]
            · rename_i i j
              split at he
              · rename_i hq
                have hij := Nat.eq_of_beq_eq_true hq
                subst hij
                have hab : a0 = b0 := by
                  have e1 : bv a0 = bv b0 := by
                    cases hc' : bv a0 with
                    | int k n => 
                      rw [hc'] at hc
                      cases hd' : bv b0 with
                      | int k' n' => rw [hd'] at hd; cases hc; cases hd; rfl
                      | _ => simp [bv] at hd'
                    | _ => simp [bv] at hc'
                  simp [bv] at e1
                  exact UInt8.toNat_inj.1 (by omega)
                have := ih x he
                rw [this, hab]; simp
              · exact other x he
            · exact other x he
theorem toList_inj {a b : ByteArray} : (a.toList == b.toList) = (a.data.toList == b.data.toList) := by
  rw [ByteArray.toList_eq, ByteArray.toList_eq]
theorem str_fits {op : BinOp} {a b : List AV} {a' b' : ByteArray} {v : AV} (h1 : VRs φ ρ a (a'.data.toList.map bv)) (h2 : VRs φ ρ b (b'.data.toList.map bv)) (g1 : ∀ c ∈ a, isByte c = true) (g2 : ∀ c ∈ b, isByte c = true) (hb : strBin op a b = some v) (t : TypeId) :
    ∃ v', VR φ ρ v v' ∧ (binOp op t (.string a') (.string b')).run P w = .ok v' w := by
  cases op <;> simp only [strBin] at hb
  case add =>
    split at hb
    · rename_i hlt
      have hlt := blt_true.1 hlt
      cases hb
      have e1 := h1.length; have e2 := h2.length
      simp at e1 e2
      refine ⟨.string (a' ++ b'), .str ?_ (fun c hc => by rcases List.mem_append.1 hc with h | h; exact g1 c h; exact g2 c h), ?_⟩
      · simpa using h1.append h2
      · have : ¬ (9223372036854775807 < (a'.size : Int) + (b'.size : Int)) := by
          have e3 : a'.size = a.length := by simpa using e1.symm
          have e4 : b'.size = b.length := by simpa using e2.symm
          omega
        simp [binOp, Op.stringOp, this]
    · cases hb
  case eql =>
    split at hb
    · rename_i x hx
      cases hb
      refine ⟨_, .bool _, ?_⟩
      rw [eqBytes_ok h1 h2 hx]
      simp [binOp, Op.stringOp, toList_inj]
    · cases hb
  case neq =>
    split at hb
    · rename_i x hx
      cases hb
      refine ⟨_, .bool _, ?_⟩
      rw [eqBytes_ok h1 h2 hx]
      simp [binOp, Op.stringOp, toList_inj]
    · cases hb
  all_goals cases hb

theorem tkOf_bool {d : TypeDesc} (hk : tkOf P d = .bool) : d = .bool := by
  cases d with
  | bool => rfl
  | _ => simp only [tkOf] at hk; (try split at hk) <;> cases hk
theorem tkOf_ptr {d : TypeDesc} (hk : tkOf P d = .ptr) : ∃ e, d = .pointer e := by
  cases d with
  | pointer e => exact ⟨e, rfl⟩
  | _ => simp only [tkOf] at hk; (try split at hk) <;> cases hk
theorem tkOf_func {d : TypeDesc} (hk : tkOf P d = .func) : ∃ a b c, d = .func a b c := by
  cases d with
  | func a b c => exact ⟨a, b, c, rfl⟩
  | _ => simp only [tkOf] at hk; (try split at hk) <;> cases hk
theorem equal_of {t : TypeId} {x y : Value} {b : Bool} (h : ∀ d, (Op.equalIn (d + 1) t x y).run P w = .ok b w) : (Op.equal t x y).run P w = .ok b w := h 9999
theorem ptrEq_fits {t e : TypeId} (hd : P.underlying t = some (.pointer e)) {x y : AV} {x' y' : Value} (hx : VR φ ρ x x') (hy : VR φ ρ y y') {b : Bool} (hb : ptrEq x y = some b) (dd : Nat) :
    (Op.equalIn (dd + 1) t x' y').run P w = .ok b w := by
  unfold ptrEq at hb
  split at hb <;> cases hb <;> cases hx <;> cases hy <;> simp [Op.equalIn, run_underlying hd]
theorem nilEq_fits {t : TypeId} {k : TK} {d : TypeDesc} (hd : P.underlying t = some d) (hk : tkOf P d = k) {x y : AV} {x' y' : Value} (hx : VR φ ρ x x') (hy : VR φ ρ y y') {b : Bool} (hb : nilEq k x y = some b) :
    (Op.equal t x' y').run P w = .ok b w := by
  refine equal_of fun dd => ?_
  unfold nilEq at hb
  split at hb
  · obtain ⟨e, rfl⟩ := tkOf_ptr hk; exact ptrEq_fits hd hx hy hb dd
  · obtain ⟨e, _, rfl, _⟩ := tkOf_ptrArr hk; exact ptrEq_fits hd hx hy hb dd
  · obtain ⟨rfl, _⟩ := tkOf_slice hk
    split at hb <;> cases hb <;> cases hx <;> cases hy <;> simp [Op.equalIn, run_underlying hd]
  · obtain ⟨_, _, rfl, _⟩ := tkOf_map hk
    split at hb <;> cases hb <;> cases hx <;> cases hy <;> simp [Op.equalIn, run_underlying hd]
  · obtain ⟨_, _, _, rfl⟩ := tkOf_func hk
    split at hb <;> cases hb <;> cases hx <;> cases hy <;> simp [Op.equalIn, run_underlying hd]
  · have := tkOf_bool hk; subst this
    split at hb <;> cases hb <;> cases hx <;> cases hy <;> simp [Op.equalIn, run_underlying hd]
  · cases hb
/-- Values of which '==' has no guard. -/
def unguarded : Value → Bool
  | .nilIface | .agg _ => false
  | _ => true
theorem run_eqGuard {op : BinOp} {t : TypeId} {x y : Operand} {a b : Value} (h : unguarded a = true) : (eqGuard op t x y a b).run P w = .ok () w := by
  unfold eqGuard
  cases op <;> simp <;> (cases a <;> simp_all [unguarded])
/-- What 'nilEq' tells of its first value. -/
def nilLike : AV → Bool
  | .nilp | .ptr _ _ | .nils | .slice _ _ _ _ | .nilm | .map _ | .nilf | .fn _ _ | .yld _ | .bool _ => true
  | _ => false
theorem nilEq_like {k : TK} {x y : AV} {b : Bool} (hb : nilEq k x y = some b) : nilLike x = true ∧ nilLike y = true := by
  unfold nilEq ptrEq at hb
  split at hb <;> (try split at hb) <;> first | exact ⟨rfl, rfl⟩ | cases hb
theorem nilEq_unguarded {k : TK} {x y : AV} {x' : Value} (hx : VR φ ρ x x') {b : Bool} (hb : nilEq k x y = some b) : unguarded x' = true := by
  have := (nilEq_like hb).1
  cases hx <;> first | rfl | (exfalso; simp [nilLike] at this)
theorem bin_fits (hE : EnvOK P E) {op : BinOp} {t : TypeId} {xo yo : Operand} {x y : AV} {x' y' : Value} (hx : VR φ ρ x x') (hy : VR φ ρ y y') {v : AV} (hb : binA (E.tk t) op x y = some v) :
    ∃ v', VR φ ρ v v' ∧ (do eqGuard op t xo yo x' y'; binOp op t x' y').run P w = .ok v' w := by
  unfold binA at hb
  split at hb
  · rename_i k a k' b
    cases hx; cases hy
    have hg : (eqGuard op t xo yo (.int k a) (.int k' b)).run P w = .ok () w := run_eqGuard rfl
    split at hb
    · obtain ⟨v', h1, h2⟩ := shift_fits (P := P) (w := w) (φ := φ) (ρ := ρ) (k' := k') hb t
      exact ⟨v', h1, by simp only [Sem.run_bind, hg, Result.andThen_ok, h2]⟩
    · split at hb
      · rename_i hkk; subst hkk
        obtain ⟨v', h1, h2⟩ := int_fits (P := P) (w := w) (φ := φ) (ρ := ρ) hb t
        exact ⟨v', h1, by simp only [Sem.run_bind, hg, Result.andThen_ok, h2]⟩
      · cases hb
  · rename_i a b
    cases hx with
    | str h1 g1 =>
      cases hy with
      | str h2 g2 =>
        obtain ⟨v', h3, h4⟩ := str_fits (P := P) (w := w) h1 h2 g1 g2 hb t
        exact ⟨v', h3, by simp only [Sem.run_bind, run_eqGuard (P := P) (w := w) (op := op) (t := t) (x := xo) (y := yo) (a := .string _) rfl, Result.andThen_ok, h4]⟩
  · have key : ∀ b, nilEq (E.tk t) x y = some b → ((eqGuard op t xo yo x' y').run P w = .ok () w) ∧ (Op.equal t x' y').run P w = .ok b w ∧ (binOp .eql t x' y' = do pure (.bool (← Op.equal t x' y'))) ∧ (binOp .neq t x' y' = do pure (.bool (!(← Op.equal t x' y')))) := by
      intro b hn
      have hne : E.tk t ≠ .other := by intro e; rw [e] at hn; simp [nilEq] at hn
      obtain ⟨i, d, hi, hd, hk⟩ := tk_inv hE rfl hne
      refine ⟨run_eqGuard (nilEq_unguarded hx hn), nilEq_fits hd hk hx hy hn, ?_, ?_⟩
      · obtain ⟨l1, l2⟩ := nilEq_like hn
        cases hx <;> first | (exfalso; simp [nilLike] at l1; done) | rfl | (cases hy <;> first | rfl | (exfalso; simp [nilLike] at l2; done))
      · obtain ⟨l1, l2⟩ := nilEq_like hn
        cases hx <;> first | (exfalso; simp [nilLike] at l1; done) | rfl | (cases hy <;> first | rfl | (exfalso; simp [nilLike] at l2; done))
    split at hb
    · split at hb
      · rename_i b hn
        cases hb
        obtain ⟨h1, h2, h3, _⟩ := key b hn
        exact ⟨_, .bool _, by simp [h1, h3, h2]⟩
      · cases hb
    · split at hb
      · rename_i b hn
        cases hb
        obtain ⟨h1, h2, _, h4⟩ := key b hn
        exact ⟨_, .bool _, by simp [h1, h4, h2]⟩
      · cases hb
    · cases hb
theorem un_fits {op : UnOp} {x : AV} {x' : Value} (hx : VR φ ρ x x') {v : AV} (hb : unA op x = some v) : ∃ v', VR φ ρ v v' ∧ (Op.unary op x').run P w = .ok v' w := by
  unfold unA at hb
  split at hb
  · cases hx; cases hb; exact ⟨_, .bool _, by simp [Op.unary]⟩
  · cases hx; cases hb; exact ⟨_, .int _ _, by simp [Op.unary, Op.intArith, wrapA_eq]⟩
  · cases hx
    split at hb
    · rename_i m hm
      cases hb
      simp only [bitsA] at hm
      cases hm
      exact ⟨_, .int _ _, by simp [Op.unary, Op.intBits]⟩
    · cases hb
  · cases hb
end Bly

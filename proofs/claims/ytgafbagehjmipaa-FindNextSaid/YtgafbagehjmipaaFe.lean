/- find: FindNext's whole run, told by the evaluator. -/
import Derived.Test.YtgafbagehjmipaaFd
namespace Go.Proofs.Ytgafbagehjmipaa
open Bly

theorem sub_eq {a b : Nat} (hb : b ≤ a) (ha : a < 1000000) {r : Operand → AV} {E : Env} {call : Caller} {o : Oper} {x y : Operand} {t u : Nat} {h : H} (ho : o.op = .binOp .sub t x y u) (hx : r x = .int .i64 (.ofNat a)) (hy : r y = .int .i64 (.ofNat b)) :
    opA E call r o h = some (.int .i64 (.ofNat (a-b)), h) := by
  refine op_bin ho ?_
  rw [hx, hy]
  show some (AV.int .i64 (wrapA .i64 (Int.ofNat a - Int.ofNat b))) = _
  rw [show Int.ofNat a - Int.ofNat b = Int.ofNat (a - b) by simp; omega]
  unfold wrapA
  have : Nat.blt (a-b) (topOf .i64) = true := blt_true.2 (by show a - b < 9223372036854775808; omega)
  simp only [this]
theorem add_eq {a b : Nat} (ha : a < 1000000) (hb : b < 1000000) {r : Operand → AV} {E : Env} {call : Caller} {o : Oper} {x y : Operand} {t u : Nat} {h : H} (ho : o.op = .binOp .add t x y u) (hx : r x = .int .i64 (.ofNat a)) (hy : r y = .int .i64 (.ofNat b)) :
    opA E call r o h = some (.int .i64 (.ofNat (a+b)), h) := by
  refine op_bin ho ?_
  rw [hx, hy]
  show some (AV.int .i64 (wrapA .i64 (.ofNat (a+b)))) = _
  unfold wrapA
  have : Nat.blt (a+b) (topOf .i64) = true := blt_true.2 (by show a + b < 9223372036854775808; omega)
  simp only [this]
theorem lt_eq {a b : Nat} {c : Bool} (hc : decide (a < b) = c) {r : Operand → AV} {E : Env} {call : Caller} {o : Oper} {x y : Operand} {t u : Nat} {h : H} (ho : o.op = .binOp .lss t x y u) (hx : r x = .int .i64 (.ofNat a)) (hy : r y = .int .i64 (.ofNat b)) :
    opA E call r o h = some (.bool c, h) := by
  refine op_bin ho ?_
  rw [hx, hy]
  show some (AV.bool (ilt (.ofNat a) (.ofNat b))) = _
  rw [ilt_eq, ← hc]; simp
theorem ne_eq {a : Int} {k : IntKind} {r : Operand → AV} {E : Env} {call : Caller} {o : Oper} {x y : Operand} {t u : Nat} {h : H} (ho : o.op = .binOp .neq t x y u) (hx : r x = .int k a) (hy : r y = .int k a) :
    opA E call r o h = some (.bool false, h) := by
  refine op_bin ho ?_
  rw [hx, hy]
  show (if k = k then some (AV.bool (!ieq a a)) else none) = _
  rw [if_pos rfl, ieq_eq]; simp

/-- At the start of round i: so many have been given. -/
structure FI (h1 : H) (S : Nat) (base : Nat) (L N : List Int) (i at' : Nat) (h : H) : Prop where
  le : i ≤ N.length
  le20 : i ≤ 20
  at_le : at' ≤ L.length
  cell : ∃ v, h.get S = some (.cells [v] 1 true) ∧ Sl h v true (L.drop at') ∧ blk v ≠ some S
  frame : ∀ b, b < h1.next → h.get b = h1.get b
  lt : S < h.next
  hi : h.next ≤ base + i

theorem weak_all : ∀ {s' s : SL}, (∀ p ∈ s', lk s p.1 = some p.2) → ∀ t u, lk s' t = some u → lk s t = some u
  | [], _, _ => fun t v h => by cases h
  | (d, u) :: s', s, h => fun t v hl => by
    simp only [lk] at hl
    split at hl
    · rename_i hb
      have := Nat.eq_of_beq_eq_true hb
      subst this
      cases hl
      exact h (d, u) (by simp)
    · exact weak_all (fun p hp => h p (by simp [hp])) t v hl
def lst (v0 a1 : AV) (S at' i : Nat) : SL := [(8, .int .i64 (.ofNat i)), (7, .int .i64 (.ofNat at')), (6, .ptr S 0), (5, .bool true), (1, a1), (0, v0)]
theorem lst_holds {tm : Tm} {v0 a1 : AV} {S at' i : Nat} {s : SL} (hs : Holds tm s) (h8 : lk s 8 = some (.int .i64 (.ofNat i))) (h7 : lk s 7 = some (.int .i64 (.ofNat at'))) (h6 : lk s 6 = some (.ptr S 0)) (h5 : lk s 5 = some (.bool true)) (h1 : lk s 1 = some a1) (h0 : lk s 0 = some v0) :
    Holds tm (lst v0 a1 S at' i) := by
  refine holds_all ?_
  intro p hp
  simp only [lst, List.mem_cons, List.not_mem_nil, or_false] at hp
  rcases hp with rfl | rfl | rfl | rfl | rfl | rfl
  · exact hs _ _ h8
  · exact hs _ _ h7
  · exact hs _ _ h6
  · exact hs _ _ h5
  · exact hs _ _ h1
  · exact hs _ _ h0

theorem FI.lo {h1 h : H} {S base : Nat} {L N : List Int} {i at' : Nat} (hI : FI h1 S base L N i at' h) (hS : h1.next ≤ S) : h1.next ≤ h.next := by have := hI.lt; omega
theorem FI.fr {h1 h : H} {S base : Nat} {L N M : List Int} {i at' : Nat} {v : AV} {w : Bool} (hI : FI h1 S base L N i at' h) (hS : h1.next ≤ S) (hm : Sl h1 v w M) : Sl h v w M :=
  hm.frame (fun b hb => hI.frame b (hm.blk_lt hb)) (hI.lo hS)

set_option maxHeartbeats 4000000 in
theorem findNext_eq {a0 a1 : AV} {o0 o1 : Option AObj} {L0 N : List Int} (h0 : Sl (H2 o0 o1) a0 false L0) (hN : Sl (H2 o0 o1) a1 false N) :
    ∃ v' h', callA E0 noOrc 10000 21 (.fn 4 []) [a0, a1] (H2 o0 o1) = some (v', h') ∧ v' = .bool true := by
  refine s_call (n := 20) fn4 rfl rfl rfl ?_
  have hle : Try.f4.ntmps ≤ 512 := by decide
  obtain ⟨h1, hrun, e0, e1, en⟩ : ∃ h1, callA E0 noOrc 10000 20 (.fn 6 []) [] (H2 o0 o1) = some (.bool true, h1) ∧ h1.get 0 = o0 ∧ h1.get 1 = o1 ∧ h1.next = 25 := by
    have := begun_run o0 o1
    unfold begunB at this
    split at this
    · rename_i h1 hr
      simp only [Option.some.injEq, Prod.mk.injEq] at this
      exact ⟨h1, hr, this.1, this.2.1, this.2.2⟩
    · cases this
  have hfr : ∀ b, b < (H2 o0 o1).next → h1.get b = (H2 o0 o1).get b := by
    intro b hb
    have hb : b < 2 := hb
    have hb' : b = 0 ∨ b = 1 := by omega
    have hg : ∀ k, k < HM → (H2 o0 o1).get k = (T.set HD (T.set HD .e 0 o0) 1 o1).get HD k := fun k hk => by unfold H.get; rw [blt_true.2 hk]; rfl
    have hz : ∀ k, (T.e : T AObj).get HD k = none := fun k => rfl
    rcases hb' with rfl | rfl
    · rw [e0, hg 0 (by decide), T.get_set HD _ _ _ _ (by decide) (by decide), if_neg (by decide), T.get_set HD _ _ _ _ (by decide) (by decide), if_pos rfl]
    · rw [e1, hg 1 (by decide), T.get_set HD _ _ _ _ (by decide) (by decide), if_pos rfl]
  have hn2 : (H2 o0 o1).next ≤ h1.next := by rw [en]; show (2 : Nat) ≤ 25; omega
  have h0' : Sl h1 a0 false L0 := h0.frame (fun b hb => hfr b (h0.blk_lt hb)) hn2
  have hN' : Sl h1 a1 false N := hN.frame (fun b hb => hfr b (hN.blk_lt hb)) hn2
  refine sC_seq (sC_region (sO_op hle rfl rfl rfl rfl (sO_nil (sQ_seq ?_))))
  refine sC_seq (sC_region (sO_op hle rfl rfl rfl (op_call (f := 6) (cap := []) rfl rfl rfl hrun) (sO_op hle rfl rfl rfl rfl (sO_nil (sQ_seq ?_)))))
  -- hs is cut
  refine sC_seq (sC_mono (Q := fun ex tm h' => ex = .normal ∧ h' = h1 ∧ tm.n = 115 ∧ ∃ v0, Sl h1 v0 false (L0.take 2000) ∧ Holds tm [(0, v0), (1, a1), (5, .bool true)]) ?_ ?_)
  · refine sC_seq (sC_region (sO_op hle rfl rfl rfl rfl (sO_op hle rfl rfl rfl (op_len rfl rfl rfl rfl tkE22 h0'.len) ?_)))
    by_cases hc : 2000 < L0.length
    · refine sO_op hle rfl rfl rfl (op_bin (v := .bool true) rfl (show some (AV.bool (ilt 2000 L0.length)) = _ by rw [ilt_eq, decide_eq_true (by omega)])) (sO_nil (sQ_seq ?_))
      obtain ⟨v1, g1, g2, _⟩ := h0'.hi (e := 3) (eb := 8) (k := .i64) (n := 2000) (by omega)
      refine sC_true rfl rfl (sC_region (sO_op hle rfl rfl rfl rfl (sO_op hle rfl rfl rfl (op_slice (v := v1) rfl (by rw [tkE22]; exact g1)) (sO_op hle rfl rfl rfl rfl (sO_nil ?_)))))
      intro tm k1 k2
      refine ⟨rfl, rfl, k1, v1, g2, holds_all fun p hp => ?_⟩
      simp only [List.mem_cons, List.not_mem_nil, or_false] at hp
      rcases hp with rfl | rfl | rfl
      · exact k2 _ _ rfl
      · exact k2 _ _ rfl
      · exact k2 _ _ rfl
    · refine sO_op hle rfl rfl rfl (op_bin (v := .bool false) rfl (show some (AV.bool (ilt 2000 L0.length)) = _ by rw [ilt_eq, decide_eq_false (by omega)])) (sO_nil (sQ_seq ?_))
      refine sC_false rfl rfl (sC_skip ?_)
      intro tm k1 k2
      refine ⟨rfl, rfl, k1, a0, by rw [List.take_of_length_le (by omega)]; exact h0', holds_all fun p hp => ?_⟩
      simp only [List.mem_cons, List.not_mem_nil, or_false] at hp
      rcases hp with rfl | rfl | rfl
      · exact k2 _ _ rfl
      · exact k2 _ _ rfl
      · exact k2 _ _ rfl
  rintro ex tm h' ⟨rfl, rfl, hn, v0, hv0, hh⟩
  obtain ⟨L, eL⟩ : ∃ L, L = L0.take 2000 := ⟨_, rfl⟩
  rw [← eL] at hv0
  have hL : L.length ≤ 2000 := by rw [eL]; simp; omega
  have hHM : (10000 : Nat) ≤ HM := by decide
  refine (show sC E0 (callA E0 noOrc 10000 20) 4 10000 115 [(0, v0), (1, a1), (5, .bool true)] _ h' _ from ?_) tm hn hh
  obtain ⟨h2, eh2⟩ : ∃ h2, h2 = h'.alc (.cells [v0] 1 true) := ⟨_, rfl⟩
  have h2n : h2.next = 26 := by rw [eh2, next_alc, en]
  have g2 : ∀ b, b ≠ 25 → h2.get b = h'.get b := fun b hne => by rw [eh2, get_alc (by omega), if_neg (by omega)]
  obtain ⟨_, _, r1, rfl, rfl⟩ := numbers_eq (fuel := 10000) (n := 19) (h := h') hv0.cellsV (by omega)
  rw [← eh2] at r1
  obtain ⟨_, h3, r2, rfl, v, c1, c2, c3, c4, c5, c6⟩ := new_eq (fuel := 10000) (n := 17) (h := h2) (cb := h'.next) (hv := v0) (w := false) (L := L) (by rw [eh2, get_alc (by omega), if_pos rfl]) (by omega) (hv0.frame (fun b hb => g2 b (by have := hv0.blk_lt hb; omega)) (by omega)) hL (by omega) (by omega)
  refine sC_seq (sC_region (sO_op hle rfl rfl rfl rfl (sO_op hle rfl rfl rfl (op_call (f := 14) (cap := []) rfl rfl rfl r1) (sO_op hle rfl rfl rfl (op_call (f := 13) (cap := []) rfl rfl rfl r2) (sO_op hle rfl rfl rfl rfl (sO_nil (sQ_seq ?_)))))))
  refine sC_seq (sC_seq (sC_region (sO_op hle rfl rfl rfl rfl (sO_op hle rfl rfl rfl (op_bin (v := .bool false) rfl (by rw [tkE38]; rfl)) (sO_nil (sQ_seq ?_))))))
  refine sC_false rfl rfl (sC_skip (sQ_seq ?_))
  refine sC_seq (sC_region (sO_op hle rfl rfl rfl rfl (sO_nil (sQ_seq ?_))))
  refine sC_seq (sC_seq (sC_region (sO_op hle rfl rfl rfl rfl (sO_nil (sQ_seq ?_)))))
  obtain ⟨S, eS⟩ : ∃ S, S = h2.next := ⟨_, rfl⟩
  have hS : h'.next ≤ S := by omega
  have hI0 : FI h' S (h3.next) L N 0 0 h3 := ⟨by omega, by omega, by omega, ⟨v, by rw [eS]; exact c1, by simpa using c2, fun e => by have := c3 _ e; omega⟩, fun b hb => by rw [c4 b (by omega), g2 b (by omega)], by omega, by omega⟩
  rw [← eS]
  refine sC_block (sC_weak (s' := lst v0 a1 S 0 0) (weak_all fun p hp => by
    simp only [lst, List.mem_cons, List.not_mem_nil, or_false] at hp
    rcases hp with rfl | rfl | rfl | rfl | rfl | rfl <;> rfl) ?_)
  refine sC_loop (fun k s h => ∃ i at', k + i = 20 ∧ s = lst v0 a1 S at' i ∧ FI h' S h3.next L N i at' h) 20 (by omega) ⟨0, 0, rfl, rfl, hI0⟩ ?_
  clear hI0
  rintro k s h ⟨i, at', hki, rfl, hI⟩
  have hv0h : Sl h v0 false L := hI.fr hS hv0
  have hNh : Sl h a1 false N := hI.fr hS hN'
  obtain ⟨v, hcell, hsl, hne⟩ := hI.cell
  have hlen : h.next < HM := by have := hI.hi; have := hI.le20; omega
  -- the end of a round
  have next : ∀ {tm : Tm} {h4 : H} {at2 : Nat} {s : SL} (Q : AEx → Tm → H → Prop), i < N.length → i < 20 → FI h' S h3.next L N (i+1) at2 h4 → tm.n = 115 → Holds tm s → lk s 8 = some (.int .i64 (.ofNat i)) → lk s 7 = some (.int .i64 (.ofNat at2)) → lk s 6 = some (.ptr S 0) → lk s 5 = some (.bool true) → lk s 1 = some a1 → lk s 0 = some v0 →
      wpC E0 (callA E0 noOrc 10000 20) 4 10000 (.region 10 #[{ dst := some 32, op := .move (.tmp 8), type := 3, pos := "law.go:100", after := #[], guard := none }, { dst := some 33, op := .binOp .add 3 (.tmp 32) (.const (.int .i64 1)) 3, type := 3, pos := "law.go:100", after := #[{ on := 0, ground := .data }], guard := none }, { dst := some 8, op := .assign (.tmp 33), type := 3, pos := "law.go:100", after := #[{ on := 1, ground := .data }, { on := 0, ground := .phase }, { on := 1, ground := .phase }], guard := none }] false) tm h4
        (seqQ (fun tm h => ∃ m s', m < k ∧ (∃ i at', m + i = 20 ∧ s' = lst v0 a1 S at' i ∧ FI h' S h3.next L N i at' h) ∧ tm.n = 115 ∧ Holds tm s') Q) := by
    intro tm h4 at2 s Q hiN hi20 hF k1 k2 l8 l7 l6 l5 l1 l0
    refine (show sC E0 (callA E0 noOrc 10000 20) 4 10000 115 (lst v0 a1 S at2 i) _ h4 _ from ?_) tm k1 (lst_holds k2 l8 l7 l6 l5 l1 l0)
    refine sC_region (sO_op hle rfl rfl rfl rfl (sO_op hle rfl rfl rfl (inc_eq (i := i) (by omega) rfl rfl rfl) (sO_op hle rfl rfl rfl rfl (sO_nil ?_))))
    intro tm2 q1 q2
    exact ⟨k - 1, _, by omega, ⟨i+1, at2, by omega, rfl, hF⟩, q1, lst_holds q2 rfl rfl rfl rfl rfl rfl⟩
  refine sC_seq (sC_seq (sC_region ?_))
  refine sO_op hle rfl rfl rfl rfl (sO_op hle rfl rfl rfl rfl (sO_op hle rfl rfl rfl (op_len rfl rfl rfl rfl tkE22 hNh.len) ?_))
  by_cases hiN : i < N.length
  case neg =>
    refine sO_op hle rfl rfl rfl (lt_eq (a := i) (b := N.length) (c := false) (by simpa using hiN) rfl rfl rfl) (sO_op hle rfl rfl rfl rfl (sO_skip hle rfl rfl rfl rfl rfl rfl (sO_skip hle rfl rfl rfl rfl rfl rfl (sO_op hle rfl rfl rfl (v := .bool false) rfl (sO_nil (sQ_seq ?_))))))
    refine sC_false rfl rfl (sC_exit ?_)
    refine sQ_seq (sC_seq (sC_region (sO_op hle rfl rfl rfl rfl (sO_op hle rfl rfl rfl rfl (sO_nil (sQ_seq (sC_ret ?_)))))))
    exact sQ_end (R := fun v' _ => v' = .bool true) (.inr rfl) rfl rfl
  refine sO_op hle rfl rfl rfl (lt_eq (a := i) (b := N.length) (c := true) (by simpa using hiN) rfl rfl rfl) (sO_op hle rfl rfl rfl rfl ?_)
  by_cases hi20 : i < 20
  case neg =>
    refine sO_do hle rfl rfl rfl rfl rfl rfl rfl (sO_do hle rfl rfl rfl rfl rfl rfl (lt_eq (a := i) (b := 20) (c := false) (by simpa using hi20) rfl rfl rfl) (sO_op hle rfl rfl rfl (v := .bool false) rfl (sO_nil (sQ_seq ?_))))
    refine sC_false rfl rfl (sC_exit ?_)
    refine sQ_seq (sC_seq (sC_region (sO_op hle rfl rfl rfl rfl (sO_op hle rfl rfl rfl rfl (sO_nil (sQ_seq (sC_ret ?_)))))))
    exact sQ_end (R := fun v' _ => v' = .bool true) (.inr rfl) rfl rfl
  refine sO_do hle rfl rfl rfl rfl rfl rfl rfl (sO_do hle rfl rfl rfl rfl rfl rfl (lt_eq (a := i) (b := 20) (c := true) (by simpa using hi20) rfl rfl rfl) (sO_op hle rfl rfl rfl (v := .bool true) rfl (sO_nil (sQ_seq ?_))))
  refine sC_true rfl rfl (sC_skip (sQ_seq ?_))
  refine sC_seq (sC_block (sC_seq (sC_region ?_)))
  obtain ⟨a, x1, x2⟩ := hNh.idx (e := 3) (eb := 8) (k := .i64) (ti := ⟨1, false, some [.int .i64 0], 1, .int .i64⟩) hiN rfl
  have xi : indexAddrA (E0.tk 22) a1 (.int .i64 (.ofNat i)) = some a := by rw [tkE22]; exact x1
  refine sO_op hle rfl rfl rfl rfl (sO_op hle rfl rfl rfl rfl (sO_op hle rfl rfl rfl rfl (sO_op hle rfl rfl rfl (op_indexAddr (v := a) rfl xi) (sO_op hle rfl rfl rfl (op_load rfl ti3 x2) ?_))))
  by_cases hbad : N[i] < 0 ∨ 1024 < N[i]
  · obtain ⟨_, _, r3, e3, e4⟩ := next_bad (fuel := 10000) (n := 19) (h := h) (s := S) hbad
    rw [e3, e4] at r3
    clear e3 e4
    have hF : FI h' S h3.next L N (i+1) at' h := ⟨by omega, by omega, hI.at_le, hI.cell, hI.frame, hI.lt, by have := hI.hi; omega⟩
    refine sO_op hle rfl rfl rfl (op_call (f := 15) (cap := []) rfl rfl rfl r3) (sO_op hle rfl rfl rfl rfl (sO_op hle rfl rfl rfl (v := .nils) rfl (sO_op hle rfl rfl rfl (v := .int .i64 7) rfl (sO_op hle rfl rfl rfl rfl (sO_op hle rfl rfl rfl rfl (sO_nil (sQ_seq ?_)))))))
    refine sC_seq (sC_seq (sC_region ?_))
    refine sO_op hle rfl rfl rfl rfl (sO_op hle rfl rfl rfl rfl (sO_op hle rfl rfl rfl (op_indexAddr (v := a) rfl xi) (sO_op hle rfl rfl rfl (op_load rfl ti3 x2) ?_)))
    have tail : ∀ {s : SL}, lk s 54 = some (.bool true) → lk s 10 = some (.int .i64 7) → lk s 9 = some .nils → lk s 8 = some (.int .i64 (.ofNat i)) → lk s 7 = some (.int .i64 (.ofNat at')) → lk s 6 = some (.ptr S 0) → lk s 5 = some (.bool true) → lk s 1 = some a1 → lk s 0 = some v0 →
        ∀ t u, lk ([(54, .bool true), (10, .int .i64 7), (9, .nils)] ++ lst v0 a1 S at' i : SL) t = some u → lk s t = some u := by
      intro s l54 l10 l9 l8 l7 l6 l5 l1 l0
      refine weak_all fun p hp => ?_
      simp only [lst, List.cons_append, List.nil_append, List.mem_cons, List.not_mem_nil, or_false] at hp
      rcases hp with rfl | rfl | rfl | rfl | rfl | rfl | rfl | rfl | rfl <;> assumption
    have rest : ∀ {s : SL} {Q : AEx → Tm → H → Prop} {c : Code}, (∀ t u, lk ([(54, .bool true), (10, .int .i64 7), (9, .nils)] ++ lst v0 a1 S at' i : SL) t = some u → lk s t = some u) →
        sC E0 (callA E0 noOrc 10000 20) 4 10000 115 ([(54, .bool true), (10, .int .i64 7), (9, .nils)] ++ lst v0 a1 S at' i) c h Q → sC E0 (callA E0 noOrc 10000 20) 4 10000 115 s c h Q := fun hw hk => sC_weak hw hk
    by_cases hz : N[i] < 0
    · refine sO_op hle rfl rfl rfl (op_bin (v := .bool true) rfl (show some (AV.bool (ilt N[i] 0)) = _ by rw [ilt_eq, decide_eq_true hz])) (sO_op hle rfl rfl rfl rfl ?_)
      refine sO_skip hle rfl rfl rfl rfl rfl rfl (sO_skip hle rfl rfl rfl rfl rfl rfl (sO_skip hle rfl rfl rfl rfl rfl rfl (sO_skip hle rfl rfl rfl rfl rfl rfl (sO_skip hle rfl rfl rfl rfl rfl rfl (sO_op hle rfl rfl rfl (v := .bool true) rfl (sO_nil (sQ_seq ?_)))))))
      refine rest (tail rfl rfl rfl rfl rfl rfl rfl rfl rfl) (sC_true rfl rfl ?_)
      refine sC_seq (sC_seq (sC_region (sO_op hle rfl rfl rfl rfl (sO_op hle rfl rfl rfl (ne_eq (k := .i64) (a := 7) rfl rfl rfl) (sO_op hle rfl rfl rfl rfl (sO_do hle rfl rfl rfl rfl rfl rfl rfl (sO_do hle rfl rfl rfl rfl rfl rfl (op_len rfl rfl rfl rfl tkE22 rfl) (sO_do hle rfl rfl rfl rfl rfl rfl (ne_eq (k := .i64) (a := 0) rfl rfl rfl) (sO_op hle rfl rfl rfl (v := .bool false) rfl (sO_nil (sQ_seq ?_)))))))))))
      refine sC_false rfl rfl (sC_skip (sQ_seq (sC_exit ?_)))
      intro tm k1 k2
      exact next _ hiN hi20 hF k1 k2 rfl rfl rfl rfl rfl rfl
    · have hz2 : 1024 < N[i] := by omega
      refine sO_op hle rfl rfl rfl (op_bin (v := .bool false) rfl (show some (AV.bool (ilt N[i] 0)) = _ by rw [ilt_eq, decide_eq_false hz])) (sO_op hle rfl rfl rfl rfl ?_)
      refine sO_do hle rfl rfl rfl rfl rfl rfl rfl (sO_do hle rfl rfl rfl rfl rfl rfl rfl (sO_do hle rfl rfl rfl rfl rfl rfl (op_indexAddr (v := a) rfl xi) (sO_do hle rfl rfl rfl rfl rfl rfl (op_load rfl ti3 x2) ?_)))
      refine sO_do hle rfl rfl rfl rfl rfl rfl (op_bin (v := .bool true) rfl (show some (AV.bool (ilt 1024 N[i])) = _ by rw [ilt_eq, decide_eq_true hz2])) (sO_op hle rfl rfl rfl (v := .bool true) rfl (sO_nil (sQ_seq ?_)))
      refine rest (tail rfl rfl rfl rfl rfl rfl rfl rfl rfl) (sC_true rfl rfl ?_)
      refine sC_seq (sC_seq (sC_region (sO_op hle rfl rfl rfl rfl (sO_op hle rfl rfl rfl (ne_eq (k := .i64) (a := 7) rfl rfl rfl) (sO_op hle rfl rfl rfl rfl (sO_do hle rfl rfl rfl rfl rfl rfl rfl (sO_do hle rfl rfl rfl rfl rfl rfl (op_len rfl rfl rfl rfl tkE22 rfl) (sO_do hle rfl rfl rfl rfl rfl rfl (ne_eq (k := .i64) (a := 0) rfl rfl rfl) (sO_op hle rfl rfl rfl (v := .bool false) rfl (sO_nil (sQ_seq ?_)))))))))))
      refine sC_false rfl rfl (sC_skip (sQ_seq (sC_exit ?_)))
      intro tm k1 k2
      exact next _ hiN hi20 hF k1 k2 rfl rfl rfl rfl rfl rfl
  obtain ⟨k', ek⟩ : ∃ k' : Nat, N[i] = Int.ofNat k' := ⟨N[i].toNat, by simp; omega⟩
  have hk' : k' ≤ 1024 := by have h := ek; simp at h; omega
  rw [ek] at x2
  obtain ⟨m, em⟩ : ∃ m, m = min k' (L.length - at') := ⟨_, rfl⟩
  have hat := hI.at_le
  obtain ⟨_, h4, r3, o, v2, e3, q1, q2, q3, q4, q5, q6, q7, q8⟩ := next_eq (fuel := 10000) (n := 19) (h := h) (s := S) (v := v) (w := true) (L := L.drop at') (k := k') hk' hcell hI.lt hsl hne hlen (by simp; omega)
  rw [e3] at r3
  clear e3
  have hfr4 : ∀ b, b < h'.next → h4.get b = h'.get b := fun b hb => (q7 b (by have := hI.lo hS; omega) (by omega)).trans (hI.frame b hb)
  have hn4 : h'.next ≤ h4.next := by have := hI.lo hS; omega
  have hv04 : Sl h4 v0 false L := hv0.frame (fun b hb => hfr4 b (hv0.blk_lt hb)) hn4
  have hN4 : Sl h4 a1 false N := hN'.frame (fun b hb => hfr4 b (hN'.blk_lt hb)) hn4
  have y2 : loadA h4 ⟨1, false, some [.int .i64 0], 1, .int .i64⟩ a = some (.int .i64 (.ofNat k')) := by
    obtain ⟨a', y1, y2⟩ := hN4.idx (e := 3) (eb := 8) (k := .i64) (ti := ⟨1, false, some [.int .i64 0], 1, .int .i64⟩) hiN rfl
    rw [x1] at y1; cases y1; rw [← ek]; exact y2
  have hm1 : ((L.drop at').take k').length = m := by rw [em]; simp
  have hd : (L.drop at').drop k' = L.drop (at' + m) := by
    rw [List.drop_drop, em]
    rcases Nat.le_total k' (L.length - at') with hh | hh
    · rw [Nat.min_eq_left hh]
    · rw [Nat.min_eq_right hh, List.drop_of_length_le (by omega), List.drop_of_length_le (by omega)]
  rw [hd] at q3
  have hml : at' + m ≤ L.length := by rw [em]; have := Nat.min_le_right k' (L.length - at'); omega
  have hF : FI h' S h3.next L N (i+1) (at' + m) h4 := ⟨by omega, by omega, hml, ⟨v2, q2, q3, by rw [q4]; exact hne⟩, hfr4, by have := hI.lt; omega, by have := hI.hi; omega⟩
  refine sO_op hle rfl rfl rfl (op_call (f := 15) (cap := []) rfl rfl rfl (by rw [← ek] at r3; exact r3)) (sO_op hle rfl rfl rfl rfl (sO_op hle rfl rfl rfl (v := o) rfl (sO_op hle rfl rfl rfl (v := .int .i64 0) rfl (sO_op hle rfl rfl rfl rfl (sO_op hle rfl rfl rfl rfl (sO_nil (sQ_seq ?_)))))))
  refine sC_seq (sC_seq (sC_region ?_))
  refine sO_op hle rfl rfl rfl rfl (sO_op hle rfl rfl rfl rfl (sO_op hle rfl rfl rfl (op_indexAddr (v := a) rfl xi) (sO_op hle rfl rfl rfl (op_load rfl ti3 y2) ?_)))
  refine sO_op hle rfl rfl rfl (lt_eq (a := k') (b := 0) (c := false) (by simp) rfl rfl rfl) (sO_op hle rfl rfl rfl rfl ?_)
  refine sO_do hle rfl rfl rfl rfl rfl rfl rfl (sO_do hle rfl rfl rfl rfl rfl rfl rfl (sO_do hle rfl rfl rfl rfl rfl rfl (op_indexAddr (v := a) rfl xi) (sO_do hle rfl rfl rfl rfl rfl rfl (op_load rfl ti3 y2) ?_)))
  refine sO_do hle rfl rfl rfl rfl rfl rfl (op_bin (v := .bool false) rfl (show some (AV.bool (ilt 1024 (.ofNat k'))) = _ by rw [ilt_eq, decide_eq_false (by simp; omega)])) (sO_op hle rfl rfl rfl (v := .bool false) rfl (sO_nil (sQ_seq ?_)))
  refine sC_false rfl rfl (sC_skip (sQ_seq ?_))
  refine sC_seq (sC_region ?_)
  refine sO_op hle rfl rfl rfl rfl (sO_op hle rfl rfl rfl (op_len rfl rfl rfl rfl tkE22 hv04.len) (sO_op hle rfl rfl rfl rfl (sO_op hle rfl rfl rfl (sub_eq (a := L.length) (b := at') hat (by omega) rfl rfl rfl) (sO_op hle rfl rfl rfl rfl (sO_nil (sQ_seq ?_))))))
  -- n = min
  refine sC_seq (sC_mono (Q := fun ex tm hx => ex = .normal ∧ hx = h4 ∧ tm.n = 115 ∧ Holds tm ([(11, .int .i64 (.ofNat m)), (10, .int .i64 0), (9, o)] ++ lst v0 a1 S at' i)) ?_ ?_)
  · have fin : ∀ {tm : Tm} {s : SL}, Holds tm s → lk s 11 = some (.int .i64 (.ofNat m)) → lk s 10 = some (.int .i64 0) → lk s 9 = some o → lk s 8 = some (.int .i64 (.ofNat i)) → lk s 7 = some (.int .i64 (.ofNat at')) → lk s 6 = some (.ptr S 0) → lk s 5 = some (.bool true) → lk s 1 = some a1 → lk s 0 = some v0 →
        Holds tm ([(11, .int .i64 (.ofNat m)), (10, .int .i64 0), (9, o)] ++ lst v0 a1 S at' i) := by
      intro tm s hs l11 l10 l9 l8 l7 l6 l5 l1 l0
      refine holds_all fun p hp => ?_
      simp only [lst, List.cons_append, List.nil_append, List.mem_cons, List.not_mem_nil, or_false] at hp
      rcases hp with rfl | rfl | rfl | rfl | rfl | rfl | rfl | rfl | rfl <;> exact hs _ _ (by assumption)
    refine sC_seq (sC_region (sO_op hle rfl rfl rfl rfl (sO_op hle rfl rfl rfl rfl (sO_op hle rfl rfl rfl (op_indexAddr (v := a) rfl xi) (sO_op hle rfl rfl rfl (op_load rfl ti3 y2) (sO_op hle rfl rfl rfl rfl ?_))))))
    by_cases hc : k' < L.length - at'
    · refine sO_op hle rfl rfl rfl (lt_eq (a := k') (b := L.length - at') (c := true) (by simpa using hc) rfl rfl rfl) (sO_nil (sQ_seq ?_))
      refine sC_true rfl rfl (sC_region (sO_op hle rfl rfl rfl rfl (sO_op hle rfl rfl rfl rfl (sO_op hle rfl rfl rfl (op_indexAddr (v := a) rfl xi) (sO_op hle rfl rfl rfl (op_load rfl ti3 y2) (sO_op hle rfl rfl rfl rfl (sO_nil ?_)))))))
      intro tm k1 k2
      have : m = k' := by rw [em]; exact Nat.min_eq_left (by omega)
      exact ⟨rfl, rfl, k1, fin k2 (by rw [this]; rfl) rfl rfl rfl rfl rfl rfl rfl rfl⟩
    · refine sO_op hle rfl rfl rfl (lt_eq (a := k') (b := L.length - at') (c := false) (by simpa using hc) rfl rfl rfl) (sO_nil (sQ_seq ?_))
      refine sC_false rfl rfl (sC_skip ?_)
      intro tm k1 k2
      have : m = L.length - at' := by rw [em]; exact Nat.min_eq_right (by omega)
      exact ⟨rfl, rfl, k1, fin k2 (by rw [this]; rfl) rfl rfl rfl rfl rfl rfl rfl rfl⟩
  rintro ex tm hx ⟨rfl, e4, k1, k2⟩
  rw [e4]
  clear e4
  refine (show sC E0 (callA E0 noOrc 10000 20) 4 10000 115 ([(11, .int .i64 (.ofNat m)), (10, .int .i64 0), (9, o)] ++ lst v0 a1 S at' i) _ _ _ from ?_) tm k1 k2
  have hol : lenA (slK 3 8) o h4 = some (.int .i64 (.ofNat m)) := by have := q1.len (e := 3) (eb := 8); rw [hm1] at this; exact this
  obtain ⟨_, _, r4, e5, e6⟩ := left_eq (fuel := 10000) (n := 19) q2 q3
  rw [e5, e6, List.length_drop, show L.length - (at' + m) = L.length - at' - m by omega] at r4
  clear e5 e6
  refine sC_seq (sC_seq (sC_region ?_))
  refine sO_op hle rfl rfl rfl rfl (sO_op hle rfl rfl rfl (ne_eq (k := .i64) (a := 0) rfl rfl rfl) (sO_op hle rfl rfl rfl rfl ?_))
  refine sO_do hle rfl rfl rfl rfl rfl rfl rfl (sO_do hle rfl rfl rfl rfl rfl rfl (op_len rfl rfl rfl rfl tkE22 hol) (sO_do hle rfl rfl rfl rfl rfl rfl rfl (sO_do hle rfl rfl rfl rfl rfl rfl (ne_eq (k := .i64) (a := .ofNat m) rfl rfl rfl) ?_)))
  refine sO_op hle rfl rfl rfl (v := .bool false) rfl (sO_op hle rfl rfl rfl rfl ?_)
  refine sO_do hle rfl rfl rfl rfl rfl rfl rfl (sO_do hle rfl rfl rfl rfl rfl rfl (op_call (f := 16) (cap := []) rfl rfl rfl r4) (sO_do hle rfl rfl rfl rfl rfl rfl rfl (sO_do hle rfl rfl rfl rfl rfl rfl (op_len rfl rfl rfl rfl tkE22 hv04.len) ?_)))
  refine sO_do hle rfl rfl rfl rfl rfl rfl rfl (sO_do hle rfl rfl rfl rfl rfl rfl (sub_eq (a := L.length) (b := at') hat (by omega) rfl rfl rfl) ?_)
  refine sO_do hle rfl rfl rfl rfl rfl rfl rfl (sO_do hle rfl rfl rfl rfl rfl rfl (sub_eq (a := L.length - at') (b := m) (by omega) (by omega) rfl rfl rfl) ?_)
  refine sO_do hle rfl rfl rfl rfl rfl rfl (ne_eq (k := .i64) (a := .ofNat (L.length - at' - m)) rfl rfl rfl) (sO_op hle rfl rfl rfl (v := .bool false) rfl (sO_nil (sQ_seq ?_)))
  refine sC_false rfl rfl (sC_skip (sQ_seq ?_))
  -- each is the one that was to come
  refine sC_seq (sC_seq (sC_region (sO_op hle rfl rfl rfl rfl (sO_nil (sQ_seq ?_)))))
  refine sC_block (sC_weak (s' := [(12, .int .i64 (.ofNat 0)), (11, .int .i64 (.ofNat m)), (9, o)] ++ lst v0 a1 S at' i) (weak_all fun p hp => by
    simp only [lst, List.cons_append, List.nil_append, List.mem_cons, List.not_mem_nil, or_false] at hp
    rcases hp with rfl | rfl | rfl | rfl | rfl | rfl | rfl | rfl | rfl <;> rfl) ?_)
  refine sC_loop (fun kk s hx => ∃ j, kk + j = m ∧ s = [(12, .int .i64 (.ofNat j)), (11, .int .i64 (.ofNat m)), (9, o)] ++ lst v0 a1 S at' i ∧ hx = h4) m (by rw [em]; have := Nat.min_le_left k' (L.length - at'); omega) ⟨0, by omega, rfl, rfl⟩ ?_
  rintro kk s hx ⟨j, hj, rfl, e4⟩
  rw [e4]
  clear e4
  refine sC_seq (sC_seq (sC_region (sO_op hle rfl rfl rfl rfl (sO_op hle rfl rfl rfl rfl ?_))))
  by_cases hjm : j < m
  case neg =>
    refine sO_op hle rfl rfl rfl (lt_eq (a := j) (b := m) (c := false) (by simpa using hjm) rfl rfl rfl) (sO_nil (sQ_seq ?_))
    refine sC_false rfl rfl (sC_exit ?_)
    refine sQ_seq (sC_region (sO_op hle rfl rfl rfl rfl (sO_op hle rfl rfl rfl rfl (sO_op hle rfl rfl rfl (add_eq (a := at') (b := m) (by omega) (by omega) rfl rfl rfl) (sO_op hle rfl rfl rfl rfl (sO_nil ?_))))))
    intro tm k1 k2
    exact next _ hiN hi20 hF k1 k2 rfl rfl rfl rfl rfl rfl
  refine sO_op hle rfl rfl rfl (lt_eq (a := j) (b := m) (c := true) (by simpa using hjm) rfl rfl rfl) (sO_nil (sQ_seq ?_))
  refine sC_true rfl rfl (sC_skip (sQ_seq ?_))
  have hjl : j < ((L.drop at').take k').length := by omega
  have hjl2 : at' + j < L.length := by omega
  obtain ⟨b1, y3, y4⟩ := q1.idx (e := 3) (eb := 8) (k := .i64) (ti := ⟨1, false, some [.int .i64 0], 1, .int .i64⟩) hjl rfl
  obtain ⟨b2, y5, y6⟩ := hv04.idx (e := 3) (eb := 8) (k := .i64) (ti := ⟨1, false, some [.int .i64 0], 1, .int .i64⟩) hjl2 rfl
  have hsame : ((L.drop at').take k')[j] = L[at' + j] := by simp
  rw [hsame] at y4
  refine sC_seq (sC_block (sC_seq (sC_drawq hle (by kernel_rfl) (by kernel_rfl) (by kernel_rfl) ?_)))
  refine sD_op rfl rfl rfl (v := o) rfl q1.avEq (sD_op rfl rfl rfl (v := .int .i64 (.ofNat j)) rfl avEq_int (sD_op rfl rfl rfl (op_indexAddr (v := b1) rfl (by rw [tkE22]; exact y3)) (avEq_load y4) (sD_op rfl rfl rfl (op_load rfl ti3 y4) avEq_int ?_)))
  refine sD_op rfl rfl rfl (v := v0) rfl hv04.avEq (sD_op rfl rfl rfl (v := .int .i64 (.ofNat at')) rfl avEq_int (sD_op rfl rfl rfl (v := .int .i64 (.ofNat j)) rfl avEq_int (sD_op rfl rfl rfl (add_eq (a := at') (b := j) (by omega) (by omega) rfl rfl rfl) avEq_int ?_)))
  refine sD_op rfl rfl rfl (op_indexAddr (v := b2) rfl (by rw [tkE22]; exact y5)) (avEq_load y6) (sD_op rfl rfl rfl (op_load rfl ti3 y6) avEq_int (sD_op rfl rfl rfl (ne_eq (k := .i64) (a := L[at' + j]) rfl rfl rfl) avEq_bool ?_))
  refine sQ_seq (sC_false rfl rfl (sC_skip (sQ_seq ?_)))
  refine sC_region (sO_op hle rfl rfl rfl rfl (sO_op hle rfl rfl rfl (inc_eq (i := j) (by omega) rfl rfl rfl) (sO_op hle rfl rfl rfl rfl (sO_nil ?_))))
  intro tm k1 k2
  refine ⟨kk - 1, [(12, .int .i64 (.ofNat (j+1))), (11, .int .i64 (.ofNat m)), (9, o)] ++ lst v0 a1 S at' i, by omega, ⟨j+1, by omega, rfl, rfl⟩, k1, holds_all fun p hp => ?_⟩
  simp only [lst, List.cons_append, List.nil_append, List.mem_cons, List.not_mem_nil, or_false] at hp
  rcases hp with rfl | rfl | rfl | rfl | rfl | rfl | rfl | rfl | rfl <;> exact k2 _ _ rfl
end Go.Proofs.Ytgafbagehjmipaa

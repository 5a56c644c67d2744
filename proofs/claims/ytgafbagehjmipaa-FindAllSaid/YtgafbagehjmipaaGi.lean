/- find: FindAll's loop over what is found: its body. -/
import Derived.Test.YtgafbagehjmipaaGh
namespace Go.Proofs.Ytgafbagehjmipaa
open Bly

theorem fn3 : E0.func 3 = some Try.f3 := by kernel_rfl
/-- The two codes of the first loop over a function. -/
def rng : Code → Option (Code × Code)
  | .rangeFunc _ _ a b => some (a, b)
  | .seq a b => match rng a with | some r => some r | none => rng b
  | .cond _ a b => match rng a with | some r => some r | none => rng b
  | .block _ c => rng c
  | .loop c => rng c
  | .scope c => rng c
  | _ => none
noncomputable def rngOf (F : Func) : Code × Code := match F.body with | some c => (rng c).getD (.skip, .skip) | none => (.skip, .skip)
theorem gpn {h : H} {b c : Nat} {o : AObj} (hb : b < HM) (hc : c ≠ b) : (h.put b o).get c = h.get c := by rw [H.get_put hb, if_neg hc]
theorem gpe {h : H} {b : Nat} {o : AObj} (hb : b < HM) : (h.put b o).get b = some o := by rw [H.get_put hb, if_pos rfl]
theorem ge_eq {a b : Nat} {c : Bool} (hc : decide (b ≤ a) = c) {r : Operand → AV} {E : Env} {call : Caller} {o : Oper} {x y : Operand} {t u : Nat} {h : H} (ho : o.op = .binOp .geq t x y u) (hx : r x = .int .i64 (.ofNat a)) (hy : r y = .int .i64 (.ofNat b)) :
    opA E call r o h = some (.bool c, h) := by
  refine op_bin ho ?_
  rw [hx, hy]
  show some (AV.bool (!ilt (.ofNat a) (.ofNat b))) = _
  rw [ilt_eq, ← hc]
  congr 2
  by_cases h : b ≤ a
  · rw [decide_eq_true h, decide_eq_false (by simp; omega)]; rfl
  · rw [decide_eq_false h, decide_eq_true (by simp; omega)]; rfl
theorem ne_eq {a : Int} {k : IntKind} {r : Operand → AV} {E : Env} {call : Caller} {o : Oper} {x y : Operand} {t u : Nat} {h : H} (ho : o.op = .binOp .neq t x y u) (hx : r x = .int k a) (hy : r y = .int k a) :
    opA E call r o h = some (.bool false, h) := by
  refine op_bin ho ?_
  rw [hx, hy]
  show (if k = k then some (AV.bool (!ieq a a)) else none) = _
  rw [if_pos rfl, ieq_eq]; simp
theorem sub_eq {a b : Nat} (hb : b ≤ a) (ha : a < 1000000) {r : Operand → AV} {E : Env} {call : Caller} {o : Oper} {x y : Operand} {t u : Nat} {h : H} (ho : o.op = .binOp .sub t x y u) (hx : r x = .int .i64 (.ofNat a)) (hy : r y = .int .i64 (.ofNat b)) :
    opA E call r o h = some (.int .i64 (.ofNat (a-b)), h) := by
  refine op_bin ho ?_
  rw [hx, hy]
  show some (AV.int .i64 (wrapA .i64 (Int.ofNat a - Int.ofNat b))) = _
  rw [show Int.ofNat a - Int.ofNat b = Int.ofNat (a - b) by simp; omega]
  unfold wrapA
  have : Nat.blt (a-b) (topOf .i64) = true := blt_true.2 (by show a - b < 9223372036854775808; omega)
  simp only [this]
theorem store1 {h : H} {ti : TI} {b : Nat} {x y : AV} (hs : ti.size = 1) (hc : cellsV y = some [y]) (hg : h.get b = some (.cells [x] 1 true)) : storeA h ti (.ptr b 0) y = some (h.put b (.cells [y] 1 true)) := by
  have h1 : Nat.beq ([y] : List AV).length 1 = true := rfl
  have h2 : Nat.ble (0 + 1) 1 = true := rfl
  simp only [storeA, hc, hs, h1, storeCellsA, hg, h2]
  rfl
/-- Where FindAll's variables lie. -/
structure Pos where
  cM : Nat
  cR : Nat
  cIs : Nat
  cW : Nat
  cA : Nat
  cC : Nat
  cK : Nat
  LB : Nat
structure Pos.Ok (p : Pos) : Prop where
  a : p.cM < p.cR
  b : p.cR < p.cIs
  c : p.cIs < p.cW
  d : p.cW < p.cA
  e : p.cA < p.cC
  f : p.cC < p.cK
  g : p.cK < p.LB
  h : p.LB + 5000 < HM
def Pos.sl (p : Pos) : SL := [(9, .ptr p.cM 0), (10, .ptr p.cR 0), (11, .ptr p.cIs 0), (14, .ptr p.cW 0), (15, .ptr p.cA 0), (18, .ptr p.cC 0), (20, .ptr p.cK 0)]
noncomputable def rec0 (tm0 : Tm) (st : LoopState) (pd : Option AEx) : AObj := .loop ⟨st, pd, 3, tm0, [111], (rngOf Try.f3).1, (rngOf Try.f3).2⟩
/-- What is found, and what else FindAll's variables hold. -/
structure Vars (p : Pos) (most : Int) (W A : List Int) (c k : Nat) (h : H) : Prop where
  m : h.get p.cM = some (.cells [.int .i64 most] 1 true)
  r : ∃ x, h.get p.cR = some (.cells [x] 1 true)
  is : h.get p.cIs = some (.cells [.bool true] 1 true)
  w : ∃ v, h.get p.cW = some (.cells [v] 1 true) ∧ Sl h v true W ∧ ∀ b, blk v = some b → p.cA < b ∧ b < p.cC
  a : ∃ v, h.get p.cA = some (.cells [v] 1 true) ∧ Sl h v true A ∧ ∀ b, blk v = some b → p.cA < b ∧ b < p.cC
  c : h.get p.cC = some (.cells [.int .i64 (.ofNat c)] 1 true)
  k : h.get p.cK = some (.cells [.int .i64 (.ofNat k)] 1 true)
theorem Vars.frame {p : Pos} {most : Int} {W A : List Int} {c k : Nat} {h h' : H} (hp : p.Ok) (hv : Vars p most W A c k h) (hb : ∀ b, b ≤ p.cK → h'.get b = h.get b) (hn : h.next ≤ h'.next) : Vars p most W A c k h' := by
  obtain ⟨a, b, c, d, e, f, g, _⟩ := hp
  obtain ⟨m, ⟨x, r⟩, is, ⟨v, w1, w2, w3⟩, ⟨u, a1, a2, a3⟩, c1, k1⟩ := hv
  exact ⟨(hb _ (by omega)).trans m, ⟨x, (hb _ (by omega)).trans r⟩, (hb _ (by omega)).trans is, ⟨v, (hb _ (by omega)).trans w1, w2.frame (fun b hb' => hb b (by have := w3 b hb'; omega)) hn, w3⟩,
    ⟨u, (hb _ (by omega)).trans a1, a2.frame (fun b hb' => hb b (by have := a3 b hb'; omega)) hn, a3⟩, (hb _ (by omega)).trans c1, (hb _ (by omega)).trans k1⟩
theorem tkE53 : E0.tk 53 = .func := by unfold Env.tk; rw [ti53]

/-- One that is found: the law's loop looks whether it is the one that was to come. -/
theorem body0 {fuel n : Nat} {p : Pos} {most : Int} {W A : List Int} {c k : Nat} {h : H} {tm0 : Tm} (hp : p.Ok) (hn : tm0.n = 146) (ht : Holds tm0 p.sl) (hl : h.get p.LB = some (rec0 tm0 .ready none)) (hv : Vars p most W A c k h) (hk : k < W.length) (hka : k < A.length) (hk2 : k < 1000)
    (hA : A[k] = (c : Int)) :
    ∃ v h', callA E0 O6 fuel (n+1) (.yld p.LB) [.int .i64 W[k]] h = some (v, h') ∧ h'.next = h.next ∧ (∀ b, b ≠ p.cK → b ≠ p.cR → b ≠ p.LB → h'.get b = h.get b) ∧ h'.get p.cK = some (.cells [.int .i64 (.ofNat (k+1))] 1 true) ∧
      ((v = .bool true ∧ (k + 1 : Nat) ≠ most ∧ h'.get p.LB = some (rec0 tm0 .ready none) ∧ h'.get p.cR = h.get p.cR) ∨
       (v = .bool false ∧ h'.get p.LB = some (rec0 tm0 .done (some .ret)) ∧ h'.get p.cR = some (.cells [.bool true] 1 true))) := by
  obtain ⟨q1, q2, q3, q4, q5, q6, q7, q8⟩ := hp
  obtain ⟨vm, ⟨xr, vr⟩, vis, ⟨vw, w1, w2, w3⟩, ⟨va, a1, a2, a3⟩, vc, vk⟩ := hv
  unfold rec0 at hl
  refine yield_eqO hl rfl ?_
  have hle : (146 : Nat) ≤ 512 := by decide
  have hput : Holds (putAll [111] [.int .i64 W[k]] tm0) ((111, .int .i64 W[k]) :: p.sl) := ht.upd hn hle (d := some 111) rfl _
  have hputn : (putAll [111] [.int .i64 W[k]] tm0).n = 146 := (n_put).trans hn
  refine (show sC E0 (callA E0 O6 fuel n) 3 fuel 146 ((111, .int .i64 W[k]) :: p.sl) (rngOf Try.f3).1 h _ from ?_) _ hputn hput
  refine sC_region (sO_op hle rfl rfl rfl rfl (sO_nil ?_))
  intro tm1 k1 k2
  refine ⟨_, hl, rfl, ?_⟩
  obtain ⟨hb, ehb⟩ : ∃ hb, hb = h.put p.LB (.loop { (⟨.ready, none, 3, tm0, [111], (rngOf Try.f3).1, (rngOf Try.f3).2⟩ : LoopR) with state := .busy }) := ⟨_, rfl⟩
  have hB : p.LB < HM := by omega
  have gb : ∀ b, b ≠ p.LB → hb.get b = h.get b := fun b hne => by rw [ehb, gpn hB hne]
  have hbn : hb.next = h.next := by rw [ehb]; rfl
  have hbl : hb.get p.LB = some (.loop ⟨.busy, none, 3, tm0, [111], (rngOf Try.f3).1, (rngOf Try.f3).2⟩) := by rw [ehb, gpe hB]
  rw [← ehb]
  have w2b : Sl hb vw true W := w2.frame (fun b hb' => gb b (by have := w3 b hb'; omega)) (by omega)
  have a2b : Sl hb va true A := a2.frame (fun b hb' => gb b (by have := a3 b hb'; omega)) (by omega)
  have lk1 : hb.get p.cK = some (.cells [.int .i64 (.ofNat k)] 1 true) := (gb _ (by omega)).trans vk
  have lw1 : hb.get p.cW = some (.cells [vw] 1 true) := (gb _ (by omega)).trans w1
  obtain ⟨wa, x1, x2⟩ := w2b.idx (e := 3) (eb := 8) (k := .i64) (ti := tiI) hk rfl
  obtain ⟨h2, eh2⟩ : ∃ h2, h2 = hb.put p.cK (.cells [.int .i64 (.ofNat (k+1))] 1 true) := ⟨_, rfl⟩
  have hK : p.cK < HM := by omega
  have g2 : ∀ b, b ≠ p.cK → h2.get b = hb.get b := fun b hne => by rw [eh2, gpn hK hne]
  have g2k : h2.get p.cK = some (.cells [.int .i64 (.ofNat (k+1))] 1 true) := by rw [eh2, gpe hK]
  have h2n : h2.next = h.next := by rw [eh2]; exact hbn
  have a2c : Sl h2 va true A := a2b.frame (fun b hb' => g2 b (by have := a3 b hb'; omega)) (by omega)
  have st2 : storeA hb tiI (.ptr p.cK 0) (.int .i64 (.ofNat (k+1))) = some h2 := by rw [eh2]; exact store1 rfl rfl lk1
  have lm : h2.get p.cM = some (.cells [.int .i64 most] 1 true) := (g2 _ (by omega)).trans ((gb _ (by omega)).trans vm)
  have lis : h2.get p.cIs = some (.cells [.bool true] 1 true) := (g2 _ (by omega)).trans ((gb _ (by omega)).trans vis)
  have lc : h2.get p.cC = some (.cells [.int .i64 (.ofNat c)] 1 true) := (g2 _ (by omega)).trans ((gb _ (by omega)).trans vc)
  have la : h2.get p.cA = some (.cells [va] 1 true) := (g2 _ (by omega)).trans ((gb _ (by omega)).trans a1)
  have lr : h2.get p.cR = some (.cells [xr] 1 true) := (g2 _ (by omega)).trans ((gb _ (by omega)).trans vr)
  have h2l : h2.get p.LB = some (.loop ⟨.busy, none, 3, tm0, [111], (rngOf Try.f3).1, (rngOf Try.f3).2⟩) := (g2 _ (by omega)).trans hbl
  refine (show sC E0 (callA E0 O6 fuel n) 3 fuel 146 ((21, .int .i64 W[k]) :: (111, .int .i64 W[k]) :: p.sl) (rngOf Try.f3).2 hb _ from ?_) tm1 k1 k2
  refine sC_block (sC_seq (sC_seq (sC_region ?_)))
  refine sO_op hle rfl rfl rfl (op_load rfl ti3 (loadA_cell rfl lk1 rfl)) (sO_op hle rfl rfl rfl (op_load rfl ti22 (loadA_cell rfl lw1 rfl)) (sO_op hle rfl rfl rfl (op_len rfl rfl rfl rfl tkE22 w2b.len) ?_))
  refine sO_op hle rfl rfl rfl (ge_eq (a := k) (b := W.length) (c := false) (decide_eq_false (by omega)) rfl rfl rfl) (sO_op hle rfl rfl rfl rfl ?_)
  refine sO_do hle rfl rfl rfl rfl rfl rfl rfl (sO_do hle rfl rfl rfl rfl rfl rfl (op_load rfl ti22 (loadA_cell rfl lw1 rfl)) (sO_do hle rfl rfl rfl rfl rfl rfl (op_load rfl ti3 (loadA_cell rfl lk1 rfl)) ?_))
  refine sO_do hle rfl rfl rfl rfl rfl rfl (op_indexAddr (v := wa) rfl (by rw [tkE22]; exact x1)) (sO_do hle rfl rfl rfl rfl rfl rfl (op_load rfl ti3 x2) (sO_do hle rfl rfl rfl rfl rfl rfl (ne_eq (k := .i64) (a := W[k]) rfl rfl rfl) ?_))
  refine sO_op hle rfl rfl rfl (v := .bool false) rfl (sO_nil (sQ_seq ?_))
  refine sC_false rfl rfl (sC_skip (sQ_seq ?_))
  refine sC_seq (sC_region (sO_op hle rfl rfl rfl (op_load rfl ti3 (loadA_cell rfl lk1 rfl)) (sO_op hle rfl rfl rfl (inc_eq (i := k) (by omega) rfl rfl rfl) (sO_op hle rfl rfl rfl (op_store rfl ti3 st2) (sO_nil (sQ_seq ?_))))))
  refine sC_seq (sC_region (sO_op hle rfl rfl rfl (op_load rfl ti3 (loadA_cell rfl g2k rfl)) (sO_op hle rfl rfl rfl (op_load rfl ti3 (loadA_cell rfl lm rfl)) ?_)))
  by_cases hm : Int.ofNat (k+1) = most
  · refine sO_op hle rfl rfl rfl (eq_eq (k := .i64) (a := .ofNat (k+1)) (b := most) (c := true) (decide_eq_true hm) rfl rfl rfl) (sO_nil (sQ_seq ?_))
    refine sC_true rfl rfl ?_
    obtain ⟨aa, y1, y2⟩ := a2c.idx (e := 3) (eb := 8) (k := .i64) (ti := tiI) hka rfl
    obtain ⟨h3, eh3⟩ : ∃ h3, h3 = h2.put p.cR (.cells [.bool true] 1 true) := ⟨_, rfl⟩
    have hR : p.cR < HM := by omega
    have g3 : ∀ b, b ≠ p.cR → h3.get b = h2.get b := fun b hne => by rw [eh3, gpn hR hne]
    have st3 : storeA h2 ⟨1, false, some [.bool false], 1, .bool⟩ (.ptr p.cR 0) (.bool true) = some h3 := by rw [eh3]; exact store1 rfl rfl lr
    refine sC_seq (sC_drawB false (fun h' => h' = h2) hle (by kernel_rfl) (by kernel_rfl) (by kernel_rfl) (by kernel_rfl) ?_)
    have ld : ∀ {r : Operand → AV} {o : Oper} {t : Nat} {x : Operand} {ti : TI} {a v : AV} {call : Caller}, o.op = .load t x → r x = a → E0.ti t = some ti → loadA h2 ti a = some v → ∀ h', h' = h2 → opA E0 call r o h' = some (v, h') := by
      intro r o t x ti a v call ho hx hti hla h' e
      subst e
      exact op_load ho hti (by rw [hx]; exact hla)
    refine sS_quiet rfl rfl (gotG_none rfl) rfl rfl avEq_bool (ld rfl rfl ti4 (loadA_cell rfl lis rfl)) (sS_pure rfl rfl (gotG_none rfl) rfl rfl (v := .bool true) rfl avEq_bool ?_)
    refine sS_quiet rfl rfl (gotG_some rfl rfl rfl rfl rfl) rfl rfl avEq_int (ld rfl rfl ti3 (loadA_cell rfl lc rfl)) (sS_quiet rfl rfl (gotG_some rfl rfl rfl rfl rfl) rfl rfl a2.avEq (ld rfl rfl ti22 (loadA_cell rfl la rfl)) ?_)
    refine sS_quiet rfl rfl (gotG_some rfl rfl rfl rfl rfl) rfl rfl avEq_int (ld rfl rfl ti3 (loadA_cell rfl g2k rfl)) (sS_pure rfl rfl (gotG_some rfl rfl rfl rfl rfl) rfl rfl (h1 := h2) (sub_eq (a := k+1) (b := 1) (by omega) (by omega) rfl rfl rfl) avEq_int ?_)
    refine sS_pure rfl rfl (gotG_some rfl rfl rfl rfl rfl) rfl rfl (h1 := h2) (op_indexAddr (v := aa) rfl (by rw [tkE22]; exact y1)) (avEq_load y2) (sS_quiet rfl rfl (gotG_some rfl rfl rfl rfl rfl) rfl rfl avEq_int (ld rfl rfl ti3 y2) ?_)
    refine sS_pure rfl rfl (gotG_some rfl rfl rfl rfl rfl) rfl rfl (h1 := h2) (eq_eq (k := .i64) (a := .ofNat c) (b := A[k]) (c := true) (decide_eq_true (by rw [hA]; rfl)) rfl rfl rfl) avEq_bool (sS_pure rfl rfl (gotG_none rfl) rfl rfl (v := .bool true) rfl avEq_bool ?_)
    refine sS_loud rfl rfl (gotG_none rfl) rfl rfl (op_store rfl ti4 st3) (sS_nil (sQ_seq (sC_ret ?_)))
    intro tm2 _ _
    refine ⟨_, (g3 _ (by omega)).trans h2l, ?_⟩
    simp only [jumpOf]
    refine ⟨by rw [next_put, eh3, next_put]; exact h2n, fun b n1 n2 n3 => ?_, ?_, .inr ⟨trivial, ?_, ?_⟩⟩
    · rw [gpn hB n3, g3 b n2, g2 b n1, gb b n3]
    · rw [gpn hB (by omega), g3 _ (by omega), g2k]
    · rw [gpe hB]; rfl
    · rw [gpn hB (by omega), eh3, gpe hR]
  · refine sO_op hle rfl rfl rfl (eq_eq (k := .i64) (a := .ofNat (k+1)) (b := most) (c := false) (decide_eq_false hm) rfl rfl rfl) (sO_nil (sQ_seq ?_))
    refine sC_false rfl rfl (sC_skip ?_)
    intro tm2 _ _
    refine ⟨_, h2l, ?_⟩
    simp only [jumpOf]
    refine ⟨by rw [next_put]; exact h2n, fun b n1 n2 n3 => ?_, ?_, .inl ⟨trivial, hm, ?_, ?_⟩⟩
    · rw [gpn hB n3, g2 b n1, gb b n3]
    · rw [gpn hB (by omega), g2k]
    · rw [gpe hB]; rfl
    · rw [gpn hB (by omega), g2 _ (by omega), gb _ (by omega)]
end Go.Proofs.Ytgafbagehjmipaa

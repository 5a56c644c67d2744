/- find: numbers, gone over by New. -/
import Derived.Test.YtgafbagehjmipaaFb
namespace Go.Proofs.Ytgafbagehjmipaa
open Bly

theorem holds_all {tm : Tm} : ∀ {s : SL}, (∀ p ∈ s, tm.rd p.1 = p.2) → Holds tm s
  | [], _ => fun t v h => by cases h
  | (d, u) :: s, h => fun t v hl => by
    simp only [lk] at hl
    split at hl
    · rename_i hb
      have := Nat.eq_of_beq_eq_true hb
      subst this
      cases hl
      exact h (d, u) (by simp)
    · exact holds_all (fun p hp => h p (by simp [hp])) t v hl
theorem inc_eq {i : Nat} (hi : i < 1000000) {r : Operand → AV} {E : Env} {call : Caller} {o : Oper} {x y : Operand} {t u : Nat} {h : H} (ho : o.op = .binOp .add t x y u) (hx : r x = .int .i64 (.ofNat i)) (hy : r y = .int .i64 1) :
    opA E call r o h = some (.int .i64 (.ofNat (i+1)), h) := by
  refine op_bin ho ?_
  rw [hx, hy]
  show some (AV.int .i64 (wrapA .i64 (.ofNat (i+1)))) = _
  unfold wrapA
  have : Nat.blt (i+1) (topOf .i64) = true := blt_true.2 (by show i + 1 < 9223372036854775808; omega)
  simp only [this]
theorem iter_eq {fuel n : Nat} {h0 h : H} {tm0 : Tm} {L : List Int} {cb : Nat} {hv : AV} {w : Bool} (hn : tm0.n = 29) (ht : Holds tm0 [(3, .ptr (h0.next + 1) 0)]) (hI : NewInv h0 tm0 L 0 h) (hcb : h0.get cb = some (.cells [hv] 1 true)) (hcl : cb < h0.next)
    (hsl : Sl h0 hv w L) (hL : L.length ≤ 2000) (hlt : h0.next + 5000 ≤ HM) (hf : 2001 ≤ fuel) :
    ∃ v' h', callA E0 noOrc fuel (n+2) (.fn 24 []) [.yld (h0.next + 2), .ptr cb 0] h = some (v', h') ∧ NewInv h0 tm0 L L.length h' := by
  refine s_call fn24 rfl rfl rfl ?_
  have hle : Try.f24.ntmps ≤ 512 := by decide
  refine sC_seq (sC_region (sO_op hle rfl rfl rfl rfl (sO_nil (sQ_seq ?_))))
  refine sC_block (sC_loop (fun k s h => ∃ i : Nat, k + i = L.length ∧ s = [(3, .int .i64 (.ofNat i)), (0, .yld (h0.next + 2)), (1, .ptr cb 0)] ∧ NewInv h0 tm0 L i h) L.length (by omega) ⟨0, by omega, rfl, hI⟩ ?_)
  rintro k s h ⟨i, hki, rfl, hI⟩
  have hcb' : h.get cb = some (.cells [hv] 1 true) := (hI.frame cb hcl).trans hcb
  have hv' : Sl h hv w L := hsl.frame (fun b hb => hI.frame b (hsl.blk_lt hb)) (by have := hI.lo; omega)
  refine sC_seq (sC_seq (sC_region ?_))
  refine sO_op hle rfl rfl rfl rfl (sO_op hle rfl rfl rfl (op_load rfl ti22 (loadA_cell rfl hcb' rfl)) (sO_op hle rfl rfl rfl (op_len rfl rfl rfl rfl tkE22 hv'.len) ?_))
  by_cases hi : i < L.length
  · refine sO_op hle rfl rfl rfl (op_bin (v := .bool true) rfl (show some (AV.bool (ilt (.ofNat i) L.length)) = _ by rw [ilt_eq, decide_eq_true (by simpa using hi)])) (sO_nil (sQ_seq ?_))
    refine sC_true rfl rfl (sC_skip (sQ_seq ?_))
    refine sC_seq (sC_block (sC_seq (sC_region ?_)))
    obtain ⟨a, e1, e2⟩ := hv'.idx (e := 3) (eb := 8) (k := .i64) (ti := ⟨1, false, some [.int .i64 0], 1, .int .i64⟩) hi rfl
    obtain ⟨v', h', r1, rfl, r2⟩ := new_round (fuel := fuel) (n := n) hn ht hI hi hL hlt
    refine sO_op hle rfl rfl rfl rfl (sO_op hle rfl rfl rfl (op_load rfl ti22 (loadA_cell rfl hcb' rfl)) (sO_op hle rfl rfl rfl rfl (sO_op hle rfl rfl rfl (op_indexAddr (v := a) rfl (by rw [tkE22]; exact e1)) (sO_op hle rfl rfl rfl (op_load rfl ti3 e2) ?_))))
    refine sO_op hle rfl rfl rfl (op_yield rfl rfl rfl r1) (sO_op hle rfl rfl rfl rfl (sO_nil (sQ_seq ?_)))
    refine sC_false rfl rfl (sC_skip (sQ_seq ?_))
    refine sC_region (sO_op hle rfl rfl rfl rfl (sO_op hle rfl rfl rfl (inc_eq (i := i) (by omega) rfl rfl rfl) (sO_op hle rfl rfl rfl rfl (sO_nil ?_))))
    intro tm k1 k2
    refine ⟨k - 1, [(3, .int .i64 (.ofNat (i+1))), (0, .yld (h0.next + 2)), (1, .ptr cb 0)], by omega, ⟨i+1, by omega, rfl, r2⟩, k1, holds_all ?_⟩
    intro p hp
    rcases List.mem_cons.1 hp with rfl | hp
    · exact k2 _ _ rfl
    rcases List.mem_cons.1 hp with rfl | hp
    · exact k2 _ _ rfl
    rcases List.mem_cons.1 hp with rfl | hp
    · exact k2 _ _ rfl
    cases hp
  · refine sO_op hle rfl rfl rfl (op_bin (v := .bool false) rfl (show some (AV.bool (ilt (.ofNat i) L.length)) = _ by rw [ilt_eq, decide_eq_false (by simpa using hi)])) (sO_nil (sQ_seq ?_))
    refine sC_false rfl rfl (sC_exit ?_)
    have : i = L.length := by omega
    subst this
    exact sQ_end (R := fun _ h' => NewInv h0 tm0 L L.length h') (.inl rfl) rfl hI

/-- New over numbers. -/
theorem new_eq {fuel n : Nat} {h : H} {cb : Nat} {hv : AV} {w : Bool} {L : List Int} (hcb : h.get cb = some (.cells [hv] 1 true)) (hcl : cb < h.next) (hsl : Sl h hv w L) (hL : L.length ≤ 2000) (hlt : h.next + 5000 ≤ HM) (hf : 2001 ≤ fuel) :
    ∃ v' h', callA E0 noOrc fuel (n+3) (.fn 13 []) [.fn 24 [.ptr cb 0]] h = some (v', h') ∧ v' = .ptr h.next 0 ∧ ∃ v, h'.get h.next = some (.cells [v] 1 true) ∧ Sl h' v true L ∧ (∀ b, blk v = some b → h.next + 2 < b) ∧
      (∀ b, b < h.next → h'.get b = h.get b) ∧ h.next < h'.next ∧ h'.next ≤ h.next + 3 + 2 * L.length := by
  refine s_call fn13 rfl rfl rfl ?_
  have hle : Try.f13.ntmps ≤ 512 := by decide
  have hm1 : h.next < HM := by omega
  obtain ⟨ha, eha⟩ : ∃ ha, ha = h.alc (.cells [.nils] 1 true) := ⟨_, rfl⟩
  have han : ha.next = h.next + 1 := by rw [eha]; rfl
  have ga : ∀ b, ha.get b = if b = h.next then some (.cells [.nils] 1 true) else h.get b := fun b => by rw [eha, get_alc hm1]
  obtain ⟨hb, ehb⟩ : ∃ hb, hb = ha.alc (.cells [.nilp] 1 true) := ⟨_, rfl⟩
  have hbn : hb.next = h.next + 2 := by rw [ehb, next_alc, han]
  have gb : ∀ b, hb.get b = if b = h.next + 1 then some (.cells [.nilp] 1 true) else ha.get b := fun b => by rw [ehb, get_alc (by omega), han]
  obtain ⟨hc, ehc⟩ : ∃ hc, hc = hb.put (h.next + 1) (.cells (over [.nilp] 0 [.ptr h.next 0]) 1 true) := ⟨_, rfl⟩
  have hcn : hc.next = h.next + 2 := by rw [ehc, next_put, hbn]
  have gc : ∀ b, hc.get b = if b = h.next + 1 then some (.cells [.ptr h.next 0] 1 true) else hb.get b := fun b => by rw [ehc, H.get_put (by omega)]; rfl
  refine sC_seq (sC_region (sO_op hle rfl rfl rfl rfl (sO_nil (sQ_seq ?_))))
  refine sC_scope (sC_seq (sC_region ?_))
  refine sO_op hle rfl rfl rfl (op_build (v := .agg [.nils]) rfl ti56 rfl) ?_
  have e1 : ∀ {r : Operand → AV} {o : Oper} {t : Nat} {x : Operand} {call : Caller}, o.op = .box t x → r x = .agg [.nils] → opA E0 call r o h = some (.ptr h.next 0, ha) := fun {r o t x call} ho hx => by
    rw [eha]; exact op_box (cs := [.nils]) ho (by rw [hx]; rfl) hm1
  refine sO_op hle rfl rfl rfl (e1 rfl rfl) ?_
  have e2 : ∀ {r : Operand → AV} {o : Oper} {call : Caller}, o.op = .alloc 38 → opA E0 call r o ha = some (.ptr (h.next + 1) 0, hb) := fun {r o call} ho => by
    have := op_alloc (E := E0) (call := call) (r := r) (h := ha) ho ti38 rfl (by omega)
    rw [this, ehb, han]
  refine sO_op hle rfl rfl rfl (e2 rfl) ?_
  have e3 : storeA hb ⟨1, false, some [.nilp], 1, .ptr⟩ (.ptr (h.next + 1) 0) (.ptr h.next 0) = some hc := by
    rw [ehc]; exact storeA_cell rfl rfl (by rw [gb, if_pos rfl]) rfl
  refine sO_op hle rfl rfl rfl (op_store rfl ti38 e3) (sO_nil (sQ_seq ?_))
  refine sC_seq (sC_seq (sC_region (sO_op hle rfl rfl rfl rfl (sO_op hle rfl rfl rfl (op_bin (v := .bool false) rfl (by rw [tkE31]; rfl)) (sO_nil (sQ_seq ?_))))))
  refine sC_false rfl rfl (sC_skip (sQ_seq ?_))
  refine sC_seq (sC_label (sQ_seq ?_))
  refine sC_seq (sC_seq (sC_region (sO_op hle rfl rfl rfl rfl (sO_nil (sQ_seq ?_)))))
  refine sC_block (sC_range (f := 24) (cap := [.ptr cb 0]) rfl rfl (by omega) ?_)
  intro tm k1 k2
  have hlm : hc.next < HM := by omega
  have hI : NewInv h tm L 0 (hc.alc (.loop ⟨.ready, none, 13, tm, [11], newCode.1, newCode.2⟩)) := by
    refine ⟨by rw [get_alc hlm, if_pos hcn.symm], ?_, ⟨.nils, ?_, Sl.nil, fun b hb' => by cases hb'⟩, fun b hb' => ?_, by rw [next_alc]; omega, by rw [next_alc]; omega⟩
    · rw [get_alc hlm, if_neg (by omega), gc, if_pos rfl]
    · rw [get_alc hlm, if_neg (by omega), gc, if_neg (by omega), gb, if_neg (by omega), ga, if_pos rfl]
    · rw [get_alc hlm, if_neg (by omega), gc, if_neg (by omega), gb, if_neg (by omega), ga, if_neg (by omega)]
  obtain ⟨v', h', r1, r2⟩ := iter_eq (fuel := fuel) (n := n) k1 (holds_all (s := [(3, .ptr (h.next + 1) 0)]) fun p hp => by
    rcases List.mem_cons.1 hp with rfl | hp
    · exact k2 _ _ rfl
    · cases hp) hI hcb hcl hsl hL hlt hf
  refine ⟨v', h', by rw [hcn]; exact r1, _, by rw [hcn]; exact r2.loop, by simp, ?_⟩
  obtain ⟨hl, hbx, ⟨v, hs, hv, hvb⟩, hfr, hlo, hhi⟩ := r2
  have hB : h.next + 2 < HM := by omega
  have g4 : ∀ b o', b ≠ h.next + 2 → (h'.put (h.next + 2) o').get b = h'.get b := fun b o' hne => by rw [H.get_put hB, if_neg hne]
  rw [hcn]
  refine (show sC E0 (callA E0 noOrc fuel (n+2)) 13 fuel 29 [(3, .ptr (h.next + 1) 0)] _ _ _ from ?_) tm k1 (holds_all fun p hp => by
    rcases List.mem_cons.1 hp with rfl | hp
    · exact k2 _ _ rfl
    · cases hp)
  refine sC_seq (sC_region (sO_op hle rfl rfl rfl (op_load (v := .ptr h.next 0) rfl ti38 (loadA_cell rfl ((g4 _ _ (by omega)).trans hbx) rfl)) (sO_op hle rfl rfl rfl rfl (sO_nil (sQ_seq ?_)))))
  refine sC_ret ?_
  intro tm3 q1 q2
  refine ⟨fun l => by simp, sQ_end (m := 29) (R := fun v' h' => v' = .ptr h.next 0 ∧ ∃ v, h'.get h.next = some (.cells [v] 1 true) ∧ Sl h' v true L ∧ (∀ b, blk v = some b → h.next + 2 < b) ∧ (∀ b, b < h.next → h'.get b = h.get b) ∧ h.next < h'.next ∧ h'.next ≤ h.next + 3 + 2 * L.length) (.inr rfl) rfl ⟨rfl, v, ?_, ?_, hvb, fun b hb' => ?_, ?_, ?_⟩ tm3 q1 q2⟩
  · exact (g4 _ _ (by omega)).trans hs
  · rw [List.take_of_length_le (Nat.le_refl _)] at hv
    exact hv.frame (fun b hb' => g4 b _ (by have := hvb b hb'; omega)) (Nat.le_refl _)
  · exact (g4 _ _ (by omega)).trans (hfr b hb')
  · rw [next_put]; omega
  · rw [next_put]; omega
end Go.Proofs.Ytgafbagehjmipaa

/- find: its functions, told by the evaluator. -/
import Derived.Test.YtgafbagehjmipaaRows
import Derived.Test.YtgafbagehjmipaaBlyK
namespace Go.Proofs.Ytgafbagehjmipaa
open Bly

noncomputable def E0 : Env := mkEnv Try.prog 0
theorem ti22 : E0.ti 22 = some ⟨1, false, some [.nils], 1, slK 3 8⟩ := by kernel_rfl
theorem ti3 : E0.ti 3 = some ⟨1, false, some [.int .i64 0], 1, .int .i64⟩ := by kernel_rfl
theorem ti38 : E0.ti 38 = some ⟨1, false, some [.nilp], 1, .ptr⟩ := by kernel_rfl
theorem ti56 : E0.ti 56 = some ⟨1, true, some [.nils], 1, .struct [(0, 1, false)]⟩ := by kernel_rfl
theorem ti4 : E0.ti 4 = some ⟨1, false, some [.bool false], 1, .bool⟩ := by kernel_rfl
theorem ti31 : E0.ti 31 = some ⟨1, false, some [.nilf], 1, .func⟩ := by kernel_rfl
theorem tkE22 : E0.tk 22 = slK 3 8 := by unfold Env.tk; rw [ti22]
theorem tkE3 : E0.tk 3 = .int .i64 := by unfold Env.tk; rw [ti3]
theorem tkE38 : E0.tk 38 = .ptr := by unfold Env.tk; rw [ti38]
theorem tkE56 : E0.tk 56 = .struct [(0, 1, false)] := by unfold Env.tk; rw [ti56]
theorem tkE4 : E0.tk 4 = .bool := by unfold Env.tk; rw [ti4]
theorem tkE31 : E0.tk 31 = .func := by unfold Env.tk; rw [ti31]
theorem fn16 : E0.func 16 = some Try.f16 := by kernel_rfl
theorem fn14 : E0.func 14 = some Try.f14 := by kernel_rfl
theorem fn15 : E0.func 15 = some Try.f15 := by kernel_rfl
theorem field0 {b off : Nat} : fieldAddrA (E0.tk 56) (.ptr b off) 0 = some (.ptr b off) := by rw [tkE56]; rfl

/-- Left. -/
theorem left_eq {fuel n : Nat} {h : H} {s : Nat} {v : AV} {w : Bool} {L : List Int} (hs : h.get s = some (.cells [v] 1 true)) (hv : Sl h v w L) :
    ∃ v' h', callA E0 noOrc fuel (n+1) (.fn 16 []) [.ptr s 0] h = some (v', h') ∧ v' = .int .i64 L.length ∧ h' = h := by
  refine s_call fn16 rfl rfl rfl ?_
  have hle : Try.f16.ntmps ≤ 512 := by decide
  refine sC_seq (sC_region (sO_op hle rfl rfl rfl rfl (sO_nil (sQ_seq ?_))))
  refine sC_seq (sC_seq (sC_region (sO_op hle rfl rfl rfl rfl (sO_op hle rfl rfl rfl (op_bin (v := .bool false) rfl (by rw [tkE38]; rfl)) (sO_nil (sQ_seq ?_))))))
  refine sC_false rfl rfl (sC_skip (sQ_seq ?_))
  refine sC_seq (sC_region ?_)
  refine sO_op hle rfl rfl rfl (v := .ptr s 0) rfl (sO_op hle rfl rfl rfl (v := .ptr s 0) rfl (sO_op hle rfl rfl rfl (op_fieldAddr rfl field0) ?_))
  refine sO_op hle rfl rfl rfl (op_load rfl ti22 (loadA_cell rfl hs rfl)) (sO_op hle rfl rfl rfl (op_len rfl rfl rfl rfl tkE22 hv.len) (sO_op hle rfl rfl rfl rfl (sO_nil (sQ_seq ?_))))
  exact sC_ret (sQ_end (.inr rfl) rfl ⟨rfl, rfl⟩)

/-- numbers. -/
theorem numbers_eq {fuel n : Nat} {h : H} {v : AV} (hc : cellsV v = some [v]) (hlt : h.next < HM) :
    ∃ v' h', callA E0 noOrc fuel (n+1) (.fn 14 []) [v] h = some (v', h') ∧ v' = .fn 24 [.ptr h.next 0] ∧ h' = h.alc (.cells [v] 1 true) := by
  refine s_call fn14 rfl rfl rfl ?_
  have hle : Try.f14.ntmps ≤ 512 := by decide
  refine sC_seq (sC_region (sO_op hle rfl rfl rfl (op_box rfl hc hlt) (sO_op hle rfl rfl rfl rfl (sO_nil (sQ_seq ?_)))))
  refine sC_seq (sC_region (sO_op hle rfl rfl rfl rfl (sO_op hle rfl rfl rfl rfl (sO_nil (sQ_seq ?_)))))
  exact sC_ret (sQ_end (.inr rfl) rfl ⟨rfl, rfl⟩)

/-- Next: a number that is refused. -/
theorem next_bad {fuel n : Nat} {h : H} {s : Nat} {k : Int} (hk : k < 0 ∨ 1024 < k) :
    ∃ v' h', callA E0 noOrc fuel (n+1) (.fn 15 []) [.ptr s 0, .int .i64 k] h = some (v', h') ∧ v' = .tup [.nils, .int .i64 7] ∧ h' = h := by
  refine s_call fn15 rfl rfl rfl ?_
  have hle : Try.f15.ntmps ≤ 512 := by decide
  refine sC_seq (sC_region (sO_op hle rfl rfl rfl rfl (sO_op hle rfl rfl rfl rfl (sO_nil (sQ_seq ?_)))))
  refine sC_seq (sC_block (sC_seq (sC_region (sO_op hle rfl rfl rfl rfl (sO_op hle rfl rfl rfl (op_bin (v := .bool false) rfl (by rw [tkE38]; rfl)) (sO_op hle rfl rfl rfl rfl (sO_nil (sQ_seq ?_))))))))
  refine sC_false rfl rfl ?_
  refine sC_seq (sC_region ?_)
  refine sO_op hle rfl rfl rfl rfl ?_
  by_cases h0 : k < 0
  · refine sO_op hle rfl rfl rfl (op_bin (v := .bool true) rfl (show some (AV.bool (ilt k 0)) = _ by rw [ilt_eq, decide_eq_true h0])) ?_
    refine sO_op hle rfl rfl rfl rfl (sO_skip hle rfl rfl rfl rfl rfl rfl (sO_skip hle rfl rfl rfl rfl rfl rfl (sO_op hle rfl rfl rfl (v := .bool true) rfl (sO_op hle rfl rfl rfl rfl (sO_nil (sQ_seq ?_))))))
    refine sC_true rfl rfl ?_
    refine sC_seq (sC_region (sO_op hle rfl rfl rfl rfl (sO_op hle rfl rfl rfl rfl (sO_nil (sQ_seq (sC_ret ?_))))))
    exact sQ_end (R := fun v' h' => v' = .tup [.nils, .int .i64 7] ∧ h' = h) (.inr rfl) rfl ⟨rfl, rfl⟩
  · have h1 : 1024 < k := by omega
    refine sO_op hle rfl rfl rfl (op_bin (v := .bool false) rfl (show some (AV.bool (ilt k 0)) = _ by rw [ilt_eq, decide_eq_false h0])) ?_
    refine sO_op hle rfl rfl rfl rfl (sO_do hle rfl rfl rfl rfl rfl rfl rfl (sO_do hle rfl rfl rfl rfl rfl rfl (op_bin (v := .bool true) rfl (show some (AV.bool (ilt 1024 k)) = _ by rw [ilt_eq, decide_eq_true h1])) (sO_op hle rfl rfl rfl (v := .bool true) rfl (sO_op hle rfl rfl rfl rfl (sO_nil (sQ_seq ?_))))))
    refine sC_true rfl rfl ?_
    refine sC_seq (sC_region (sO_op hle rfl rfl rfl rfl (sO_op hle rfl rfl rfl rfl (sO_nil (sQ_seq (sC_ret ?_))))))
    exact sQ_end (R := fun v' h' => v' = .tup [.nils, .int .i64 7] ∧ h' = h) (.inr rfl) rfl ⟨rfl, rfl⟩

/-- Next: so many, or all that are left. -/
theorem next_eq {fuel n : Nat} {h : H} {s : Nat} {v : AV} {w : Bool} {L : List Int} {k : Nat} (hk : k ≤ 1024) (hs : h.get s = some (.cells [v] 1 true)) (hsl : s < h.next) (hv : Sl h v w L) (hne : blk v ≠ some s) (hlt : h.next < HM) (hL : L.length ≤ 2000) :
    ∃ v' h', callA E0 noOrc fuel (n+1) (.fn 15 []) [.ptr s 0, .int .i64 (.ofNat k)] h = some (v', h') ∧ ∃ o v2, v' = .tup [o, .int .i64 0] ∧ Sl h' o true (L.take k) ∧ h'.get s = some (.cells [v2] 1 true) ∧ Sl h' v2 w (L.drop k) ∧ blk v2 = blk v ∧
      h.next ≤ h'.next ∧ h'.next ≤ h.next + 1 ∧ (∀ b, b < h.next → b ≠ s → h'.get b = h.get b) ∧ blk o ≠ some s := by
  refine s_call fn15 rfl rfl rfl ?_
  have hle : Try.f15.ntmps ≤ 512 := by decide
  refine sC_seq (sC_region (sO_op hle rfl rfl rfl rfl (sO_op hle rfl rfl rfl rfl (sO_nil (sQ_seq ?_)))))
  refine sC_seq (sC_block (sC_seq (sC_region (sO_op hle rfl rfl rfl rfl (sO_op hle rfl rfl rfl (op_bin (v := .bool false) rfl (by rw [tkE38]; rfl)) (sO_op hle rfl rfl rfl rfl (sO_nil (sQ_seq ?_))))))))
  refine sC_false rfl rfl ?_
  have h0 : ¬ Int.ofNat k < 0 := by simp
  have h1 : ¬ 1024 < Int.ofNat k := by simp; omega
  refine sC_seq (sC_region ?_)
  refine sO_op hle rfl rfl rfl rfl (sO_op hle rfl rfl rfl (op_bin (v := .bool false) rfl (show some (AV.bool (ilt (.ofNat k) 0)) = _ by rw [ilt_eq, decide_eq_false h0])) ?_)
  refine sO_op hle rfl rfl rfl rfl (sO_do hle rfl rfl rfl rfl rfl rfl rfl (sO_do hle rfl rfl rfl rfl rfl rfl (op_bin (v := .bool false) rfl (show some (AV.bool (ilt 1024 (.ofNat k))) = _ by rw [ilt_eq, decide_eq_false h1])) (sO_op hle rfl rfl rfl (v := .bool false) rfl (sO_op hle rfl rfl rfl rfl (sO_nil (sQ_seq ?_))))))
  refine sC_false rfl rfl (sC_skip (sQ_seq ?_))
  -- n = min(n, len(s.l))
  refine sC_seq (sC_region ?_)
  refine sO_op hle rfl rfl rfl rfl ?_
  refine sO_op hle rfl rfl rfl (v := .ptr s 0) rfl (sO_op hle rfl rfl rfl (v := .ptr s 0) rfl (sO_op hle rfl rfl rfl (op_fieldAddr rfl field0) (sO_op hle rfl rfl rfl (op_load rfl ti22 (loadA_cell rfl hs rfl)) (sO_op hle rfl rfl rfl (op_len rfl rfl rfl rfl tkE22 hv.len) ?_))))
  refine sO_op hle rfl rfl rfl (op_min rfl rfl rfl rfl min_nat) (sO_op hle rfl rfl rfl rfl (sO_nil (sQ_seq ?_)))
  have hm : min k L.length ≤ L.length := Nat.min_le_right _ _
  have et : L.take (min k L.length) = L.take k := by
    rcases Nat.le_total k L.length with h | h
    · rw [Nat.min_eq_left h]
    · rw [Nat.min_eq_right h, List.take_of_length_le (Nat.le_refl _), List.take_of_length_le h]
  have ed : L.drop (min k L.length) = L.drop k := by
    rcases Nat.le_total k L.length with h | h
    · rw [Nat.min_eq_left h]
    · rw [Nat.min_eq_right h, List.drop_of_length_le (Nat.le_refl _), List.drop_of_length_le h]
  -- out
  obtain ⟨v1, g1, g2, g3⟩ := hv.hi (e := 3) (eb := 8) (k := .i64) hm
  obtain ⟨o, h', a1, a2, a3, a4, a5, a6⟩ := (Sl.nil (h := h) (w := true)).append (e := 3) (eb := 8) g2 hlt (by simp; omega) (by decide)
  refine sC_seq (sC_region ?_)
  refine sO_op hle rfl rfl rfl (v := .ptr s 0) rfl (sO_op hle rfl rfl rfl (v := .ptr s 0) rfl (sO_op hle rfl rfl rfl (op_fieldAddr rfl field0) (sO_op hle rfl rfl rfl (op_load rfl ti22 (loadA_cell rfl hs rfl)) (sO_op hle rfl rfl rfl rfl ?_))))
  refine sO_op hle rfl rfl rfl (op_slice (v := v1) rfl (by rw [tkE22]; exact g1)) ?_
  refine sO_op hle rfl rfl rfl (op_append (v := o) (h' := h') rfl rfl rfl rfl (by rw [tkE22]; exact a1)) (sO_op hle rfl rfl rfl rfl (sO_nil (sQ_seq ?_)))
  -- s.l = s.l[n:]
  have hs' : h'.get s = some (.cells [v] 1 true) := (a5 s hsl (by simp [blk])).trans hs
  have hv' : Sl h' v w L := hv.frame (fun b hb => a5 b (hv.blk_lt hb) (by simp [blk])) a3
  obtain ⟨v2, b1, b2, b3⟩ := hv'.lo (e := 3) (eb := 8) (k := .i64) hm
  refine sC_seq (sC_region ?_)
  refine sO_op hle rfl rfl rfl (v := .ptr s 0) rfl (sO_op hle rfl rfl rfl (v := .ptr s 0) rfl (sO_op hle rfl rfl rfl (v := .ptr s 0) rfl (sO_op hle rfl rfl rfl (op_fieldAddr rfl field0) (sO_op hle rfl rfl rfl (op_load rfl ti22 (loadA_cell rfl hs' rfl)) (sO_op hle rfl rfl rfl rfl ?_)))))
  refine sO_op hle rfl rfl rfl (op_slice (v := v2) rfl (by rw [tkE22]; exact b1)) ?_
  refine sO_op hle rfl rfl rfl (v := .ptr s 0) rfl (sO_op hle rfl rfl rfl (op_fieldAddr rfl field0) (sO_op hle rfl rfl rfl (op_store rfl ti22 (storeA_cell b2.cellsV rfl hs' rfl)) (sO_nil (sQ_seq ?_))))
  refine sC_seq (sC_region (sO_op hle rfl rfl rfl rfl (sO_op hle rfl rfl rfl rfl (sO_op hle rfl rfl rfl rfl (sO_nil (sQ_seq (sC_ret (sQ_end (.inr rfl) rfl ⟨o, v2, rfl, ?_⟩))))))))
  have hsm : s < HM := by omega
  have hos : blk o ≠ some s := by
    rcases a6 with e | e <;> rw [e]
    · simp [blk]
    · intro h; cases h; omega
  rw [et] at a2
  rw [ed] at b2
  refine ⟨a2.frame (fun b hb => ?_) (Nat.le_refl _), ?_, b2.frame (fun b hb => ?_) (Nat.le_refl _), b3, a3, a4, fun b hb hbs => ?_, hos⟩
  · rw [H.get_put hsm, if_neg (fun e => hos (by rw [hb, e]))]
  · rw [H.get_put hsm, if_pos rfl]; rfl
  · rw [H.get_put hsm, if_neg (fun e => hne (by rw [← b3, hb, e]))]
  · rw [H.get_put hsm, if_neg hbs]; exact a5 b hb (by simp [blk])
end Go.Proofs.Ytgafbagehjmipaa

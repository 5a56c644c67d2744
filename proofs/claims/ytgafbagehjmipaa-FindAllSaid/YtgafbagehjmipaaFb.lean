/- find: New over numbers, told by the evaluator. -/
import Derived.Test.YtgafbagehjmipaaFa
import Derived.Test.YtgafbagehjmipaaBlyL
namespace Go.Proofs.Ytgafbagehjmipaa
open Bly

theorem fn13 : E0.func 13 = some Try.f13 := by kernel_rfl
theorem fn24 : E0.func 24 = some Try.f24 := by kernel_rfl
/-- New's loop's two codes. -/
def newLoop : Code → Code × Code
  | .seq _ (.scope (.seq _ (.seq _ (.seq _ (.seq (.seq _ (.block _ (.rangeFunc _ _ a b))) _))))) => (a, b)
  | _ => (.skip, .skip)
noncomputable def newCode : Code × Code := match Try.f13.body with | some c => newLoop c | none => (.skip, .skip)
/-- Behind i rounds. h0: the heap when New began. -/
structure NewInv (h0 : H) (tm0 : Tm) (L : List Int) (i : Nat) (h : H) : Prop where
  loop : h.get (h0.next + 2) = some (.loop ⟨.ready, none, 13, tm0, [11], newCode.1, newCode.2⟩)
  box : h.get (h0.next + 1) = some (.cells [.ptr h0.next 0] 1 true)
  sl : ∃ v, h.get h0.next = some (.cells [v] 1 true) ∧ Sl h v true (L.take i) ∧ ∀ b, blk v = some b → h0.next + 2 < b
  frame : ∀ b, b < h0.next → h.get b = h0.get b
  lo : h0.next + 3 ≤ h.next
  hi : h.next ≤ h0.next + 3 + 2 * i

/-- One number more. -/
theorem new_round {fuel n : Nat} {h0 h : H} {tm0 : Tm} {L : List Int} {i : Nat} (hn : tm0.n = 29) (ht : Holds tm0 [(3, .ptr (h0.next + 1) 0)]) (hI : NewInv h0 tm0 L i h) (hi : i < L.length) (hL : L.length ≤ 2000) (hlt : h0.next + 5000 ≤ HM) :
    ∃ v h', callA E0 noOrc fuel (n+1) (.yld (h0.next + 2)) [.int .i64 L[i]] h = some (v, h') ∧ v = .bool true ∧ NewInv h0 tm0 L (i+1) h' := by
  obtain ⟨hloop, hbox, ⟨v, hs, hv, hvb⟩, hfr, hlo, hhi⟩ := hI
  refine yield_eq hloop rfl ?_
  have hle : (29 : Nat) ≤ 512 := by decide
  have hB : h0.next + 2 < HM := by omega
  have hput : Holds (putAll [11] [.int .i64 L[i]] tm0) [(11, .int .i64 L[i]), (3, .ptr (h0.next + 1) 0)] := ht.upd hn hle (d := some 11) rfl _
  have hputn : (putAll [11] [.int .i64 L[i]] tm0).n = 29 := (n_put).trans hn
  refine (show sC E0 (callA E0 noOrc fuel n) 13 fuel 29 [(11, .int .i64 L[i]), (3, .ptr (h0.next + 1) 0)] newCode.1 h _ from ?_) _ hputn hput
  refine sC_region (sO_op hle rfl rfl rfl rfl (sO_nil ?_))
  intro tm1 k1 k2
  refine ⟨_, hloop, rfl, ?_⟩
  -- the body, at a heap in which the record is busy
  obtain ⟨hb, ehb⟩ : ∃ hb, hb = h.put (h0.next + 2) (.loop { (⟨.ready, none, 13, tm0, [11], newCode.1, newCode.2⟩ : LoopR) with state := .busy }) := ⟨_, rfl⟩
  have gb : ∀ b, b ≠ h0.next + 2 → hb.get b = h.get b := fun b hne => by rw [ehb, H.get_put hB, if_neg hne]
  have hbn : hb.next = h.next := by rw [ehb]; rfl
  have hbbox : hb.get (h0.next + 1) = some (.cells [.ptr h0.next 0] 1 true) := (gb _ (by omega)).trans hbox
  have hbs : hb.get h0.next = some (.cells [v] 1 true) := (gb _ (by omega)).trans hs
  have hbv : Sl hb v true (L.take i) := hv.frame (fun b hb' => gb b (by have := hvb b hb'; omega)) (by omega)
  have hbl : hb.get (h0.next + 2) = some (.loop ⟨.busy, none, 13, tm0, [11], newCode.1, newCode.2⟩) := by rw [ehb, H.get_put hB, if_pos rfl]
  rw [← ehb]
  -- buildSlice, append
  have hbnlt : hb.next < HM := by omega
  obtain ⟨h1, eh1⟩ : ∃ h1, h1 = hb.alc (.cells [.int .i64 L[i]] (1 * 1) true) := ⟨_, rfl⟩
  have g1 : ∀ b, b ≠ hb.next → h1.get b = hb.get b := fun b hne => by rw [eh1, get_alc hbnlt, if_neg hne]
  have h1n : h1.next = hb.next + 1 := by rw [eh1]; rfl
  have hx : Sl h1 (.slice hb.next 0 1 1) true [L[i]] := .inr ⟨hb.next, ⟨0, [.int .i64 L[i]], 1, rfl, by rw [eh1, get_alc hbnlt, if_pos rfl], by simp, rfl, rfl⟩, by omega⟩
  have hv1 : Sl h1 v true (L.take i) := hbv.frame (fun b hb' => g1 b (by have := hbv.blk_lt hb'; omega)) (by omega)
  obtain ⟨o, h2, a1, a2, a3, a4, a5, a6⟩ := hv1.append (e := 3) (eb := 8) hx (by omega) (by simp; omega) (by decide)
  have hvne : ∀ b, b ≤ h0.next + 2 → blk v ≠ some b := fun b hb' e => by have := hvb b e; omega
  have h1box : h1.get (h0.next + 1) = some (.cells [.ptr h0.next 0] 1 true) := (g1 _ (by omega)).trans hbbox
  have h1s : h1.get h0.next = some (.cells [v] 1 true) := (g1 _ (by omega)).trans hbs
  have h2box : h2.get (h0.next + 1) = some (.cells [.ptr h0.next 0] 1 true) := (a5 _ (by omega) (hvne _ (by omega))).trans h1box
  have h2s : h2.get h0.next = some (.cells [v] 1 true) := (a5 _ (by omega) (hvne _ (by omega))).trans h1s
  have hSm : h0.next < HM := by omega
  obtain ⟨h3, eh3⟩ : ∃ h3, h3 = h2.put h0.next (.cells (over [v] 0 [o]) 1 true) := ⟨_, rfl⟩
  have g3 : ∀ b, b ≠ h0.next → h3.get b = h2.get b := fun b hne => by rw [eh3, H.get_put hSm, if_neg hne]
  have h3s : h3.get h0.next = some (.cells [o] 1 true) := by rw [eh3, H.get_put hSm, if_pos rfl]; rfl
  have h3n : h3.next = h2.next := by rw [eh3]; rfl
  have h3box : h3.get (h0.next + 1) = some (.cells [.ptr h0.next 0] 1 true) := (g3 _ (by omega)).trans h2box
  have hob : ∀ b, blk o = some b → h0.next + 2 < b := fun b hb' => by
    rcases a6 with e | e
    · rw [e] at hb'; exact hvb b hb'
    · rw [e] at hb'; cases hb'; omega
  have ho3 : Sl h3 o true (L.take (i+1)) := by
    have e : L.take (i+1) = L.take i ++ [L[i]] := by rw [List.take_succ_eq_append_getElem hi]
    rw [e]
    exact a2.frame (fun b hb' => g3 b (by have := hob b hb'; omega)) (by omega)
  refine (show sC E0 (callA E0 noOrc fuel n) 13 fuel 29 [(4, .int .i64 L[i]), (11, .int .i64 L[i]), (3, .ptr (h0.next + 1) 0)] newCode.2 hb _ from ?_) tm1 k1 k2
  refine sC_block (sC_seq (sC_draw hle (by kernel_rfl) (by kernel_rfl) ?_))
  refine sR_op rfl rfl rfl (op_load rfl ti38 (loadA_cell rfl hbbox rfl)) (sR_op rfl rfl rfl (op_load rfl ti38 (loadA_cell rfl hbbox rfl)) ?_)
  refine sR_op rfl rfl rfl (v := .ptr h0.next 0) rfl (sR_op rfl rfl rfl (op_fieldAddr rfl field0) (sR_op rfl rfl rfl (op_load rfl ti22 (loadA_cell rfl hbs rfl)) ?_))
  refine sR_op rfl rfl rfl (v := .int .i64 L[i]) rfl (sR_op rfl rfl rfl (v := .slice hb.next 0 1 1) (h1 := h1) (by rw [eh1]; exact op_buildSlice rfl tkE22 rfl rfl rfl rfl hbnlt) ?_)
  refine sR_op rfl rfl rfl (v := o) (h1 := h2) (op_append rfl rfl rfl rfl (by rw [tkE22]; exact a1)) ?_
  refine sR_op rfl rfl rfl (v := .ptr h0.next 0) rfl (sR_op rfl rfl rfl (op_fieldAddr rfl field0) (sR_op rfl rfl rfl (h1 := h3) (by rw [eh3]; exact op_store rfl ti22 (storeA_cell a2.cellsV rfl h2s rfl)) (sR_nil ?_)))
  refine ⟨by kernel_rfl, ?_, ?_⟩
  · intro j r hj hq
    match j, hj with
    | 0, hj =>
      obtain rfl := Option.some.inj hj
      refine ⟨avEq_ptr, fun k _ _ => ⟨_, op_load rfl ti38 (loadA_cell (cs := [.ptr h0.next 0]) (m := 1) (w := true) rfl ?_ rfl)⟩⟩
      match k with
      | 0 | 1 | 2 | 3 | 4 | 5 | 6 => exact hbbox
      | 7 => exact h1box
      | 8 | 9 | 10 => exact h2box
      | k+11 => exact h3box
    | 1, hj =>
      obtain rfl := Option.some.inj hj
      refine ⟨avEq_ptr, fun k _ _ => ⟨_, op_load rfl ti38 (loadA_cell (cs := [.ptr h0.next 0]) (m := 1) (w := true) rfl ?_ rfl)⟩⟩
      match k with
      | 0 | 1 | 2 | 3 | 4 | 5 | 6 => exact hbbox
      | 7 => exact h1box
      | 8 | 9 | 10 => exact h2box
      | k+11 => exact h3box
    | 2, hj => obtain rfl := Option.some.inj hj; exact ⟨avEq_ptr, fun k _ _ => ⟨_, rfl⟩⟩
    | 3, hj => obtain rfl := Option.some.inj hj; exact ⟨avEq_ptr, fun k _ _ => ⟨_, op_fieldAddr rfl field0⟩⟩
    | 4, hj =>
      obtain rfl := Option.some.inj hj
      refine ⟨hv.avEq, fun k hk hbar => ?_⟩
      match k, hk, hbar with
      | 0, _, _ | 1, _, _ | 2, _, _ | 3, _, _ | 4, _, _ | 5, _, _ | 6, _, _ => exact ⟨_, op_load rfl ti22 (loadA_cell rfl hbs rfl)⟩
      | 7, _, _ => exact ⟨_, op_load rfl ti22 (loadA_cell rfl h1s rfl)⟩
      | 8, _, hbar => exact absurd (hbar.symm.trans (by kernel_rfl)) Bool.false_ne_true
      | 9, _, hbar => exact absurd (hbar.symm.trans (by kernel_rfl)) Bool.false_ne_true
      | 10, _, hbar => exact absurd (hbar.symm.trans (by kernel_rfl)) Bool.false_ne_true
      | 11, _, hbar => exact absurd (hbar.symm.trans (by kernel_rfl)) Bool.false_ne_true
      | k+12, hk, _ => exact absurd hk (by simp)
    | 5, hj => obtain rfl := Option.some.inj hj; exact ⟨avEq_int, fun k _ _ => ⟨_, rfl⟩⟩
    | 6, hj => obtain rfl := Option.some.inj hj; cases hq
    | 7, hj => obtain rfl := Option.some.inj hj; cases hq
    | 8, hj => obtain rfl := Option.some.inj hj; exact ⟨avEq_ptr, fun k _ _ => ⟨_, rfl⟩⟩
    | 9, hj => obtain rfl := Option.some.inj hj; exact ⟨avEq_ptr, fun k _ _ => ⟨_, op_fieldAddr rfl field0⟩⟩
    | 10, hj => obtain rfl := Option.some.inj hj; cases hq
    | j+11, hj => cases hj
  · refine sQ_seq (sC_seq (sC_region ?_))
    have hlen : (L.take (i+1)).length = i + 1 := by simp; omega
    refine sO_op hle rfl rfl rfl (op_load rfl ti38 (loadA_cell rfl h3box rfl)) (sO_op hle rfl rfl rfl (v := .ptr h0.next 0) rfl (sO_op hle rfl rfl rfl (op_fieldAddr rfl field0) (sO_op hle rfl rfl rfl (op_load rfl ti22 (loadA_cell rfl h3s rfl)) ?_)))
    refine sO_op hle rfl rfl rfl (op_len rfl rfl rfl rfl tkE22 ho3.len) ?_
    refine sO_op hle rfl rfl rfl (op_bin (v := .bool false) rfl (show some (AV.bool (ieq (L.take (i+1)).length 65536)) = _ by
      rw [ieq_eq, hlen]; congr 1; congr 1; have : ¬ ((i + 1 : Nat) : Int) = 65536 := by omega
      simpa using this)) (sO_nil (sQ_seq ?_))
    refine sC_false rfl rfl (sC_skip ?_)
    intro tm2 _ _
    have h3l : h3.get (h0.next + 2) = some (.loop ⟨.busy, none, 13, tm0, [11], newCode.1, newCode.2⟩) := (g3 _ (by omega)).trans ((a5 _ (by omega) (hvne _ (Nat.le_refl _))).trans ((g1 _ (by omega)).trans hbl))
    refine ⟨_, h3l, rfl, ?_⟩
    have g4 : ∀ b o', b ≠ h0.next + 2 → (h3.put (h0.next + 2) o').get b = h3.get b := fun b o' hne => by rw [H.get_put hB, if_neg hne]
    refine ⟨by rw [H.get_put hB, if_pos rfl], (g4 _ _ (by omega)).trans h3box, ⟨o, (g4 _ _ (by omega)).trans h3s, ho3.frame (fun b hb' => g4 b _ (by have := hob b hb'; omega)) (Nat.le_refl _), hob⟩, fun b hb' => ?_, ?_, ?_⟩
    · rw [g4 b _ (by omega), g3 b (by omega), a5 b (by omega) (hvne b (by omega)), g1 b (by omega), gb b (by omega)]; exact hfr b hb'
    · rw [next_put]; omega
    · rw [next_put]; omega
end Go.Proofs.Ytgafbagehjmipaa

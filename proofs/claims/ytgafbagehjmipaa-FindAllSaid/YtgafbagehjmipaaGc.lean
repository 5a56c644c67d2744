/- find: attrs.Get, told by the evaluator. -/
import Derived.Test.YtgafbagehjmipaaGb
namespace Go.Proofs.Ytgafbagehjmipaa
open Bly

theorem fn25 : E0.func 25 = some Try.f25 := by kernel_rfl
theorem attCells_at : ∀ (L : List Att) (vs : List AV) (i : Nat) (a : Att) (v : AV), vs.length = L.length → L[i]? = some a → vs[i]? = some v → ((attCells L vs).drop (i * 2)).take 2 = [.int .i64 a.1, v]
  | [], _, i, a, _, _, h, _ => by simp at h
  | b :: L, [], i, a, _, h, _, _ => by simp at h
  | b :: L, v :: vs, 0, a, u, _, h, k => by simp at h k; subst h; subst k; rfl
  | b :: L, v :: vs, i+1, a, u, hl, h, k => by
    rw [show (i + 1) * 2 = i * 2 + 1 + 1 by omega]
    exact attCells_at L vs i a u (by simpa using hl) (by simpa using h) (by simpa using k)
theorem storeA_two {h : H} {ti : TI} {b : Nat} {x y c d : AV} (hs : ti.size = 2) (hg : h.get b = some (.cells [c, d] 2 true)) : storeA h ti (.ptr b 0) (.agg [x, y]) = some (h.put b (.cells [x, y] 2 true)) := by
  have h1 : Nat.beq ([x, y] : List AV).length 2 = true := rfl
  have h2 : Nat.ble (0 + 2) 2 = true := rfl
  simp only [storeA, cellsV, hs, h1, storeCellsA, hg, h2]
  rfl
/-- What attrs.Get gives: a copy. -/
def Got3 (h : H) (L : List Att) (lo : Nat) (v' : AV) : Option Nat → Prop
  | some i => ∃ a v, L[i]? = some a ∧ v' = .tup [v, .bool true] ∧ Ar h v true 1 a.2.length (a.2.map byteV) ∧ ∀ b, blk v = some b → lo ≤ b
  | none => v' = .tup [.nils, .bool false]
theorem get_eq {fuel n : Nat} {h : H} {o : AV} {w wv : Bool} {L : List Att} {vs : List AV} {t : Int} (ho : Ats h o w wv L vs) (hf : L.length < fuel) (hL : L.length < 1000) (hb : ∀ a ∈ L, a.2.length ≤ 100000) (hlt : h.next + 2000 ≤ HM) :
    ∃ v' h', callA E0 O6 fuel (n+2) (.fn 25 []) [o, .int .i64 t] h = some (v', h') ∧ Got3 h' L h.next v' (firstAt t L 0) ∧ h.next ≤ h'.next ∧ h'.next ≤ h.next + L.length + 2 ∧ ∀ b, b < h.next → h'.get b = h.get b := by
  refine s_callO rfl fn25 rfl rfl rfl ?_
  have hle : Try.f25.ntmps ≤ 512 := by decide
  refine sC_seq (sC_region (sO_op hle rfl rfl rfl rfl (sO_op hle rfl rfl rfl rfl (sO_nil (sQ_seq ?_)))))
  refine sC_seq (sC_seq (sC_region (sO_op hle rfl rfl rfl rfl (sO_op hle rfl rfl rfl (op_len rfl rfl rfl rfl tkE24 ho.ar.len) (sO_op hle rfl rfl rfl rfl (sO_nil (sQ_seq ?_)))))))
  refine sC_block (sC_weak (s' := [(10, .int .i64 (.ofNat 0)), (9, .int .i64 (.ofNat L.length)), (8, o), (1, .int .i64 t)]) ?_ ?_)
  · intro q u hl
    simp only [lk] at hl
    split at hl
    · rename_i hb; have := Nat.eq_of_beq_eq_true hb; subst this; cases hl; rfl
    · split at hl
      · rename_i hb; have := Nat.eq_of_beq_eq_true hb; subst this; cases hl; rfl
      · split at hl
        · rename_i hb; have := Nat.eq_of_beq_eq_true hb; subst this; cases hl; rfl
        · split at hl
          · rename_i hb; have := Nat.eq_of_beq_eq_true hb; subst this; cases hl; rfl
          · cases hl
  refine sC_loop (fun k s hx => ∃ i : Nat, k + i = L.length ∧ s = [(10, .int .i64 (.ofNat i)), (9, .int .i64 (.ofNat L.length)), (8, o), (1, .int .i64 t)] ∧ firstAt t L 0 = firstAt t (L.drop i) i ∧ hx.next = h.next + i ∧ ∀ b, b < h.next → hx.get b = h.get b) L.length hf ⟨0, by omega, rfl, rfl, rfl, fun _ _ => rfl⟩ ?_
  rintro k s hx ⟨i, hki, rfl, hfi, hxn, hxg⟩
  have ho' : Ats hx o w wv L vs := ho.frame hxg (by omega)
  refine sC_seq (sC_region ?_)
  by_cases hi : i < L.length
  · refine sO_op hle rfl rfl rfl (op_bin (v := .bool true) rfl (show some (AV.bool (ilt (.ofNat i) (.ofNat L.length))) = _ by rw [ilt_eq, decide_eq_true (by simpa using hi)])) (sO_nil (sQ_seq ?_))
    refine sC_seq (sC_true rfl rfl (sC_skip (sQ_seq ?_)))
    have ha : L[i]? = some L[i] := List.getElem?_eq_getElem hi
    have hvi : i < vs.length := by rw [ho.len]; exact hi
    have hv : vs[i]? = some vs[i] := List.getElem?_eq_getElem hvi
    have hdrop : L.drop i = L[i] :: L.drop (i+1) := List.drop_eq_getElem_cons hi
    obtain ⟨b, off, g1, g2⟩ := ho'.ar.idx2 (e := 48) (eb := 32) (z := some [.int .i64 0, .nils]) (k := .i64) hi
    have g1' : indexAddrA (E0.tk 24) o (.int .i64 (.ofNat i)) = some (.ptr b off) := by rw [tkE24]; exact g1
    have x0 := g2 (ti := ⟨2, true, some [.int .i64 0, .nils], 2, .struct [(0, 1, false), (1, 1, false)]⟩) rfl rfl
    rw [attCells_at L vs i L[i] vs[i] ho.len ha hv] at x0
    have hxlt : hx.next < HM := by omega
    obtain ⟨h1, e1⟩ : ∃ h1, h1 = hx.alc (.cells [.int .i64 0, .nils] 2 true) := ⟨_, rfl⟩
    have e1g : ∀ {r : Operand → AV} {q : Oper} {call : Caller}, q.op = .alloc 48 → opA E0 call r q hx = some (.ptr hx.next 0, h1) := fun {r q call} hq => by
      have := op_alloc (E := E0) (call := call) (r := r) (h := hx) hq ti48 rfl hxlt
      rw [this, e1]
    have n1 : h1.next = hx.next + 1 := by rw [e1]; rfl
    obtain ⟨h2, e2⟩ : ∃ h2, h2 = h1.put hx.next (.cells [.int .i64 L[i].1, vs[i]] 2 true) := ⟨_, rfl⟩
    have n2 : h2.next = hx.next + 1 := by rw [e2, next_put, n1]
    have e2g : storeA h1 ⟨2, true, some [.int .i64 0, .nils], 2, .struct [(0, 1, false), (1, 1, false)]⟩ (.ptr hx.next 0) (.agg [.int .i64 L[i].1, vs[i]]) = some h2 := by
      have hg : h1.get hx.next = some (.cells [.int .i64 0, .nils] 2 true) := by rw [e1, get_alc hxlt, if_pos rfl]
      rw [e2]
      exact storeA_two rfl hg
    have g2c : h2.get hx.next = some (.cells [.int .i64 L[i].1, vs[i]] 2 true) := by rw [e2, H.get_put hxlt, if_pos rfl]
    have g2o : ∀ b, b < hx.next → h2.get b = hx.get b := fun b hb => by rw [e2, H.get_put hxlt, if_neg (by omega), e1, get_alc hxlt, if_neg (by omega)]
    refine sC_seq (sC_block (sC_seq (sC_region ?_)))
    refine sO_op hle rfl rfl rfl (op_indexAddr rfl g1') (sO_op hle rfl rfl rfl (op_load rfl ti48 x0) (sO_op hle rfl rfl rfl (e1g rfl) (sO_op hle rfl rfl rfl (op_store rfl ti48 e2g) (sO_nil (sQ_seq ?_)))))
    refine sC_seq (sC_region ?_)
    refine sO_op hle rfl rfl rfl (op_fieldAddr rfl attF0) (sO_op hle rfl rfl rfl (op_load rfl ti3 (loadA_cell rfl g2c rfl)) (sO_op hle rfl rfl rfl rfl ?_))
    by_cases he : L[i].1 = t
    · have hav : Ar h2 vs[i] wv 1 L[i].2.length (L[i].2.map byteV) := (ho'.val i _ _ ha hv).frame (fun b hb => g2o b ((ho'.val i _ _ ha hv).blk_lt hb)) (by omega)
      obtain ⟨c, h3, r1, r2, r3, r4, r5, r6⟩ := clone_eq (fuel := fuel) (n := n) hav (by omega) (hb _ (List.getElem_mem hi))
      refine sO_op hle rfl rfl rfl (eq_eq (k := .i64) (c := true) (decide_eq_true he) rfl rfl rfl) (sO_nil (sQ_seq ?_))
      refine sC_true rfl rfl (sC_seq (sC_region ?_))
      refine sO_op hle rfl rfl rfl (op_fieldAddr rfl attF1) (sO_op hle rfl rfl rfl (op_load rfl ti46 (loadA_cell rfl g2c rfl)) (sO_op hle rfl rfl rfl (op_call (f := 27) (cap := []) rfl rfl rfl r1) (sO_op hle rfl rfl rfl rfl (sO_op hle rfl rfl rfl rfl (sO_nil (sQ_seq (sC_ret ?_)))))))
      refine sQ_end (R := fun v' h' => Got3 h' L h.next v' (firstAt t L 0) ∧ h.next ≤ h'.next ∧ h'.next ≤ h.next + L.length + 2 ∧ ∀ b, b < h.next → h'.get b = h.get b) (.inr rfl) rfl ⟨?_, by omega, by omega, fun b hb' => ?_⟩
      · rw [hfi, hdrop]
        simp only [firstAt, he, if_true]
        exact ⟨L[i], c, ha, rfl, r2, fun b hb' => by have := r6 b hb'; omega⟩
      · rw [r5 b (by omega), g2o b (by omega)]; exact hxg b hb'
    · refine sO_op hle rfl rfl rfl (eq_eq (k := .i64) (c := false) (decide_eq_false he) rfl rfl rfl) (sO_nil (sQ_seq ?_))
      refine sC_false rfl rfl (sC_skip (sQ_seq ?_))
      refine sC_region (sO_op hle rfl rfl rfl (inc_eq (i := i) (by omega) rfl rfl rfl) (sO_op hle rfl rfl rfl rfl (sO_nil ?_)))
      intro tm k1 k2
      refine ⟨k - 1, [(10, .int .i64 (.ofNat (i+1))), (9, .int .i64 (.ofNat L.length)), (8, o), (1, .int .i64 t)], by omega, ⟨i+1, by omega, rfl, ?_, by omega, fun b hb' => (g2o b (by omega)).trans (hxg b hb')⟩, k1, holds_all fun p hp => ?_⟩
      · rw [hfi, hdrop]; simp only [firstAt, he, if_false]
      · simp only [List.mem_cons, List.not_mem_nil, or_false] at hp
        rcases hp with rfl | rfl | rfl | rfl <;> exact k2 _ _ rfl
  · refine sO_op hle rfl rfl rfl (op_bin (v := .bool false) rfl (show some (AV.bool (ilt (.ofNat i) (.ofNat L.length))) = _ by rw [ilt_eq, decide_eq_false (by simpa using hi)])) (sO_nil (sQ_seq ?_))
    refine sC_seq (sC_false rfl rfl (sC_exit ?_))
    refine sQ_seq (sC_seq (sC_region (sO_op hle rfl rfl rfl rfl (sO_op hle rfl rfl rfl rfl (sO_nil (sQ_seq (sC_ret ?_)))))))
    refine sQ_end (R := fun v' h' => Got3 h' L h.next v' (firstAt t L 0) ∧ h.next ≤ h'.next ∧ h'.next ≤ h.next + L.length + 2 ∧ ∀ b, b < h.next → h'.get b = h.get b) (.inr rfl) rfl ⟨?_, by omega, by omega, hxg⟩
    rw [hfi, List.drop_of_length_le (by omega)]
    exact rfl
end Go.Proofs.Ytgafbagehjmipaa

/- find: lists of attributes, told by the evaluator: the reference's Get and Flag. -/
import Derived.Test.YtgafbagehjmipaaFc
import Derived.Test.YtgafbagehjmipaaBlyJ
namespace Go.Proofs.Ytgafbagehjmipaa
open Bly

/-- begun, which is closed, answers true. -/
def O6 : Orc := orcOf 6
/-- An attribute: its type; its value's bytes. -/
abbrev Att := Int × List UInt8
def byteV (b : UInt8) : AV := .int .u8 (.ofNat b.toNat)
def attCells : List Att → List AV → List AV
  | a :: as', v :: vs => .int .i64 a.1 :: v :: attCells as' vs
  | _, _ => []
/-- o holds these attributes; each value lies in a slice of its own. -/
structure Ats (h : H) (o : AV) (w wv : Bool) (L : List Att) (vs : List AV) : Prop where
  len : vs.length = L.length
  ar : Ar h o w 2 L.length (attCells L vs)
  val : ∀ (i : Nat) (a : Att) (v : AV), L[i]? = some a → vs[i]? = some v → Ar h v wv 1 a.2.length (a.2.map byteV)
theorem attCells_typ : ∀ (L : List Att) (vs : List AV) (i : Nat) (a : Att), vs.length = L.length → L[i]? = some a → nth (attCells L vs) (i * 2 + 0) = some (.int .i64 a.1)
  | [], _, i, a, _, h => by simp at h
  | b :: L, [], i, a, h, _ => by simp at h
  | b :: L, v :: vs, 0, a, _, h => by simp at h; subst h; rfl
  | b :: L, v :: vs, i+1, a, hl, h => by
    rw [show (i + 1) * 2 + 0 = (i * 2 + 0) + 1 + 1 by omega]
    exact attCells_typ L vs i a (by simpa using hl) (by simpa using h)
theorem attCells_val : ∀ (L : List Att) (vs : List AV) (i : Nat) (v : AV), vs.length = L.length → vs[i]? = some v → nth (attCells L vs) (i * 2 + 1) = some v
  | _, [], i, a, _, h => by simp at h
  | [], v :: vs, i, a, h, _ => by simp at h
  | b :: L, v :: vs, 0, a, _, h => by simp at h; subst h; rfl
  | b :: L, v :: vs, i+1, a, hl, h => by
    rw [show (i + 1) * 2 + 1 = (i * 2 + 1) + 1 + 1 by omega]
    exact attCells_val L vs i a (by simpa using hl) (by simpa using h)
theorem Ats.frame {h h' : H} {o : AV} {w wv : Bool} {L : List Att} {vs : List AV} (hs : Ats h o w wv L vs) (hb : ∀ b, b < h.next → h'.get b = h.get b) (hn : h.next ≤ h'.next) : Ats h' o w wv L vs :=
  ⟨hs.len, hs.ar.frame (fun b hb' => hb b (hs.ar.blk_lt hb')) hn, fun i a v h1 h2 => (hs.val i a v h1 h2).frame (fun b hb' => hb b ((hs.val i a v h1 h2).blk_lt hb')) hn⟩

theorem ti24 : E0.ti 24 = some ⟨1, false, some [.nils], 1, .slice 48 2 32 (some [.int .i64 0, .nils])⟩ := by kernel_rfl
theorem ti46 : E0.ti 46 = some ⟨1, false, some [.nils], 1, .slice 5 1 1 (some [.int .u8 0])⟩ := by kernel_rfl
theorem ti48 : E0.ti 48 = some ⟨2, true, some [.int .i64 0, .nils], 2, .struct [(0, 1, false), (1, 1, false)]⟩ := by kernel_rfl
theorem ti5 : E0.ti 5 = some ⟨1, false, some [.int .u8 0], 1, .int .u8⟩ := by kernel_rfl
theorem tkE24 : E0.tk 24 = .slice 48 2 32 (some [.int .i64 0, .nils]) := by unfold Env.tk; rw [ti24]
theorem tkE46 : E0.tk 46 = .slice 5 1 1 (some [.int .u8 0]) := by unfold Env.tk; rw [ti46]
theorem tkE48 : E0.tk 48 = .struct [(0, 1, false), (1, 1, false)] := by unfold Env.tk; rw [ti48]
theorem attF0 {b off : Nat} : fieldAddrA (E0.tk 48) (.ptr b off) 0 = some (.ptr b (off + 0)) := by rw [tkE48]; rfl
theorem attF1 {b off : Nat} : fieldAddrA (E0.tk 48) (.ptr b off) 1 = some (.ptr b (off + 1)) := by rw [tkE48]; rfl
theorem fn19 : E0.func 19 = some Try.f19 := by kernel_rfl
theorem fn18 : E0.func 18 = some Try.f18 := by kernel_rfl

/-- Where the first of a type stands. -/
def firstAt (t : Int) : List Att → Nat → Option Nat
  | [], _ => none
  | a :: L, i => if a.1 = t then some i else firstAt t L (i+1)
theorem eq_eq {a b : Int} {c : Bool} (hc : decide (a = b) = c) {r : Operand → AV} {E : Env} {call : Caller} {o : Oper} {x y : Operand} {t u : Nat} {h : H} {k : IntKind} (ho : o.op = .binOp .eql t x y u) (hx : r x = .int k a) (hy : r y = .int k b) :
    opA E call r o h = some (.bool c, h) := by
  refine op_bin ho ?_
  rw [hx, hy]
  show (if k = k then some (AV.bool (ieq a b)) else none) = _
  rw [if_pos rfl, ieq_eq, ← hc]; congr 2

/-- Short. -/
theorem short_eq {fuel n : Nat} {h : H} {v : AV} {w : Bool} {cs : List AV} {m k : Nat} (hv : Ar h v w 1 m cs) :
    ∃ v' h', callA E0 O6 fuel (n+1) (.fn 18 []) [v, .int .i64 (.ofNat k)] h = some (v', h') ∧ Ar h v' w 1 (min m k) (cs.take k) ∧ h' = h := by
  refine s_callO rfl fn18 rfl rfl rfl ?_
  have hle : Try.f18.ntmps ≤ 512 := by decide
  refine sC_seq (sC_region (sO_op hle rfl rfl rfl rfl (sO_nil (sQ_seq ?_))))
  refine sC_seq (sC_seq (sC_region (sO_op hle rfl rfl rfl rfl (sO_op hle rfl rfl rfl (op_len rfl rfl rfl rfl tkE46 hv.len) (sO_op hle rfl rfl rfl rfl ?_)))))
  by_cases hc : k < m
  · refine sO_op hle rfl rfl rfl (op_bin (v := .bool true) rfl (show some (AV.bool (ilt (.ofNat k) (.ofNat m))) = _ by rw [ilt_eq, decide_eq_true (by simpa using hc)])) (sO_nil (sQ_seq ?_))
    obtain ⟨v1, g1, g2, _⟩ := hv.hi (e := 5) (eb := 1) (z := some [.int .u8 0]) (k := .i64) (k' := k) (by omega)
    refine sC_true rfl rfl (sC_seq (sC_region (sO_op hle rfl rfl rfl rfl (sO_op hle rfl rfl rfl rfl (sO_op hle rfl rfl rfl (op_slice (v := v1) rfl (by rw [tkE46]; exact g1)) (sO_op hle rfl rfl rfl rfl (sO_nil (sQ_seq (sC_ret ?_)))))))))
    refine sQ_end (R := fun v' h' => Ar h v' w 1 (min m k) (cs.take k) ∧ h' = h) (.inr rfl) rfl ⟨?_, rfl⟩
    rw [Nat.mul_one] at g2
    rw [Nat.min_eq_right (by omega)]; exact g2
  · refine sO_op hle rfl rfl rfl (op_bin (v := .bool false) rfl (show some (AV.bool (ilt (.ofNat k) (.ofNat m))) = _ by rw [ilt_eq, decide_eq_false (by simpa using hc)])) (sO_nil (sQ_seq ?_))
    refine sC_false rfl rfl (sC_skip (sQ_seq ?_))
    refine sC_seq (sC_region (sO_op hle rfl rfl rfl rfl (sO_op hle rfl rfl rfl rfl (sO_nil (sQ_seq (sC_ret ?_))))))
    refine sQ_end (.inr rfl) rfl ⟨?_, rfl⟩
    have hl := hv.length
    rw [Nat.min_eq_left (by omega), List.take_of_length_le (by omega)]; exact hv

/-- What Get gives. -/
def Got2 (vs : List AV) (v' : AV) : Option Nat → Prop
  | some i => ∃ v, vs[i]? = some v ∧ v' = .tup [v, .bool true]
  | none => v' = .tup [.nils, .bool false]
theorem refGet_eq {fuel n : Nat} {h : H} {o : AV} {w wv : Bool} {L : List Att} {vs : List AV} {t : Int} (ho : Ats h o w wv L vs) (hf : L.length < fuel) (hL : L.length < 100000) :
    ∃ v' h', callA E0 O6 fuel (n+1) (.fn 19 []) [o, .int .i64 t] h = some (v', h') ∧ Got2 vs v' (firstAt t L 0) ∧ h' = h := by
  refine s_callO rfl fn19 rfl rfl rfl ?_
  have hle : Try.f19.ntmps ≤ 512 := by decide
  refine sC_seq (sC_region (sO_op hle rfl rfl rfl rfl (sO_op hle rfl rfl rfl rfl (sO_nil (sQ_seq ?_)))))
  refine sC_seq (sC_seq (sC_region (sO_op hle rfl rfl rfl rfl (sO_nil (sQ_seq ?_)))))
  refine sC_block (sC_weak (s' := [(6, .int .i64 (.ofNat 0)), (0, o), (1, .int .i64 t)]) (by
    intro q u hl
    simp only [lk] at hl
    split at hl
    · rename_i hb; have := Nat.eq_of_beq_eq_true hb; subst this; cases hl; rfl
    · split at hl
      · rename_i hb; have := Nat.eq_of_beq_eq_true hb; subst this; cases hl; rfl
      · split at hl
        · rename_i hb; have := Nat.eq_of_beq_eq_true hb; subst this; cases hl; rfl
        · cases hl) ?_)
  refine sC_loop (fun k s hx => ∃ i : Nat, k + i = L.length ∧ s = [(6, .int .i64 (.ofNat i)), (0, o), (1, .int .i64 t)] ∧ firstAt t L 0 = firstAt t (L.drop i) i ∧ hx = h) L.length hf ⟨0, by omega, rfl, rfl, rfl⟩ ?_
  rintro k s hx ⟨i, hki, rfl, hfi, eh⟩
  rw [eh]
  clear eh
  refine sC_seq (sC_seq (sC_region (sO_op hle rfl rfl rfl rfl (sO_op hle rfl rfl rfl rfl (sO_op hle rfl rfl rfl (op_len rfl rfl rfl rfl tkE24 ho.ar.len) ?_)))))
  by_cases hi : i < L.length
  · refine sO_op hle rfl rfl rfl (op_bin (v := .bool true) rfl (show some (AV.bool (ilt (.ofNat i) (.ofNat L.length))) = _ by rw [ilt_eq, decide_eq_true (by simpa using hi)])) (sO_nil (sQ_seq ?_))
    refine sC_true rfl rfl (sC_skip (sQ_seq ?_))
    have ha : L[i]? = some L[i] := List.getElem?_eq_getElem hi
    have hvi : i < vs.length := by rw [ho.len]; exact hi
    have hv : vs[i]? = some vs[i] := List.getElem?_eq_getElem hvi
    have hdrop : L.drop i = L[i] :: L.drop (i+1) := List.drop_eq_getElem_cons hi
    obtain ⟨b, off, g1, g2⟩ := ho.ar.idx (e := 48) (eb := 32) (z := some [.int .i64 0, .nils]) (k := .i64) hi
    have g1' : indexAddrA (E0.tk 24) o (.int .i64 (.ofNat i)) = some (.ptr b off) := by rw [tkE24]; exact g1
    have x0 := g2 0 (by decide) (ti := ⟨1, false, some [.int .i64 0], 1, .int .i64⟩) rfl (attCells_typ L vs i L[i] ho.len ha)
    have x1 := g2 1 (by decide) (ti := ⟨1, false, some [.nils], 1, .slice 5 1 1 (some [.int .u8 0])⟩) rfl (attCells_val L vs i vs[i] ho.len hv)
    refine sC_seq (sC_block (sC_seq (sC_region ?_)))
    refine sO_op hle rfl rfl rfl rfl (sO_op hle rfl rfl rfl rfl (sO_op hle rfl rfl rfl (op_indexAddr rfl g1') (sO_op hle rfl rfl rfl (op_fieldAddr rfl attF0) (sO_op hle rfl rfl rfl (op_load rfl ti3 x0) (sO_op hle rfl rfl rfl rfl ?_)))))
    by_cases he : L[i].1 = t
    · refine sO_op hle rfl rfl rfl (eq_eq (k := .i64) (c := true) (decide_eq_true he) rfl rfl rfl) (sO_nil (sQ_seq ?_))
      refine sC_true rfl rfl (sC_seq (sC_region ?_))
      refine sO_op hle rfl rfl rfl rfl (sO_op hle rfl rfl rfl rfl (sO_op hle rfl rfl rfl (op_indexAddr rfl g1') (sO_op hle rfl rfl rfl (op_fieldAddr rfl attF1) (sO_op hle rfl rfl rfl (op_load rfl ti46 x1) (sO_op hle rfl rfl rfl rfl (sO_op hle rfl rfl rfl rfl (sO_nil (sQ_seq (sC_ret ?_)))))))))
      refine sQ_end (R := fun v' h' => Got2 vs v' (firstAt t L 0) ∧ h' = h) (.inr rfl) rfl ⟨?_, rfl⟩
      rw [hfi, hdrop]
      simp only [firstAt, he, if_true]
      exact ⟨vs[i], hv, rfl⟩
    · refine sO_op hle rfl rfl rfl (eq_eq (k := .i64) (c := false) (decide_eq_false he) rfl rfl rfl) (sO_nil (sQ_seq ?_))
      refine sC_false rfl rfl (sC_skip (sQ_seq ?_))
      refine sC_region (sO_op hle rfl rfl rfl rfl (sO_op hle rfl rfl rfl (inc_eq (i := i) (by omega) rfl rfl rfl) (sO_op hle rfl rfl rfl rfl (sO_nil ?_))))
      intro tm k1 k2
      refine ⟨k - 1, [(6, .int .i64 (.ofNat (i+1))), (0, o), (1, .int .i64 t)], by omega, ⟨i+1, by omega, rfl, ?_, rfl⟩, k1, holds_all fun p hp => ?_⟩
      · rw [hfi, hdrop]; simp only [firstAt, he, if_false]
      · simp only [List.mem_cons, List.not_mem_nil, or_false] at hp
        rcases hp with rfl | rfl | rfl <;> exact k2 _ _ rfl
  · refine sO_op hle rfl rfl rfl (op_bin (v := .bool false) rfl (show some (AV.bool (ilt (.ofNat i) (.ofNat L.length))) = _ by rw [ilt_eq, decide_eq_false (by simpa using hi)])) (sO_nil (sQ_seq ?_))
    refine sC_false rfl rfl (sC_exit ?_)
    refine sQ_seq (sC_seq (sC_region (sO_op hle rfl rfl rfl rfl (sO_op hle rfl rfl rfl rfl (sO_nil (sQ_seq (sC_ret ?_)))))))
    refine sQ_end (R := fun v' h' => Got2 vs v' (firstAt t L 0) ∧ h' = h) (.inr rfl) rfl ⟨?_, rfl⟩
    rw [hfi, List.drop_of_length_le (by omega)]
    exact rfl
end Go.Proofs.Ytgafbagehjmipaa

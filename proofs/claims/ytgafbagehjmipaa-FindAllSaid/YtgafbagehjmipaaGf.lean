/- find: bytes.Equal and both Match, told by the evaluator. -/
import Derived.Test.YtgafbagehjmipaaGe
import Derived.Test.YtgafbagehjmipaaBlyJ
namespace Go.Proofs.Ytgafbagehjmipaa
open Bly

theorem ti9 : E0.ti 9 = some ⟨1, false, some [.str []], 1, .string⟩ := by kernel_rfl
theorem tkE9 : E0.tk 9 = .string := by unfold Env.tk; rw [ti9]
theorem tkE5 : E0.tk 5 = .int .u8 := by unfold Env.tk; rw [ti5]
theorem isBytes46 : E0.bytes (E0.tk 46) = true := by rw [tkE46]; unfold Env.bytes; simp only; rw [tkE5]
theorem fn26 : E0.func 26 = some Try.f26 := by kernel_rfl
theorem fn10 : E0.func 10 = some Try.f10 := by kernel_rfl
theorem fn22 : E0.func 22 = some Try.f22 := by kernel_rfl
theorem byteV_ok (b : UInt8) : isByte (byteV b) = true := blt_true.2 b.toNat_lt
/-- string(v). -/
theorem conv_str {call : Caller} {r : Operand → AV} {o : Oper} {h : H} {x : Operand} {v : AV} {w : Bool} {bs : List UInt8} (ho : o.op = .convert 46 9 x) (hx : r x = v) (hv : Ar h v w 1 bs.length (bs.map byteV)) : opA E0 call r o h = some (.str (bs.map byteV), h) := by
  simp only [opA, ho, hx]
  rw [isBytes46, tkE46, tkE9]
  rcases hv with ⟨rfl, h1, h2⟩ | ⟨b, ⟨off, ds, m, rfl, hg, hle, hm, he⟩, _⟩
  · rw [h2]; rfl
  · have h1 := Nat.ble_eq_true_of_le (show off + bs.length ≤ m by omega)
    have h2 : (bs.map byteV).all isByte = true := List.all_eq_true.2 fun x hx => by obtain ⟨b, _, rfl⟩ := List.mem_map.1 hx; exact byteV_ok b
    rw [Nat.mul_one] at he
    simp only [convA, loadCellsA, hg, h1, he, h2]
theorem eqBytes_eq : ∀ (a b : List UInt8), eqBytes (a.map byteV) (b.map byteV) = some (decide (a = b))
  | [], [] => rfl
  | [], _ :: _ => by simp [eqBytes]
  | _ :: _, [] => by simp [eqBytes]
  | a :: l, b :: m => by
    have ih := eqBytes_eq l m
    simp only [List.map_cons, eqBytes, byteV, ieq_eq]
    by_cases h : a = b
    · subst h
      rw [show (Int.ofNat a.toNat == Int.ofNat a.toNat) = true from beq_self_eq_true _]
      simp only
      rw [ih]
      congr 1
      simp
    · have hn : ¬ Int.ofNat a.toNat = Int.ofNat b.toNat := fun e => h (UInt8.toNat_inj.1 (Int.ofNat.inj e))
      rw [beq_eq_false_iff_ne.2 hn]
      simp only
      congr 1
      rw [eq_comm]
      simp [h]
theorem streq {call : Caller} {r : Operand → AV} {o : Oper} {h : H} {x y : Operand} {u : Nat} {a b : List UInt8} (ho : o.op = .binOp .eql 9 x y u) (hx : r x = .str (a.map byteV)) (hy : r y = .str (b.map byteV)) : opA E0 call r o h = some (.bool (decide (a = b)), h) := by
  refine op_bin ho ?_
  rw [hx, hy]
  show strBin .eql _ _ = _
  unfold strBin
  simp only [eqBytes_eq]
theorem strne {call : Caller} {r : Operand → AV} {o : Oper} {h : H} {x y : Operand} {u : Nat} {a b : List UInt8} (ho : o.op = .binOp .neq 9 x y u) (hx : r x = .str (a.map byteV)) (hy : r y = .str (b.map byteV)) : opA E0 call r o h = some (.bool (!decide (a = b)), h) := by
  refine op_bin ho ?_
  rw [hx, hy]
  show strBin .neq _ _ = _
  unfold strBin
  simp only [eqBytes_eq]
/-- bytes.Equal. -/
theorem equal_eq {fuel n : Nat} {h : H} {v u : AV} {w w' : Bool} {a b : List UInt8} (hv : Ar h v w 1 a.length (a.map byteV)) (hu : Ar h u w' 1 b.length (b.map byteV)) :
    ∃ v' h', callA E0 O6 fuel (n+1) (.fn 26 []) [v, u] h = some (v', h') ∧ v' = .bool (decide (a = b)) ∧ h' = h := by
  refine s_callO rfl fn26 rfl rfl rfl ?_
  have hle : Try.f26.ntmps ≤ 512 := by decide
  refine sC_seq (sC_region (sO_op hle rfl rfl rfl rfl (sO_nil (sQ_seq ?_))))
  refine sC_seq (sC_region (sO_op hle rfl rfl rfl rfl (sO_op hle rfl rfl rfl (conv_str rfl rfl hv) (sO_op hle rfl rfl rfl rfl (sO_op hle rfl rfl rfl (conv_str rfl rfl hu) ?_)))))
  refine sO_op hle rfl rfl rfl (streq (a := a) (b := b) rfl rfl rfl) (sO_op hle rfl rfl rfl rfl (sO_nil (sQ_seq (sC_ret ?_))))
  exact sQ_end (.inr rfl) rfl ⟨rfl, rfl⟩

/-- Has L the values of T? -/
def hasL (L : List Att) (a : Att) : Bool := match firstAt a.1 L 0 with | some i => (match L[i]? with | some b => decide (b.2 = a.2) | none => false) | none => false
def matchL (L T : List Att) : Bool := T.all (hasL L)
theorem lt_eq {a b : Nat} {c : Bool} (hc : decide (a < b) = c) {r : Operand → AV} {E : Env} {call : Caller} {o : Oper} {x y : Operand} {t u : Nat} {h : H} (ho : o.op = .binOp .lss t x y u) (hx : r x = .int .i64 (.ofNat a)) (hy : r y = .int .i64 (.ofNat b)) :
    opA E call r o h = some (.bool c, h) := by
  refine op_bin ho ?_
  rw [hx, hy]
  show some (AV.bool (ilt (.ofNat a) (.ofNat b))) = _
  rw [ilt_eq, ← hc]; simp

theorem got2_split {h : H} {o : AV} {w wv : Bool} {L : List Att} {vs : List AV} {a : Att} {g : AV} (ho : Ats h o w wv L vs) (hg : Got2 vs g (firstAt a.1 L 0)) :
    ∃ x ok, g = .tup [x, .bool ok] ∧ avEq x x = true ∧ (ok = false → hasL L a = false) ∧ (ok = true → ∃ bs : List UInt8, Ar h x wv 1 bs.length (bs.map byteV) ∧ hasL L a = decide (bs = a.2)) := by
  unfold hasL
  cases hf : firstAt a.1 L 0 with
  | none => rw [hf] at hg; exact ⟨.nils, false, hg, rfl, fun _ => rfl, fun h => by cases h⟩
  | some i =>
    rw [hf] at hg
    obtain ⟨v, hv, hg⟩ := hg
    have hi : i < L.length := by have := firstAt_lt a.1 L 0 i hf; omega
    have ha : L[i]? = some L[i] := List.getElem?_eq_getElem hi
    have hav := ho.val i _ _ ha hv
    exact ⟨v, true, hg, hav.avEq, fun h => (by cases h), fun _ => ⟨L[i].2, hav, by simp only [ha]⟩⟩
theorem avEq_bytes (l : List UInt8) : avEq (.str (l.map byteV)) (.str (l.map byteV)) = true := avEq_str fun x hx => by obtain ⟨b, _, rfl⟩ := List.mem_map.1 hx; exact avEq_int

/-- The reference's Match. -/
theorem refMatch_eq {fuel n : Nat} {h : H} {o t : AV} {w wv w2 wv2 : Bool} {L T : List Att} {vs us : List AV} (ho : Ats h o w wv L vs) (ht : Ats h t w2 wv2 T us) (hf : L.length < fuel) (hf2 : T.length < fuel) (hL : L.length < 100000) (hT : T.length < 100000) :
    ∃ v' h', callA E0 O6 fuel (n+2) (.fn 10 []) [o, t] h = some (v', h') ∧ v' = .bool (matchL L T) ∧ h' = h := by
  refine s_callO rfl fn10 rfl rfl rfl ?_
  have hle : Try.f10.ntmps ≤ 512 := by decide
  refine sC_seq (sC_region (sO_op hle rfl rfl rfl rfl (sO_nil (sQ_seq ?_))))
  refine sC_seq (sC_seq (sC_region (sO_op hle rfl rfl rfl rfl (sO_nil (sQ_seq ?_)))))
  refine sC_block (sC_sub (s' := [(5, .int .i64 (.ofNat 0)), (0, o), (1, t)]) ⟨rfl, rfl, rfl, trivial⟩ ?_)
  refine sC_loop (fun k s hx => ∃ i : Nat, k + i = T.length ∧ s = [(5, .int .i64 (.ofNat i)), (0, o), (1, t)] ∧ matchL L T = matchL L (T.drop i) ∧ hx = h) T.length hf2 ⟨0, by omega, rfl, rfl, rfl⟩ ?_
  rintro k s hx ⟨i, hki, rfl, hfi, eh⟩
  rw [eh]
  clear eh
  refine sC_seq (sC_seq (sC_region (sO_op hle rfl rfl rfl rfl (sO_op hle rfl rfl rfl rfl (sO_op hle rfl rfl rfl (op_len rfl rfl rfl rfl tkE24 ht.ar.len) ?_)))))
  by_cases hi : i < T.length
  case neg =>
    refine sO_op hle rfl rfl rfl (lt_eq (a := i) (b := T.length) (c := false) (by simpa using hi) rfl rfl rfl) (sO_nil (sQ_seq ?_))
    refine sC_false rfl rfl (sC_exit ?_)
    refine sQ_seq (sC_seq (sC_region (sO_op hle rfl rfl rfl rfl (sO_nil (sQ_seq (sC_ret ?_))))))
    refine sQ_end (R := fun v' h' => v' = .bool (matchL L T) ∧ h' = h) (.inr rfl) rfl ⟨?_, rfl⟩
    rw [hfi, List.drop_of_length_le (by omega)]; rfl
  refine sO_op hle rfl rfl rfl (lt_eq (a := i) (b := T.length) (c := true) (by simpa using hi) rfl rfl rfl) (sO_nil (sQ_seq ?_))
  refine sC_true rfl rfl (sC_skip (sQ_seq ?_))
  have ha : T[i]? = some T[i] := List.getElem?_eq_getElem hi
  have hvi : i < us.length := by rw [ht.len]; exact hi
  have hv : us[i]? = some us[i] := List.getElem?_eq_getElem hvi
  have hdrop : T.drop i = T[i] :: T.drop (i+1) := List.drop_eq_getElem_cons hi
  have hml : matchL L (T.drop i) = (hasL L T[i] && matchL L (T.drop (i+1))) := by rw [hdrop]; rfl
  obtain ⟨b, off, g1, g2⟩ := ht.ar.idx (e := 48) (eb := 32) (z := some [.int .i64 0, .nils]) (k := .i64) hi
  have g1' : indexAddrA (E0.tk 24) t (.int .i64 (.ofNat i)) = some (.ptr b off) := by rw [tkE24]; exact g1
  have x0 := g2 0 (by decide) (ti := ⟨1, false, some [.int .i64 0], 1, .int .i64⟩) rfl (attCells_typ T us i T[i] ht.len ha)
  have x1 := g2 1 (by decide) (ti := ⟨1, false, some [.nils], 1, .slice 5 1 1 (some [.int .u8 0])⟩) rfl (attCells_val T us i us[i] ht.len hv)
  have hub := ht.val i _ _ ha hv
  obtain ⟨g, _, r1, r2, e3⟩ := refGet_eq (fuel := fuel) (n := n) (t := T[i].1) ho hf hL
  rw [e3] at r1
  clear e3
  obtain ⟨x, ok, e4, hxe, hno, hyes⟩ := got2_split ho r2
  rw [e4] at r1
  refine sC_seq (sC_block (sC_seq (sC_region ?_)))
  refine sO_op hle rfl rfl rfl rfl (sO_op hle rfl rfl rfl rfl (sO_op hle rfl rfl rfl rfl (sO_op hle rfl rfl rfl (op_indexAddr rfl g1') (sO_op hle rfl rfl rfl (op_fieldAddr rfl attF0) (sO_op hle rfl rfl rfl (op_load rfl ti3 x0) (sO_op hle rfl rfl rfl (op_call (f := 19) (cap := []) rfl rfl rfl r1) ?_))))))
  refine sO_op hle rfl rfl rfl rfl (sO_op hle rfl rfl rfl (v := x) rfl (sO_op hle rfl rfl rfl (v := .bool ok) rfl (sO_op hle rfl rfl rfl rfl (sO_op hle rfl rfl rfl rfl (sO_nil (sQ_seq ?_))))))
  refine sC_seq (sC_cut (s' := [(36, .bool (!hasL L T[i])), (5, .int .i64 (.ofNat i)), (0, o), (1, t)]) (h' := h) ?_ (sQ_seq ?_))
  · refine sC_drawA true (fun h' => h' = h) hle (by kernel_rfl) (by kernel_rfl) (by kernel_rfl) ?_
    refine sS_pure rfl rfl (gotG_none rfl) rfl rfl (v := .bool ok) rfl avEq_bool (sS_pure rfl rfl (gotG_none rfl) rfl rfl (v := .bool !ok) rfl avEq_bool (sS_pure rfl rfl (gotG_none rfl) rfl rfl (v := .bool !ok) rfl avEq_bool ?_))
    cases ok with
    | false =>
      refine sS_skip rfl rfl (gotG_some rfl rfl rfl rfl rfl) (sS_skip rfl rfl (gotG_some rfl rfl rfl rfl rfl) (sS_skip rfl rfl (gotG_some rfl rfl rfl rfl rfl) (sS_skip rfl rfl (gotG_some rfl rfl rfl rfl rfl) (sS_skip rfl rfl (gotG_some rfl rfl rfl rfl rfl) ?_))))
      refine sS_skip rfl rfl (gotG_some rfl rfl rfl rfl rfl) (sS_skip rfl rfl (gotG_some rfl rfl rfl rfl rfl) (sS_skip rfl rfl (gotG_some rfl rfl rfl rfl rfl) (sS_skip rfl rfl (gotG_some rfl rfl rfl rfl rfl) ?_)))
      refine sS_pure rfl rfl (gotG_none rfl) rfl rfl (v := .bool true) rfl avEq_bool (sS_nil ⟨rfl, sQ_cut ⟨?_, rfl, rfl, rfl, trivial⟩⟩)
      rw [hno rfl]; rfl
    | true =>
      obtain ⟨bs, hbs, hhas⟩ := hyes rfl
      refine sS_pure rfl rfl (gotG_some rfl rfl rfl rfl rfl) rfl rfl (v := x) rfl hxe (sS_quiet rfl rfl (gotG_some rfl rfl rfl rfl rfl) rfl rfl (avEq_bytes bs) (fun h' hh => by rw [hh]; exact conv_str rfl rfl hbs) ?_)
      refine sS_pure rfl rfl (gotG_some rfl rfl rfl rfl rfl) rfl rfl (v := t) rfl ht.ar.avEq (sS_pure rfl rfl (gotG_some rfl rfl rfl rfl rfl) rfl rfl (v := .int .i64 (.ofNat i)) rfl avEq_int ?_)
      refine sS_pure rfl rfl (gotG_some rfl rfl rfl rfl rfl) rfl rfl (h1 := h) (op_indexAddr rfl g1') avEq_ptr (sS_pure rfl rfl (gotG_some rfl rfl rfl rfl rfl) rfl rfl (h1 := h) (op_fieldAddr rfl attF1) avEq_ptr ?_)
      refine sS_quiet rfl rfl (gotG_some rfl rfl rfl rfl rfl) rfl rfl hub.avEq (fun h' hh => by rw [hh]; exact op_load rfl ti46 x1) (sS_quiet rfl rfl (gotG_some rfl rfl rfl rfl rfl) rfl rfl (avEq_bytes T[i].2) (fun h' hh => by rw [hh]; exact conv_str rfl rfl hub) ?_)
      refine sS_pure rfl rfl (gotG_some rfl rfl rfl rfl rfl) rfl rfl (h1 := h) (strne (a := bs) (b := T[i].2) rfl rfl rfl) avEq_bool ?_
      refine sS_pure rfl rfl (gotG_none rfl) rfl rfl (v := .bool (!decide (bs = T[i].2))) rfl avEq_bool (sS_nil ⟨rfl, sQ_cut ⟨?_, rfl, rfl, rfl, trivial⟩⟩)
      rw [hhas]; rfl
  cases hh : hasL L T[i] with
  | false =>
    refine sC_true rfl rfl ?_
    refine sC_seq (sC_region (sO_op hle rfl rfl rfl rfl (sO_nil (sQ_seq (sC_ret ?_)))))
    refine sQ_end (R := fun v' h' => v' = .bool (matchL L T) ∧ h' = h) (.inr rfl) rfl ⟨?_, rfl⟩
    rw [hfi, hml, hh]; rfl
  | true =>
    refine sC_false rfl rfl (sC_skip (sQ_seq ?_))
    refine sC_region (sO_op hle rfl rfl rfl rfl (sO_op hle rfl rfl rfl (inc_eq (i := i) (by omega) rfl rfl rfl) (sO_op hle rfl rfl rfl rfl (sO_nil ?_))))
    intro tm k1 k2
    exact ⟨k - 1, [(5, .int .i64 (.ofNat (i+1))), (0, o), (1, t)], by omega, ⟨i+1, by omega, rfl, by rw [hfi, hml, hh]; rfl, rfl⟩, k1, k2.sub ⟨rfl, rfl, rfl, trivial⟩⟩

/-- attrs.Match. -/
theorem got3_split {h : H} {L : List Att} {lo : Nat} {a : Att} {g : AV} (hg : Got3 h L lo g (firstAt a.1 L 0)) :
    ∃ x ok, g = .tup [x, .bool ok] ∧ (ok = false → hasL L a = false) ∧ (ok = true → ∃ bs : List UInt8, Ar h x true 1 bs.length (bs.map byteV) ∧ hasL L a = decide (bs = a.2)) := by
  unfold hasL
  cases hf : firstAt a.1 L 0 with
  | none => rw [hf] at hg; exact ⟨.nils, false, hg, fun _ => rfl, fun h => by cases h⟩
  | some i =>
    rw [hf] at hg
    obtain ⟨b, v, hb, hg, hav, _⟩ := hg
    exact ⟨v, true, hg, fun h => (by cases h), fun _ => ⟨b.2, hav, by simp only [hb]⟩⟩
theorem match_eq {fuel n : Nat} {h : H} {o t : AV} {w wv w2 wv2 : Bool} {L T : List Att} {vs us : List AV} (ho : Ats h o w wv L vs) (ht : Ats h t w2 wv2 T us) (hf : L.length < fuel) (hf2 : T.length < fuel) (hL : L.length < 1000) (hT : T.length < 10) (hb : ∀ a ∈ L, a.2.length ≤ 100000) (hlt : h.next + 20000 ≤ HM) :
    ∃ v' h', callA E0 O6 fuel (n+3) (.fn 22 []) [o, t] h = some (v', h') ∧ v' = .bool (matchL L T) ∧ h.next ≤ h'.next ∧ h'.next ≤ h.next + T.length * (L.length + 3) ∧ ∀ b, b < h.next → h'.get b = h.get b := by
  refine s_callO rfl fn22 rfl rfl rfl ?_
  have hle : Try.f22.ntmps ≤ 512 := by decide
  refine sC_seq (sC_region (sO_op hle rfl rfl rfl rfl (sO_nil (sQ_seq ?_))))
  refine sC_seq (sC_seq (sC_region (sO_op hle rfl rfl rfl rfl (sO_op hle rfl rfl rfl (op_len rfl rfl rfl rfl tkE24 ht.ar.len) (sO_op hle rfl rfl rfl rfl (sO_nil (sQ_seq ?_)))))))
  refine sC_block (sC_sub (s' := [(11, .int .i64 (.ofNat 0)), (10, .int .i64 (.ofNat T.length)), (9, t), (0, o)]) ⟨rfl, rfl, rfl, rfl, trivial⟩ ?_)
  refine sC_loop (fun k s hx => ∃ i : Nat, k + i = T.length ∧ s = [(11, .int .i64 (.ofNat i)), (10, .int .i64 (.ofNat T.length)), (9, t), (0, o)] ∧ matchL L T = matchL L (T.drop i) ∧ h.next ≤ hx.next ∧ hx.next ≤ h.next + i * (L.length + 3) ∧ ∀ b, b < h.next → hx.get b = h.get b) T.length hf2 ⟨0, by omega, rfl, rfl, by omega, by omega, fun _ _ => rfl⟩ ?_
  rintro k s hx ⟨i, hki, rfl, hfi, hlo, hhi, hfr⟩
  have ho' : Ats hx o w wv L vs := ho.frame hfr (by omega)
  have ht' : Ats hx t w2 wv2 T us := ht.frame hfr (by omega)
  have hbound : ∀ j, j ≤ T.length → j * (L.length + 3) ≤ 9 * 1003 := fun j hj => Nat.mul_le_mul (by omega) (by omega)
  refine sC_seq (sC_region ?_)
  by_cases hi : i < T.length
  case neg =>
    refine sO_op hle rfl rfl rfl (lt_eq (a := i) (b := T.length) (c := false) (by simpa using hi) rfl rfl rfl) (sO_nil (sQ_seq ?_))
    refine sC_seq (sC_false rfl rfl (sC_exit ?_))
    refine sQ_seq (sC_seq (sC_region (sO_op hle rfl rfl rfl rfl (sO_nil (sQ_seq (sC_ret ?_))))))
    have : i = T.length := by omega
    refine sQ_end (R := fun v' h' => v' = .bool (matchL L T) ∧ h.next ≤ h'.next ∧ h'.next ≤ h.next + T.length * (L.length + 3) ∧ ∀ b, b < h.next → h'.get b = h.get b) (.inr rfl) rfl ⟨?_, hlo, by rw [← this]; exact hhi, hfr⟩
    rw [hfi, List.drop_of_length_le (by omega)]; rfl
  refine sO_op hle rfl rfl rfl (lt_eq (a := i) (b := T.length) (c := true) (by simpa using hi) rfl rfl rfl) (sO_nil (sQ_seq ?_))
  refine sC_seq (sC_true rfl rfl (sC_skip (sQ_seq ?_)))
  have ha : T[i]? = some T[i] := List.getElem?_eq_getElem hi
  have hvi : i < us.length := by rw [ht.len]; exact hi
  have hv : us[i]? = some us[i] := List.getElem?_eq_getElem hvi
  have hdrop : T.drop i = T[i] :: T.drop (i+1) := List.drop_eq_getElem_cons hi
  have hml : matchL L (T.drop i) = (hasL L T[i] && matchL L (T.drop (i+1))) := by rw [hdrop]; rfl
  obtain ⟨b, off, g1, g2⟩ := ht'.ar.idx2 (e := 48) (eb := 32) (z := some [.int .i64 0, .nils]) (k := .i64) hi
  have g1' : indexAddrA (E0.tk 24) t (.int .i64 (.ofNat i)) = some (.ptr b off) := by rw [tkE24]; exact g1
  have x0 := g2 (ti := ⟨2, true, some [.int .i64 0, .nils], 2, .struct [(0, 1, false), (1, 1, false)]⟩) rfl rfl
  rw [attCells_at T us i T[i] us[i] ht.len ha hv] at x0
  have hb1 := hbound i (by omega)
  have hxlt : hx.next < HM := by omega
  obtain ⟨h1, e1⟩ : ∃ h1, h1 = hx.alc (.cells [.int .i64 0, .nils] 2 true) := ⟨_, rfl⟩
  have e1g : ∀ {r : Operand → AV} {q : Oper} {call : Caller}, q.op = .alloc 48 → opA E0 call r q hx = some (.ptr hx.next 0, h1) := fun {r q call} hq => by
    have := op_alloc (E := E0) (call := call) (r := r) (h := hx) hq ti48 rfl hxlt
    rw [this, e1]
  have n1 : h1.next = hx.next + 1 := by rw [e1]; rfl
  obtain ⟨h2, e2⟩ : ∃ h2, h2 = h1.put hx.next (.cells [.int .i64 T[i].1, us[i]] 2 true) := ⟨_, rfl⟩
  have n2 : h2.next = hx.next + 1 := by rw [e2, next_put, n1]
  have e2g : storeA h1 ⟨2, true, some [.int .i64 0, .nils], 2, .struct [(0, 1, false), (1, 1, false)]⟩ (.ptr hx.next 0) (.agg [.int .i64 T[i].1, us[i]]) = some h2 := by
    have hg : h1.get hx.next = some (.cells [.int .i64 0, .nils] 2 true) := by rw [e1, get_alc hxlt, if_pos rfl]
    rw [e2]
    exact storeA_two rfl hg
  have g2c : h2.get hx.next = some (.cells [.int .i64 T[i].1, us[i]] 2 true) := by rw [e2, H.get_put hxlt, if_pos rfl]
  have g2o : ∀ b, b < hx.next → h2.get b = hx.get b := fun b hb => by rw [e2, H.get_put hxlt, if_neg (by omega), e1, get_alc hxlt, if_neg (by omega)]
  have ho2 : Ats h2 o w wv L vs := ho'.frame g2o (by omega)
  obtain ⟨g, h3, r1, r2, r3, r4, r5⟩ := get_eq (fuel := fuel) (n := n) (t := T[i].1) ho2 hf hL hb (by omega)
  have g3c : h3.get hx.next = some (.cells [.int .i64 T[i].1, us[i]] 2 true) := (r5 _ (by omega)).trans g2c
  have hmul : (i + 1) * (L.length + 3) = i * (L.length + 3) + (L.length + 3) := Nat.succ_mul _ _
  have fr3 : ∀ b, b < h.next → h3.get b = h.get b := fun b hb' => by rw [r5 b (by omega), g2o b (by omega)]; exact hfr b hb'
  have hus : Ar h3 us[i] wv2 1 T[i].2.length (T[i].2.map byteV) := (ht.frame fr3 (by omega)).val i _ _ ha hv
  obtain ⟨x, ok, e4, hno, hyes⟩ := got3_split r2
  rw [e4] at r1
  refine sC_seq (sC_block (sC_seq (sC_region ?_)))
  refine sO_op hle rfl rfl rfl (op_indexAddr rfl g1') (sO_op hle rfl rfl rfl (op_load rfl ti48 x0) (sO_op hle rfl rfl rfl (e1g rfl) (sO_op hle rfl rfl rfl (op_store rfl ti48 e2g) (sO_nil (sQ_seq ?_)))))
  refine sC_seq (sC_region ?_)
  refine sO_op hle rfl rfl rfl rfl (sO_op hle rfl rfl rfl (op_fieldAddr rfl attF0) (sO_op hle rfl rfl rfl (op_load rfl ti3 (loadA_cell rfl g2c rfl)) (sO_op hle rfl rfl rfl (op_call (f := 25) (cap := []) rfl rfl rfl r1) ?_)))
  refine sO_op hle rfl rfl rfl rfl (sO_op hle rfl rfl rfl (v := x) rfl (sO_op hle rfl rfl rfl (v := .bool ok) rfl (sO_op hle rfl rfl rfl rfl (sO_op hle rfl rfl rfl rfl (sO_nil (sQ_seq ?_))))))
  refine sC_seq (sC_cut (s' := [(30, .bool (!hasL L T[i])), (11, .int .i64 (.ofNat i)), (10, .int .i64 (.ofNat T.length)), (9, t), (0, o)]) (h' := h3) ?_ (sQ_seq ?_))
  · refine sC_region (sO_op hle rfl rfl rfl (v := .bool ok) rfl (sO_op hle rfl rfl rfl (v := .bool !ok) rfl (sO_op hle rfl rfl rfl (v := .bool !ok) rfl ?_)))
    cases ok with
    | false =>
      refine sO_skip hle rfl rfl rfl rfl rfl rfl (sO_skip hle rfl rfl rfl rfl rfl rfl (sO_skip hle rfl rfl rfl rfl rfl rfl (sO_skip hle rfl rfl rfl rfl rfl rfl (sO_skip hle rfl rfl rfl rfl rfl rfl ?_))))
      refine sO_op hle rfl rfl rfl (v := .bool true) rfl (sO_nil (sQ_cut ⟨?_, rfl, rfl, rfl, rfl, trivial⟩))
      rw [hno rfl]; rfl
    | true =>
      obtain ⟨bs, hbs, hhas⟩ := hyes rfl
      obtain ⟨_, _, q1, q2, q3⟩ := equal_eq (fuel := fuel) (n := n+1) hbs hus
      rw [q2, q3] at q1
      refine sO_do hle rfl rfl rfl rfl rfl rfl (v := x) rfl (sO_do hle rfl rfl rfl rfl rfl rfl (op_fieldAddr rfl attF1) (sO_do hle rfl rfl rfl rfl rfl rfl (op_load rfl ti46 (loadA_cell rfl g3c rfl)) ?_))
      refine sO_do hle rfl rfl rfl rfl rfl rfl (op_call (f := 26) (cap := []) rfl rfl rfl q1) (sO_do hle rfl rfl rfl rfl rfl rfl (v := .bool (!decide (bs = T[i].2))) rfl (sO_op hle rfl rfl rfl (v := .bool (!decide (bs = T[i].2))) rfl (sO_nil (sQ_cut ⟨?_, rfl, rfl, rfl, rfl, trivial⟩))))
      rw [hhas]; rfl
  cases hh : hasL L T[i] with
  | false =>
    refine sC_true rfl rfl ?_
    refine sC_seq (sC_region (sO_op hle rfl rfl rfl rfl (sO_nil (sQ_seq (sC_ret ?_)))))
    have hm2 : (i + 1) * (L.length + 3) ≤ T.length * (L.length + 3) := Nat.mul_le_mul_right _ hi
    refine sQ_end (R := fun v' h' => v' = .bool (matchL L T) ∧ h.next ≤ h'.next ∧ h'.next ≤ h.next + T.length * (L.length + 3) ∧ ∀ b, b < h.next → h'.get b = h.get b) (.inr rfl) rfl ⟨?_, by omega, by omega, fr3⟩
    rw [hfi, hml, hh]; rfl
  | true =>
    refine sC_false rfl rfl (sC_skip (sQ_seq ?_))
    refine sC_region (sO_op hle rfl rfl rfl (inc_eq (i := i) (by omega) rfl rfl rfl) (sO_op hle rfl rfl rfl rfl (sO_nil ?_)))
    intro tm k1 k2
    exact ⟨k - 1, [(11, .int .i64 (.ofNat (i+1))), (10, .int .i64 (.ofNat T.length)), (9, t), (0, o)], by omega, ⟨i+1, by omega, rfl, by rw [hfi, hml, hh]; rfl, by omega, by omega, fr3⟩, k1, k2.sub ⟨rfl, rfl, rfl, rfl, trivial⟩⟩
end Go.Proofs.Ytgafbagehjmipaa

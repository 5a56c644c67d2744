/- find: the law's Cut of a list of attributes, told by the evaluator. -/
import Derived.Test.YtgafbagehjmipaaGf
namespace Go.Proofs.Ytgafbagehjmipaa
open Bly

theorem fn7 : E0.func 7 = some Try.f7 := by kernel_rfl
abbrev tiI : TI := ⟨1, false, some [.int .i64 0], 1, .int .i64⟩
abbrev tiB : TI := ⟨1, false, some [.nils], 1, .slice 5 1 1 (some [.int .u8 0])⟩
abbrev tiA : TI := ⟨2, true, some [.int .i64 0, .nils], 2, .struct [(0, 1, false), (1, 1, false)]⟩
/-- The heap below h.next is as it was. -/
def Kept (h h' : H) : Prop := h.next ≤ h'.next ∧ ∀ b, b < h.next → h'.get b = h.get b
theorem Kept.refl (h : H) : Kept h h := ⟨Nat.le_refl _, fun _ _ => rfl⟩
theorem Kept.trans {a b c : H} (h1 : Kept a b) (h2 : Kept b c) : Kept a c := ⟨Nat.le_trans h1.1 h2.1, fun x hx => (h2.2 x (by have := h1.1; omega)).trans (h1.2 x hx)⟩
theorem Ats.keep {h h' : H} {o : AV} {w wv : Bool} {L : List Att} {vs : List AV} (hs : Ats h o w wv L vs) (hk : Kept h h') : Ats h' o w wv L vs := hs.frame hk.2 hk.1
theorem _root_.Bly.Ar.keep {h h' : H} {v : AV} {w : Bool} {esz n : Nat} {cs : List AV} (hs : Ar h v w esz n cs) (hk : Kept h h') : Ar h' v w esz n cs := hs.frame (fun b hb => hk.2 b (hs.blk_lt hb)) hk.1
theorem Kept.alc {h : H} {o : AObj} (hlt : h.next < HM) : Kept h (h.alc o) := ⟨by rw [next_alc]; omega, fun b hb => by rw [get_alc hlt, if_neg (by omega)]⟩
/-- The same of the first 'm' attributes' values alone. -/
structure AtsM (m : Nat) (h : H) (o : AV) (w wv : Bool) (L : List Att) (vs : List AV) : Prop where
  len : vs.length = L.length
  ar : Ar h o w 2 L.length (attCells L vs)
  val : ∀ (i : Nat) (a : Att) (v : AV), i < m → L[i]? = some a → vs[i]? = some v → Ar h v wv 1 a.2.length (a.2.map byteV)
theorem AtsM.keep {m : Nat} {h h' : H} {o : AV} {w wv : Bool} {L : List Att} {vs : List AV} (hs : AtsM m h o w wv L vs) (hk : Kept h h') : AtsM m h' o w wv L vs :=
  ⟨hs.len, hs.ar.keep hk, fun i a v h0 h1 h2 => (hs.val i a v h0 h1 h2).keep hk⟩
/-- Where an attribute lies, at any heap that is as it was. -/
theorem AtsM.at {m : Nat} {h : H} {o : AV} {w wv : Bool} {L : List Att} {vs : List AV} (ho : AtsM m h o w wv L vs) {i : Nat} {a : Att} {v : AV} (ha : L[i]? = some a) (hv : vs[i]? = some v) :
    ∃ b off, indexAddrA (E0.tk 24) o (.int .i64 (.ofNat i)) = some (.ptr b off) ∧ ∀ h', Kept h h' → loadA h' tiI (.ptr b (off + 0)) = some (.int .i64 a.1) ∧ loadA h' tiB (.ptr b (off + 1)) = some v := by
  have hi : i < L.length := (List.getElem?_eq_some_iff.1 ha).1
  obtain ⟨b, off, g1, _⟩ := ho.ar.idx (e := 48) (eb := 32) (z := some [.int .i64 0, .nils]) (k := .i64) hi
  refine ⟨b, off, by rw [tkE24]; exact g1, fun h' hk => ?_⟩
  have ho' := ho.keep hk
  obtain ⟨b', off', g1', g2⟩ := ho'.ar.idx (e := 48) (eb := 32) (z := some [.int .i64 0, .nils]) (k := .i64) hi
  rw [g1] at g1'
  cases g1'
  exact ⟨g2 0 (by decide) rfl (attCells_typ L vs i a ho'.len ha), g2 1 (by decide) rfl (attCells_val L vs i v ho'.len hv)⟩
theorem attCells_snoc (a : Att) (v : AV) : ∀ (L : List Att) (vs : List AV), vs.length = L.length → attCells (L ++ [a]) (vs ++ [v]) = attCells L vs ++ [.int .i64 a.1, v]
  | [], [], _ => rfl
  | [], _ :: _, h => by simp at h
  | _ :: _, [], h => by simp at h
  | b :: L, u :: vs, h => by
    show AV.int .i64 b.1 :: u :: attCells (L ++ [a]) (vs ++ [v]) = _
    rw [attCells_snoc a v L vs (by simpa using h)]; rfl
theorem buildA_att {x v : AV} (hx : cellsV x = some [x]) (hv : cellsV v = some [v]) : buildA tiA [(0, x), (1, v)] = some (.agg [x, v]) := by
  simp only [buildA, fillA, fieldPlaceA, nth, hx, hv]
  rfl
def cutA (k : Nat) (a : Att) : Att := (a.1, a.2.take k)
def cutL (n k : Nat) (L : List Att) : List Att := (L.take n).map (cutA k)
/-- What Cut's loop has behind i rounds. -/
structure CutI (h : H) (k : Nat) (L : List Att) (i : Nat) (l : AV) (us : List AV) (hx : H) : Prop where
  kept : Kept h hx
  ats : Ats hx l true true ((L.take i).map (cutA k)) us
  new : ∀ b, blk l = some b → h.next ≤ b
  sep : ∀ u ∈ us, ∀ b, blk u = some b → h.next ≤ b ∧ blk l ≠ some b
  hi : hx.next ≤ h.next + 3 * i
/-- One attribute more. -/
theorem CutI.step {h hx : H} {fuel n k i : Nat} {L : List Att} {l : AV} {us : List AV} {a : Att} {v : AV} {w : Bool} (hI : CutI h k L i l us hx) (ha : L[i]? = some a) (hv : Ar h v w 1 a.2.length (a.2.map byteV)) (hlt : h.next + 3 * i + 10 ≤ HM) (hi : i ≤ 1000) (hk : k ≤ 1000) :
    ∃ v1 v2 h1 v3 h3, callA E0 O6 fuel (n+1) (.fn 18 []) [v, .int .i64 (.ofNat k)] hx = some (v1, hx) ∧ appendA (E0.tk 46) (E0.tk 46) .nils v1 hx = some (v2, h1) ∧ (cellsV v2 = some [v2] ∧ avEq v2 v2 = true) ∧ h1.next < HM ∧
      appendA (E0.tk 24) (E0.tk 24) l (.slice h1.next 0 1 2) (h1.alc (.cells [.int .i64 a.1, v2] (1 * 2) true)) = some (v3, h3) ∧ Kept h h1 ∧ Kept h (h1.alc (.cells [.int .i64 a.1, v2] (1 * 2) true)) ∧ CutI h k L (i+1) v3 (us ++ [v2]) h3 := by
  obtain ⟨hkept, hats, hnew, hsep, hhi⟩ := hI
  have hil : i < L.length := (List.getElem?_eq_some_iff.1 ha).1
  have hge : L[i] = a := (List.getElem?_eq_some_iff.1 ha).2
  have hvx : Ar hx v w 1 a.2.length (a.2.map byteV) := hv.keep hkept
  have ht : (L.take (i+1)).map (cutA k) = (L.take i).map (cutA k) ++ [cutA k a] := by
    rw [List.take_succ_eq_append_getElem hil, List.map_append, hge]; rfl
  have htl : ((L.take i).map (cutA k)).length = i := by simp; omega
  obtain ⟨v1, _, p1, p2, p3⟩ := short_eq (fuel := fuel) (n := n) (k := k) hvx
  rw [p3] at p1
  clear p3
  have hml : min a.2.length k = (a.2.take k).length := by simp [Nat.min_comm]
  rw [hml, ← List.map_take] at p2
  have hxlt : hx.next < HM := by omega
  obtain ⟨v2, h1, q1, q2, q3, q4, q5, q6⟩ := (Ar.nil (h := hx) (w := true) (esz := 1)).append (e := 5) (eb := 1) (zs := [.int .u8 0]) p2 hxlt (by simp; omega) (by decide) (by decide) rfl
  rw [List.nil_append, Nat.zero_add] at q2
  have k1 : Kept hx h1 := ⟨q3, fun b hb => q5 b hb (by simp [blk])⟩
  have h1lt : h1.next < HM := by omega
  have k2 : Kept h1 (h1.alc (.cells [.int .i64 a.1, v2] (1 * 2) true)) := Kept.alc h1lt
  obtain ⟨h2, e2⟩ : ∃ h2, h2 = h1.alc (.cells [.int .i64 a.1, v2] (1 * 2) true) := ⟨_, rfl⟩
  rw [← e2] at k2
  have n2 : h2.next = h1.next + 1 := by rw [e2]; rfl
  have hx2 : Ar h2 (.slice h1.next 0 1 2) true 2 1 [.int .i64 a.1, v2] := .inr ⟨h1.next, ⟨0, [.int .i64 a.1, v2], 2, rfl, by rw [e2, get_alc h1lt, if_pos rfl], by simp, rfl, rfl⟩, by omega⟩
  have hl2 : Ar h2 l true 2 ((L.take i).map (cutA k)).length (attCells ((L.take i).map (cutA k)) us) := hats.ar.keep (k1.trans k2)
  obtain ⟨v3, h3, r1, r2, r3, r4, r5, r6⟩ := hl2.append (e := 48) (eb := 32) (zs := [.int .i64 0, .nils]) hx2 (by omega) (by rw [htl]; omega) (by decide) (by decide) rfl
  have hlb : ∀ b, blk l = some b → b < hx.next := fun b hb => hats.ar.blk_lt hb
  have hv2b : ∀ b, blk v2 = some b → b = hx.next := fun b hb => by
    rcases q6 with e | e
    · rw [e] at hb; cases hb
    · rw [e] at hb; cases hb; rfl
  have fr3 : ∀ b, b < hx.next → blk l ≠ some b → h3.get b = hx.get b := fun b hb hne => by rw [r5 b (by omega) hne, k2.2 b (by omega), k1.2 b hb]
  refine ⟨v1, v2, h1, v3, h3, p1, by rw [tkE46]; exact q1, ⟨q2.cellsV, q2.avEq⟩, h1lt, by rw [tkE24, ← e2]; exact r1, hkept.trans k1, by rw [← e2]; exact (hkept.trans k1).trans k2, ⟨?_, ⟨by simp [hats.len]; omega, ?_, ?_⟩, ?_, ?_, by omega⟩⟩
  · exact ⟨by have := hkept.1; omega, fun b hb => by rw [fr3 b (by have := hkept.1; omega) (fun e => by have := hnew b e; omega)]; exact hkept.2 b hb⟩
  · rw [ht, attCells_snoc _ _ _ _ hats.len, List.length_append]
    exact r2
  · intro j b u hb hu
    rw [ht] at hb
    by_cases hj : j < us.length
    · rw [List.getElem?_append_left hj] at hu
      rw [List.getElem?_append_left (by rw [← hats.len]; exact hj)] at hb
      have hold := hats.val j b u hb hu
      exact hold.frame (fun c hc => fr3 c (hold.blk_lt hc) (hsep u (List.mem_of_getElem? hu) c hc).2) (by omega)
    · have hlen := hats.len
      have hju : j = us.length := by
        have := (List.getElem?_eq_some_iff.1 hu).1
        simp at this; omega
      subst hju
      rw [List.getElem?_append_right (Nat.le_refl _), Nat.sub_self] at hu
      rw [List.getElem?_append_right (by omega), hlen, Nat.sub_self] at hb
      cases hu; cases hb
      have q2' : Ar h2 v2 true 1 (a.2.take k).length ((a.2.take k).map byteV) := q2.keep k2
      exact q2'.frame (fun c hc => r5 c (by have := hv2b c hc; have := q2.blk_lt hc; omega) (fun e => by have := hv2b c hc; have := hlb c e; omega)) (by omega)
  · intro b hb
    rcases r6 with e | e
    · rw [e] at hb; exact hnew b hb
    · rw [e] at hb; cases hb; have := hkept.1; omega
  · intro u hu b hb
    have hub : h.next ≤ b ∧ blk l ≠ some b ∧ b < h2.next := by
      rcases List.mem_append.1 hu with hu | hu
      · obtain ⟨g1, g2⟩ := hsep u hu b hb
        obtain ⟨j, hj⟩ := List.getElem?_of_mem hu
        have hj' : j < ((L.take i).map (cutA k)).length := by rw [← hats.len]; exact (List.getElem?_eq_some_iff.1 hj).1
        have := (hats.val j _ u (List.getElem?_eq_getElem hj') hj).blk_lt hb
        exact ⟨g1, g2, by omega⟩
      · simp at hu
        subst hu
        have := hv2b b hb
        have := q2.blk_lt hb
        have := hkept.1
        exact ⟨by omega, fun e => by have := hlb b e; omega, by omega⟩
    refine ⟨hub.1, ?_⟩
    rcases r6 with e | e
    · rw [e]; exact hub.2.1
    · rw [e]; intro c; cases c; omega
theorem cut_eq {fuel n : Nat} {h : H} {o : AV} {w wv : Bool} {L : List Att} {vs : List AV} {m k : Nat} (ho : AtsM m h o w wv L vs) (hf : m < fuel) (hm : m ≤ 100) (hk : k ≤ 1000) (hlt : h.next + 400 ≤ HM) :
    ∃ v' h', callA E0 O6 fuel (n+2) (.fn 7 []) [o, .int .i64 (.ofNat m), .int .i64 (.ofNat k)] h = some (v', h') ∧ ∃ us, CutI h k L (min L.length m) v' us h' := by
  refine s_callO rfl fn7 rfl rfl rfl ?_
  have hle : Try.f7.ntmps ≤ 512 := by decide
  refine sC_seq (sC_region (sO_op hle rfl rfl rfl rfl (sO_nil (sQ_seq ?_))))
  refine sC_seq (sC_region (sO_op hle rfl rfl rfl rfl (sO_nil (sQ_seq ?_))))
  refine sC_seq (sC_seq (sC_region (sO_op hle rfl rfl rfl rfl (sO_nil (sQ_seq ?_)))))
  refine sC_block (sC_sub (s' := [(8, .int .i64 (.ofNat 0)), (7, .nils), (0, o), (1, .int .i64 (.ofNat m)), (2, .int .i64 (.ofNat k))]) ⟨rfl, rfl, rfl, rfl, rfl, trivial⟩ ?_)
  have hI0 : CutI h k L 0 .nils [] h := ⟨Kept.refl h, ⟨rfl, Ar.nil, fun i a v h1 h2 => by simp at h1⟩, fun b hb => (by cases hb), fun u hu => (by cases hu), by omega⟩
  refine sC_loop (fun q s hx => ∃ (i : Nat) (l : AV) (us : List AV), q + i = min L.length m ∧ s = [(8, .int .i64 (.ofNat i)), (7, l), (0, o), (1, .int .i64 (.ofNat m)), (2, .int .i64 (.ofNat k))] ∧ CutI h k L i l us hx) (min L.length m) (by omega) ⟨0, .nils, [], by omega, rfl, hI0⟩ ?_
  clear hI0
  rintro q s hx ⟨i, l, us, hki, rfl, hI⟩
  have hox : AtsM m hx o w wv L vs := ho.keep hI.kept
  refine sC_seq (sC_seq (sC_cut (s' := [(17, .bool (decide (i < min L.length m))), (8, .int .i64 (.ofNat i)), (7, l), (0, o), (1, .int .i64 (.ofNat m)), (2, .int .i64 (.ofNat k))]) (h' := hx) ?_ (sQ_seq ?_)))
  · refine sC_region (sO_op hle rfl rfl rfl rfl (sO_op hle rfl rfl rfl rfl (sO_op hle rfl rfl rfl (op_len rfl rfl rfl rfl tkE24 hox.ar.len) ?_)))
    by_cases hi : i < L.length
    · refine sO_op hle rfl rfl rfl (lt_eq (a := i) (b := L.length) (c := true) (by simpa using hi) rfl rfl rfl) (sO_op hle rfl rfl rfl rfl (sO_do hle rfl rfl rfl rfl rfl rfl rfl (sO_do hle rfl rfl rfl rfl rfl rfl rfl ?_)))
      refine sO_do hle rfl rfl rfl rfl rfl rfl (lt_eq (a := i) (b := m) (c := decide (i < m)) rfl rfl rfl rfl) (sO_op hle rfl rfl rfl (v := .bool (decide (i < m))) rfl (sO_nil (sQ_cut ⟨?_, rfl, rfl, rfl, rfl, rfl, trivial⟩)))
      show some (AV.bool _) = some (AV.bool _)
      congr 2
      have : (i < min L.length m) ↔ i < m := by omega
      simp only [this]
    · refine sO_op hle rfl rfl rfl (lt_eq (a := i) (b := L.length) (c := false) (by simpa using hi) rfl rfl rfl) (sO_op hle rfl rfl rfl rfl (sO_skip hle rfl rfl rfl rfl rfl rfl (sO_skip hle rfl rfl rfl rfl rfl rfl (sO_skip hle rfl rfl rfl rfl rfl rfl (sO_op hle rfl rfl rfl (v := .bool false) rfl (sO_nil (sQ_cut ⟨?_, rfl, rfl, rfl, rfl, rfl, trivial⟩)))))))
      show some (AV.bool _) = some (AV.bool _)
      rw [decide_eq_false (show ¬ i < min L.length m by omega)]
  by_cases hi : i < min L.length m
  case neg =>
    rw [decide_eq_false hi]
    refine sC_false rfl rfl (sC_exit (sQ_seq ?_))
    have hie : i = min L.length m := by omega
    refine sC_seq (sC_region (sO_op hle rfl rfl rfl rfl (sO_op hle rfl rfl rfl rfl (sO_nil (sQ_seq (sC_ret ?_))))))
    exact sQ_end (R := fun v' h' => ∃ us, CutI h k L (min L.length m) v' us h') (.inr rfl) rfl ⟨us, by rw [← hie]; exact hI⟩
  rw [decide_eq_true hi]
  refine sC_true rfl rfl (sC_skip (sQ_seq ?_))
  have hil : i < L.length := by omega
  have ha : L[i]? = some L[i] := List.getElem?_eq_getElem hil
  have hvi : i < vs.length := by rw [ho.len]; exact hil
  have hv : vs[i]? = some vs[i] := List.getElem?_eq_getElem hvi
  obtain ⟨b, off, g1, g2⟩ := ho.at ha hv
  have hva := ho.val i _ _ (by omega) ha hv
  obtain ⟨v1, v2, h1, v3, h3, p1, p2, ⟨p3, p3e⟩, p4, p5, p6, p7, p8⟩ := hI.step (fuel := fuel) (n := n) ha hva (by omega) (by omega) hk
  refine sC_seq (sC_block ?_)
  refine sC_drawA false (Kept h) hle (by kernel_rfl) (by kernel_rfl) (by kernel_rfl) ?_
  refine sS_pure hI.kept rfl (gotG_none rfl) rfl rfl (v := l) rfl hI.ats.ar.avEq (sS_pure hI.kept rfl (gotG_none rfl) rfl rfl (v := o) rfl ho.ar.avEq (sS_pure hI.kept rfl (gotG_none rfl) rfl rfl (v := .int .i64 (.ofNat i)) rfl avEq_int ?_))
  refine sS_pure hI.kept rfl (gotG_none rfl) rfl rfl (h1 := hx) (op_indexAddr rfl g1) avEq_ptr (sS_pure hI.kept rfl (gotG_none rfl) rfl rfl (h1 := hx) (op_fieldAddr rfl attF0) avEq_ptr (sS_quiet hI.kept rfl (gotG_none rfl) rfl rfl avEq_int (fun h' hh => op_load rfl ti3 (g2 h' hh).1) ?_))
  refine sS_pure hI.kept rfl (gotG_none rfl) rfl rfl (v := o) rfl ho.ar.avEq (sS_pure hI.kept rfl (gotG_none rfl) rfl rfl (v := .int .i64 (.ofNat i)) rfl avEq_int ?_)
  refine sS_pure hI.kept rfl (gotG_none rfl) rfl rfl (h1 := hx) (op_indexAddr rfl g1) avEq_ptr (sS_pure hI.kept rfl (gotG_none rfl) rfl rfl (h1 := hx) (op_fieldAddr rfl attF1) avEq_ptr (sS_quiet hI.kept rfl (gotG_none rfl) rfl rfl hva.avEq (fun h' hh => op_load rfl ti46 (g2 h' hh).2) ?_))
  refine sS_pure hI.kept rfl (gotG_none rfl) rfl rfl (v := .int .i64 (.ofNat k)) rfl avEq_int ?_
  refine sS_loud hI.kept rfl (gotG_none rfl) rfl rfl (op_call (f := 18) (cap := []) rfl rfl rfl p1) ?_
  refine sS_loud hI.kept rfl (gotG_none rfl) rfl rfl (op_append rfl rfl rfl rfl p2) ?_
  refine sS_pure p6 rfl (gotG_none rfl) rfl rfl (h1 := h1) (op_build (v := .agg [.int .i64 L[i].1, v2]) rfl ti48 (buildA_att rfl p3)) ?_ ?_
  · simp only [avEq, avsEq, ieq_eq, p3e]; simp
  refine sS_loud p6 rfl (gotG_none rfl) rfl rfl (op_buildSlice (cs := [.int .i64 L[i].1, v2]) rfl tkE24 rfl rfl rfl rfl p4) ?_
  refine sS_loud p7 rfl (gotG_none rfl) rfl rfl (op_append rfl rfl rfl rfl p5) ?_
  refine sS_pure p8.kept rfl (gotG_none rfl) rfl rfl (v := v3) rfl p8.ats.ar.avEq (sS_nil ⟨p8.kept, sQ_seq ?_⟩)
  refine sC_region (sO_op hle rfl rfl rfl rfl (sO_op hle rfl rfl rfl (inc_eq (i := i) (by omega) rfl rfl rfl) (sO_op hle rfl rfl rfl rfl (sO_nil ?_))))
  intro tm k1 k2
  exact ⟨q - 1, _, by omega, ⟨i+1, v3, us ++ [v2], by omega, rfl, p8⟩, k1, k2.sub ⟨rfl, rfl, rfl, rfl, rfl, trivial⟩⟩
end Go.Proofs.Ytgafbagehjmipaa

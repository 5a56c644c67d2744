/- find: FindAll's whole run, told by the evaluator. -/
import Derived.Test.YtgafbagehjmipaaGm
namespace Go.Proofs.Ytgafbagehjmipaa
open Bly

theorem fn6 : O6 6 [] = fun h => some (some (.bool true, h)) := rfl
theorem begun_call {fuel n : Nat} {h : H} : callA E0 O6 fuel (n+1) (.fn 6 []) [] h = some (.bool true, h) := rfl
theorem small_cut {L : List (List Att)} : ∀ M ∈ (L.take 20).map (cutL 10 20), M.length ≤ 10 ∧ ∀ a ∈ M, a.2.length ≤ 100000 := by
  intro M hM
  obtain ⟨N, _, rfl⟩ := List.mem_map.1 hM
  refine ⟨by simp [cutL]; omega, fun a ha => ?_⟩
  obtain ⟨c, _, rfl⟩ := List.mem_map.1 ha
  simp [cutA]; omega
theorem and_lt {i a b : Nat} : (decide (i < a) && decide (i < b)) = decide (i < min a b) := by
  by_cases h1 : i < a <;> by_cases h2 : i < b
  · rw [decide_eq_true h1, decide_eq_true h2, decide_eq_true (by omega)]; rfl
  · rw [decide_eq_true h1, decide_eq_false h2, decide_eq_false (by omega)]; rfl
  · rw [decide_eq_false h1, decide_eq_false (show ¬ i < min a b by omega)]; rfl
  · rw [decide_eq_false h1, decide_eq_false (show ¬ i < min a b by omega)]; rfl

set_option maxHeartbeats 4000000 in
theorem findAll_eq {h : H} {a0 a1 a2 : AV} {hs0 : List Int} {OL : List (List Att)} {os : List AV} {T0 : List Att} {us0 : List AV} {user : Bool} {most : Int} (hsl : Sl h a0 false hs0) (hos : OssM h a1 OL os) (hts : AtsM 3 h a2 false false T0 us0) (hN : h.next ≤ 1000) :
    ∃ v' h', callA E0 O6 10000 21 (.fn 3 []) [a0, a1, a2, .bool user, .int .i64 most] h = some (v', h') ∧ v' = .bool true := by
  refine s_callO (n := 20) rfl fn3 rfl rfl rfl ?_
  have hle : Try.f3.ntmps ≤ 512 := by decide
  have hHM : (100000 : Nat) ≤ HM := by decide
  obtain ⟨N, eN⟩ : ∃ N, N = h.next := ⟨_, rfl⟩
  -- the first cells
  obtain ⟨h1, e1⟩ : ∃ h1, h1 = h.alc (.cells [.int .i64 most] 1 true) := ⟨_, rfl⟩
  have l0 : h.next < HM := by omega
  have n1 : h1.next = N + 1 := by rw [e1, next_alc, eN]
  have k1 : Kept h h1 := by rw [e1]; exact Kept.alc l0
  obtain ⟨h2, e2⟩ : ∃ h2, h2 = h1.alc (.cells [.bool false] 1 true) := ⟨_, rfl⟩
  have l1 : h1.next < HM := by omega
  have n2 : h2.next = N + 2 := by rw [e2, next_alc, n1]
  have k2 : Kept h1 h2 := by rw [e2]; exact Kept.alc l1
  obtain ⟨h3, e3⟩ : ∃ h3, h3 = h2.alc (.cells [.bool false] 1 true) := ⟨_, rfl⟩
  have l2 : h2.next < HM := by omega
  have n3 : h3.next = N + 3 := by rw [e3, next_alc, n2]
  have k3 : Kept h2 h3 := by rw [e3]; exact Kept.alc l2
  have c3 : h3.get (N+2) = some (.cells [.bool false] 1 true) := by rw [e3, get_alc l2, if_pos n2.symm]
  obtain ⟨h4, e4⟩ : ∃ h4, h4 = h3.put (N+2) (.cells [.bool true] 1 true) := ⟨_, rfl⟩
  have l3 : N + 2 < HM := by omega
  have g4 : ∀ b, b ≠ N + 2 → h4.get b = h3.get b := fun b hb => by rw [e4, gpn l3 hb]
  have n4 : h4.next = N + 3 := by rw [e4]; exact n3
  have k4 : Kept h h4 := ⟨by omega, fun b hb => by rw [g4 b (by omega), k3.2 b (by omega), k2.2 b (by omega), k1.2 b hb]⟩
  have cM4 : h4.get N = some (.cells [.int .i64 most] 1 true) := by rw [g4 _ (by omega), k3.2 _ (by omega), k2.2 _ (by omega), e1, get_alc l0, if_pos eN]
  have cR4 : h4.get (N+1) = some (.cells [.bool false] 1 true) := by rw [g4 _ (by omega), k3.2 _ (by omega), e2, get_alc l1, if_pos n1.symm]
  have cI4 : h4.get (N+2) = some (.cells [.bool true] 1 true) := by rw [e4, gpe l3]
  have b1 : ∀ {r : Operand → AV} {q : Oper} {x : Operand} {t : Nat} {call : Caller}, q.op = .box t x → r x = .int .i64 most → opA E0 call r q h = some (.ptr N 0, h1) := fun {r q x t call} hq hx => by
    have := op_box (E := E0) (call := call) (r := r) (h := h) (cs := [.int .i64 most]) hq (by rw [hx]; rfl) l0
    rw [this, e1, eN]; rfl
  have b2 : ∀ {r : Operand → AV} {q : Oper} {call : Caller}, q.op = .alloc 4 → opA E0 call r q h1 = some (.ptr (N+1) 0, h2) := fun {r q call} hq => by
    have := op_alloc (E := E0) (call := call) (r := r) (h := h1) hq ti4 rfl l1
    rw [this, e2, n1]
  have b3 : ∀ {r : Operand → AV} {q : Oper} {call : Caller}, q.op = .alloc 4 → opA E0 call r q h2 = some (.ptr (N+2) 0, h3) := fun {r q call} hq => by
    have := op_alloc (E := E0) (call := call) (r := r) (h := h2) hq ti4 rfl l2
    rw [this, e3, n2]
  have s3 : storeA h3 ⟨1, false, some [.bool false], 1, .bool⟩ (.ptr (N+2) 0) (.bool true) = some h4 := by rw [e4]; exact store1 rfl rfl c3
  refine sC_seq (sC_region (sO_op hle rfl rfl rfl (b1 rfl rfl) (sO_op hle rfl rfl rfl (b2 rfl) (sO_nil (sQ_seq ?_)))))
  refine sC_seq (sC_region (sO_op hle rfl rfl rfl (op_call (f := 6) (cap := []) rfl rfl rfl begun_call) (sO_op hle rfl rfl rfl (b3 rfl) (sO_op hle rfl rfl rfl (op_store rfl ti4 s3) (sO_nil (sQ_seq ?_))))))
  have hs4 : Sl h4 a0 false hs0 := hsl.frame (fun b hb => k4.2 b (hsl.blk_lt hb)) k4.1
  -- hs is cut
  obtain ⟨v0, hv0, hvb, hcut⟩ : ∃ v0, Sl h4 v0 false (hs0.take 20) ∧ blk v0 = blk a0 ∧ ((20 < hs0.length ∧ sliceA h4 (slK 3 8) a0 none (some (.int .i64 (.ofNat 20))) none = some v0) ∨ (¬ 20 < hs0.length ∧ v0 = a0)) := by
    by_cases hc : 20 < hs0.length
    · obtain ⟨v1, g1, g2, g3⟩ := hs4.hi (e := 3) (eb := 8) (k := .i64) (n := 20) (by omega)
      exact ⟨v1, g2, g3, .inl ⟨hc, g1⟩⟩
    · exact ⟨a0, by rw [List.take_of_length_le (by omega)]; exact hs4, rfl, .inr ⟨hc, rfl⟩⟩
  refine sC_seq (sC_cut (s' := [(0, v0), (1, a1), (2, a2), (3, .bool user), (9, .ptr N 0), (10, .ptr (N+1) 0), (11, .ptr (N+2) 0)]) (h' := h4) ?_ (sQ_seq ?_))
  · refine sC_seq (sC_region (sO_op hle rfl rfl rfl rfl (sO_op hle rfl rfl rfl (op_len rfl rfl rfl rfl tkE22 hs4.len) ?_)))
    rcases hcut with ⟨hc, hcv⟩ | ⟨hc, hcv⟩
    · refine sO_op hle rfl rfl rfl (op_bin (v := .bool true) rfl (show some (AV.bool (ilt 20 hs0.length)) = _ by rw [ilt_eq, decide_eq_true (by omega)])) (sO_nil (sQ_seq ?_))
      exact sC_true rfl rfl (sC_region (sO_op hle rfl rfl rfl rfl (sO_op hle rfl rfl rfl (op_slice (v := v0) rfl (by rw [tkE22]; exact hcv)) (sO_op hle rfl rfl rfl rfl (sO_nil (sQ_cut ⟨rfl, rfl, rfl, rfl, rfl, rfl, rfl, trivial⟩))))))
    · refine sO_op hle rfl rfl rfl (op_bin (v := .bool false) rfl (show some (AV.bool (ilt 20 hs0.length)) = _ by rw [ilt_eq, decide_eq_false (by omega)])) (sO_nil (sQ_seq ?_))
      rw [hcv]
      exact sC_false rfl rfl (sC_skip (sQ_cut ⟨rfl, rfl, rfl, rfl, rfl, rfl, rfl, trivial⟩))
  -- the lists are cut
  have hos4 := hos.keep k4
  refine sC_seq (sC_region (sO_op hle rfl rfl rfl rfl (sO_nil (sQ_seq ?_))))
  refine sC_seq (sC_seq (sC_region (sO_op hle rfl rfl rfl rfl (sO_nil (sQ_seq ?_)))))
  refine sC_block (sC_sub (s' := [(13, .int .i64 (.ofNat 0)), (12, .nils), (0, v0), (1, a1), (2, a2), (3, .bool user), (9, .ptr N 0), (10, .ptr (N+1) 0), (11, .ptr (N+2) 0)]) ⟨rfl, rfl, rfl, rfl, rfl, rfl, rfl, rfl, rfl, trivial⟩ ?_)
  have hI0 : LI h4 OL 0 .nils [] h4 := ⟨Kept.refl h4, rfl, Ar.nil, fun b hb => (by cases hb), fun j u L h1 h2 => by simp at h1, by omega⟩
  refine sC_loop (fun q s hx => ∃ (i : Nat) (l : AV) (us : List AV), q + i = min OL.length 20 ∧ s = [(13, .int .i64 (.ofNat i)), (12, l), (0, v0), (1, a1), (2, a2), (3, .bool user), (9, .ptr N 0), (10, .ptr (N+1) 0), (11, .ptr (N+2) 0)] ∧ LI h4 OL i l us hx) (min OL.length 20) (by omega) ⟨0, .nils, [], by omega, rfl, hI0⟩ ?_
  clear hI0
  rintro q s hx ⟨i, l, us, hki, rfl, hI⟩
  refine sC_seq (sC_seq (sC_cut (s' := [(35, .bool (decide (i < min OL.length 20))), (13, .int .i64 (.ofNat i)), (12, l), (0, v0), (1, a1), (2, a2), (3, .bool user), (9, .ptr N 0), (10, .ptr (N+1) 0), (11, .ptr (N+2) 0)]) (h' := hx) ?_ (sQ_seq ?_)))
  · refine sC_region (sO_op hle rfl rfl rfl rfl (sO_op hle rfl rfl rfl rfl (sO_op hle rfl rfl rfl (op_len rfl rfl rfl rfl tkE23 (hos4.keep hI.kept).ar.len) ?_)))
    rw [← and_lt]
    by_cases hi : i < OL.length
    · refine sO_op hle rfl rfl rfl (lt_eq (a := i) (b := OL.length) (c := true) (by simpa using hi) rfl rfl rfl) (sO_op hle rfl rfl rfl rfl (sO_do hle rfl rfl rfl rfl rfl rfl rfl ?_))
      refine sO_do hle rfl rfl rfl rfl rfl rfl (lt_eq (a := i) (b := 20) (c := decide (i < 20)) rfl rfl rfl rfl) (sO_op hle rfl rfl rfl (v := .bool (decide (i < 20))) rfl (sO_nil (sQ_cut ⟨?_, rfl, rfl, rfl, rfl, rfl, rfl, rfl, rfl, rfl, trivial⟩)))
      rw [decide_eq_true hi]; rfl
    · refine sO_op hle rfl rfl rfl (lt_eq (a := i) (b := OL.length) (c := false) (by simpa using hi) rfl rfl rfl) (sO_op hle rfl rfl rfl rfl (sO_skip hle rfl rfl rfl rfl rfl rfl (sO_skip hle rfl rfl rfl rfl rfl rfl (sO_op hle rfl rfl rfl (v := .bool false) rfl (sO_nil (sQ_cut ⟨?_, rfl, rfl, rfl, rfl, rfl, rfl, rfl, rfl, rfl, trivial⟩))))))
      rw [decide_eq_false hi]; rfl
  by_cases hi : i < min OL.length 20
  case pos =>
    rw [decide_eq_true hi]
    refine sC_true rfl rfl (sC_skip (sQ_seq ?_))
    obtain ⟨b, off, u0, u, h5, l', h6, p1, p2, p3, p4, p5, p6, p7, p8⟩ := loop1_eq (fuel := 10000) (n := 18) hos4 (by omega) (by omega) hI (show i < OL.length by omega) (by omega)
    have bs : ∀ {r : Operand → AV} {q : Oper} {x : Operand} {call : Caller}, q.op = .buildSlice 23 1 #[(0, x)] → r x = u → opA E0 call r q h5 = some (.slice h5.next 0 1 1, h5.alc (.cells [u] (1 * 1) true)) := fun {r q x call} hq hx => by
      exact op_buildSlice (E := E0) (call := call) (r := r) (h := h5) (cs := [u]) hq tkE23 rfl rfl rfl (by simp only [List.map]; rw [hx]; exact ofCells1 p5) p6
    refine sC_seq (sC_block (sC_region ?_))
    refine sO_op hle rfl rfl rfl rfl (sO_op hle rfl rfl rfl rfl (sO_op hle rfl rfl rfl rfl (sO_op hle rfl rfl rfl (op_indexAddr rfl p2) (sO_op hle rfl rfl rfl (op_load rfl ti24 p3) ?_))))
    refine sO_op hle rfl rfl rfl (op_call (f := 7) (cap := []) rfl rfl rfl p4) (sO_op hle rfl rfl rfl (bs rfl rfl) (sO_op hle rfl rfl rfl (op_append rfl rfl rfl rfl p7) (sO_op hle rfl rfl rfl rfl (sO_nil (sQ_seq ?_)))))
    refine sC_region (sO_op hle rfl rfl rfl rfl (sO_op hle rfl rfl rfl (inc_eq (i := i) (by omega) rfl rfl rfl) (sO_op hle rfl rfl rfl rfl (sO_nil ?_))))
    intro tm m1 m2
    exact ⟨q - 1, _, by omega, ⟨i+1, l', us ++ [u], by omega, rfl, p8⟩, m1, m2.sub ⟨rfl, rfl, rfl, rfl, rfl, rfl, rfl, rfl, rfl, trivial⟩⟩
  rw [decide_eq_false hi]
  refine sC_false rfl rfl (sC_exit (sQ_seq ?_))
  have hie : i = min OL.length 20 := by omega
  have hoss := hI.oss hie
  have hk4x := hI.kept
  have hxn : hx.next ≤ N + 3 + 800 := by
    have := hI.hi
    omega
  have hlnew : ∀ b, blk l = some b → N + 3 ≤ b := fun b hb => by have := hI.new b hb; omega
  clear hI hki hi
  obtain ⟨OL', eOL⟩ : ∃ OL' : List (List Att), OL' = (OL.take 20).map (cutL 10 20) := ⟨_, rfl⟩
  rw [← eOL] at hoss
  have hsmall : ∀ L ∈ OL', L.length ≤ 10 ∧ ∀ a ∈ L, a.2.length ≤ 100000 := by rw [eOL]; exact small_cut
  have hO20 : OL'.length ≤ 20 := by rw [eOL]; simp; omega
  -- t is cut
  have htx := (hts.keep k4).keep hk4x
  obtain ⟨vt, h7, p1, us7, p2⟩ := cut_eq (fuel := 10000) (n := 18) (m := 3) (k := 20) htx (by omega) (by omega) (by omega) (by omega)
  have k7 : Kept hx h7 := p2.kept
  have n7 : h7.next ≤ hx.next + 9 := by have := p2.hi; have : min T0.length 3 ≤ 3 := Nat.min_le_right _ _; omega
  obtain ⟨vs7, ats7, _, _⟩ := p2.ins
  obtain ⟨T, eT⟩ : ∃ T, T = cutL 3 20 T0 := ⟨_, rfl⟩
  rw [← eT] at ats7
  have hT3 : T.length ≤ 3 := by rw [eT]; simp [cutL]; omega
  clear p2
  have k47 : Kept h4 h7 := hk4x.trans k7
  have hk47n := k47.1
  refine sC_seq (sC_region (sO_op hle rfl rfl rfl rfl (sO_op hle rfl rfl rfl (op_call (f := 7) (cap := []) rfl rfl rfl p1) (sO_op hle rfl rfl rfl rfl (sO_nil (sQ_seq ?_))))))
  -- want, at
  obtain ⟨cW, eW⟩ : ∃ cW, cW = h7.next := ⟨_, rfl⟩
  obtain ⟨h8, e8⟩ : ∃ h8, h8 = h7.alc (.cells [.nils] 1 true) := ⟨_, rfl⟩
  have l7 : h7.next < HM := by omega
  have n8 : h8.next = cW + 1 := by rw [e8, next_alc, eW]
  have k8 : Kept h7 h8 := by rw [e8]; exact Kept.alc l7
  obtain ⟨h9, e9⟩ : ∃ h9, h9 = h8.alc (.cells [.nils] 1 true) := ⟨_, rfl⟩
  have l8 : h8.next < HM := by omega
  have n9 : h9.next = cW + 2 := by rw [e9, next_alc, n8]
  have k9 : Kept h8 h9 := by rw [e9]; exact Kept.alc l8
  have b8 : ∀ {r : Operand → AV} {q : Oper} {call : Caller}, q.op = .alloc 22 → opA E0 call r q h7 = some (.ptr cW 0, h8) := fun {r q call} hq => by
    have := op_alloc (E := E0) (call := call) (r := r) (h := h7) hq ti22 rfl l7
    rw [this, e8, eW]
  have b9 : ∀ {r : Operand → AV} {q : Oper} {call : Caller}, q.op = .alloc 22 → opA E0 call r q h8 = some (.ptr (cW+1) 0, h9) := fun {r q call} hq => by
    have := op_alloc (E := E0) (call := call) (r := r) (h := h8) hq ti22 rfl l8
    rw [this, e9, n8]
  have cW9 : h9.get cW = some (.cells [.nils] 1 true) := by rw [k9.2 _ (by omega), e8, get_alc l7, if_pos eW]
  have cA9 : h9.get (cW+1) = some (.cells [.nils] 1 true) := by rw [e9, get_alc l8, if_pos n8.symm]
  obtain ⟨hs, ehs⟩ : ∃ hs, hs = hs0.take 20 := ⟨_, rfl⟩
  rw [← ehs] at hv0
  have hhs20 : hs.length ≤ 20 := by rw [ehs]; simp; omega
  have hV0 : V2 h7 cW (cW+1) hs (hitsOf OL' T user 0) (40*0) h9 := by
    refine ⟨k8.trans k9, ⟨.nils, cW9, Sl.nil, fun b hb => (by cases hb)⟩, ⟨.nils, cA9, Sl.nil, fun b hb => (by cases hb)⟩, fun v u g1 _ b hb => ?_, by omega, by omega⟩
    rw [cW9] at g1; cases g1; cases hb
  have sl7 : Sl h7 v0 false hs := hv0.frame (fun b hb => k47.2 b (hv0.blk_lt hb)) k47.1
  have os7 : Oss h7 l true true true OL' us := hoss.keep k7
  refine sC_seq (sC_region (sO_op hle rfl rfl rfl (b8 rfl) (sO_op hle rfl rfl rfl (b9 rfl) (sO_nil (sQ_seq ?_)))))
  refine sC_seq (sC_seq (sC_region (sO_op hle rfl rfl rfl rfl (sO_nil (sQ_seq ?_)))))
  refine sC_block (sC_sub (s' := [(16, .int .i64 (.ofNat 0)), (14, .ptr cW 0), (15, .ptr (cW+1) 0), (12, l), (0, v0), (2, vt), (3, .bool user), (9, .ptr N 0), (10, .ptr (N+1) 0), (11, .ptr (N+2) 0)]) ⟨rfl, rfl, rfl, rfl, rfl, rfl, rfl, rfl, rfl, rfl, trivial⟩ ?_)
  obtain ⟨K, eK⟩ : ∃ K, K = min hs.length OL'.length := ⟨_, rfl⟩
  refine sC_loop (fun q s hx => ∃ (i : Nat), q + i = K ∧ s = [(16, .int .i64 (.ofNat i)), (14, .ptr cW 0), (15, .ptr (cW+1) 0), (12, l), (0, v0), (2, vt), (3, .bool user), (9, .ptr N 0), (10, .ptr (N+1) 0), (11, .ptr (N+2) 0)] ∧ V2 h7 cW (cW+1) hs (hitsOf OL' T user i) (40*i) hx) K (by omega) ⟨0, by omega, rfl, hV0⟩ ?_
  clear hV0
  rintro q s hy ⟨i, hki, rfl, hV⟩
  have sly : Sl hy v0 false hs := sl7.frame (fun b hb => hV.kept.2 b (sl7.blk_lt hb)) hV.kept.1
  have osy := os7.keep hV.kept
  refine sC_seq (sC_seq (sC_cut (s' := [(57, .bool (decide (i < K))), (16, .int .i64 (.ofNat i)), (14, .ptr cW 0), (15, .ptr (cW+1) 0), (12, l), (0, v0), (2, vt), (3, .bool user), (9, .ptr N 0), (10, .ptr (N+1) 0), (11, .ptr (N+2) 0)]) (h' := hy) ?_ (sQ_seq ?_)))
  · refine sC_region (sO_op hle rfl rfl rfl rfl (sO_op hle rfl rfl rfl rfl (sO_op hle rfl rfl rfl (op_len rfl rfl rfl rfl tkE22 sly.len) ?_)))
    rw [eK, ← and_lt]
    by_cases hi : i < hs.length
    · refine sO_op hle rfl rfl rfl (lt_eq (a := i) (b := hs.length) (c := true) (by simpa using hi) rfl rfl rfl) (sO_op hle rfl rfl rfl rfl (sO_do hle rfl rfl rfl rfl rfl rfl rfl (sO_do hle rfl rfl rfl rfl rfl rfl rfl ?_)))
      refine sO_do hle rfl rfl rfl rfl rfl rfl (op_len rfl rfl rfl rfl tkE23 osy.ar.len) (sO_do hle rfl rfl rfl rfl rfl rfl (lt_eq (a := i) (b := OL'.length) (c := decide (i < OL'.length)) rfl rfl rfl rfl) (sO_op hle rfl rfl rfl (v := .bool (decide (i < OL'.length))) rfl (sO_nil (sQ_cut ⟨?_, rfl, rfl, rfl, rfl, rfl, rfl, rfl, rfl, rfl, rfl, trivial⟩))))
      rw [decide_eq_true hi]; rfl
    · refine sO_op hle rfl rfl rfl (lt_eq (a := i) (b := hs.length) (c := false) (by simpa using hi) rfl rfl rfl) (sO_op hle rfl rfl rfl rfl (sO_skip hle rfl rfl rfl rfl rfl rfl (sO_skip hle rfl rfl rfl rfl rfl rfl (sO_skip hle rfl rfl rfl rfl rfl rfl (sO_skip hle rfl rfl rfl rfl rfl rfl (sO_op hle rfl rfl rfl (v := .bool false) rfl (sO_nil (sQ_cut ⟨?_, rfl, rfl, rfl, rfl, rfl, rfl, rfl, rfl, rfl, rfl, trivial⟩))))))))
      rw [decide_eq_false hi]; rfl
  by_cases hi : i < K
  case pos =>
    rw [decide_eq_true hi]
    refine sC_true rfl rfl (sC_skip (sQ_seq ?_))
    have hiO : i < OL'.length := by omega
    have hih : i < hs.length := by omega
    have hyn := hV.hi
    have hyl := hV.lo
    obtain ⟨L, eL⟩ : ∃ L, OL'[i]? = some L := ⟨_, List.getElem?_eq_getElem hiO⟩
    obtain ⟨sm1, sm2⟩ := hsmall L (List.mem_of_getElem? eL)
    have hio : i < us.length := by rw [os7.len]; exact hiO
    obtain ⟨u, hu⟩ : ∃ u, us[i]? = some u := ⟨_, List.getElem?_eq_getElem hio⟩
    obtain ⟨vs, ha⟩ := osy.val i L u eL hu
    obtain ⟨b, off, g1, _⟩ := osy.ar.idx (e := 24) (eb := 24) (z := some [.nils]) (k := .i64) hiO
    have g1' : indexAddrA (E0.tk 23) l (.int .i64 (.ofNat i)) = some (.ptr b off) := by rw [tkE23]; exact g1
    have ldl : ∀ {h'}, Kept hy h' → loadA h' tiS (.ptr b off) = some u := fun {h'} hk => by
      obtain ⟨b', off', z1, z2⟩ := (osy.keep hk).ar.idx (e := 24) (eb := 24) (z := some [.nils]) (k := .i64) hiO
      rw [g1] at z1; cases z1
      exact z2 0 (by decide) rfl (by rw [Nat.mul_one, Nat.add_zero, nth_eq]; exact hu)
    have hitd : hitOf OL' T user i = ((user || !flagL L 2) && matchL L T) := by unfold hitOf; rw [eL]
    obtain ⟨_, _, f1, f2, f3⟩ := refFlag_eq (fuel := 10000) (n := 18) (t := 2) ha (by omega) (by omega)
    rw [f2, f3] at f1
    clear f2 f3
    obtain ⟨_, hz, z1, z2, z3, z4, z5⟩ := seen_eq (fuel := 10000) (n := 16) (user := user) ha (by omega) (by omega) sm2 (by omega)
    rw [z2] at z1
    clear z2
    have kz : Kept hy hz := ⟨z3, z5⟩
    obtain ⟨_, _, m1, m2, m3⟩ := refMatch_eq (fuel := 10000) (n := 18) (ha.keep kz) ((ats7.keep hV.kept).keep kz) (by omega) (by omega) (by omega) (by omega)
    rw [m2, m3] at m1
    clear m2 m3
    refine sC_seq (sC_block (sC_seq (sC_cut (s' := [(17, .bool (user || !flagL L 2)), (16, .int .i64 (.ofNat i)), (14, .ptr cW 0), (15, .ptr (cW+1) 0), (12, l), (0, v0), (2, vt), (3, .bool user), (9, .ptr N 0), (10, .ptr (N+1) 0), (11, .ptr (N+2) 0)]) (h' := hy) ?_ (sQ_seq ?_))))
    · refine sC_region (sO_op hle rfl rfl rfl rfl (sO_op hle rfl rfl rfl rfl ?_))
      cases user with
      | true =>
        refine sO_skip hle rfl rfl rfl rfl rfl rfl (sO_skip hle rfl rfl rfl rfl rfl rfl (sO_skip hle rfl rfl rfl rfl rfl rfl (sO_skip hle rfl rfl rfl rfl rfl rfl (sO_skip hle rfl rfl rfl rfl rfl rfl (sO_skip hle rfl rfl rfl rfl rfl rfl ?_)))))
        exact sO_op hle rfl rfl rfl (v := .bool true) rfl (sO_op hle rfl rfl rfl rfl (sO_nil (sQ_cut ⟨rfl, rfl, rfl, rfl, rfl, rfl, rfl, rfl, rfl, rfl, rfl, trivial⟩)))
      | false =>
        refine sO_do hle rfl rfl rfl rfl rfl rfl rfl (sO_do hle rfl rfl rfl rfl rfl rfl rfl (sO_do hle rfl rfl rfl rfl rfl rfl (op_indexAddr rfl g1') (sO_do hle rfl rfl rfl rfl rfl rfl (op_load rfl ti24 (ldl (Kept.refl hy))) ?_)))
        refine sO_do hle rfl rfl rfl rfl rfl rfl (op_call (f := 8) (cap := []) rfl rfl rfl f1) (sO_do hle rfl rfl rfl rfl rfl rfl (v := .bool (!flagL L 2)) rfl (sO_op hle rfl rfl rfl (v := .bool (!flagL L 2)) rfl (sO_op hle rfl rfl rfl rfl (sO_nil (sQ_cut ⟨rfl, rfl, rfl, rfl, rfl, rfl, rfl, rfl, rfl, rfl, rfl, trivial⟩)))))
    refine sC_seq (sC_seq (sC_region (sO_op hle rfl rfl rfl rfl (sO_op hle rfl rfl rfl rfl (sO_op hle rfl rfl rfl (op_indexAddr rfl g1') (sO_op hle rfl rfl rfl (op_load rfl ti24 (ldl (Kept.refl hy))) (sO_op hle rfl rfl rfl rfl ?_)))))))
    refine sO_op hle rfl rfl rfl (op_call (f := 9) (cap := []) rfl rfl rfl z1) (sO_op hle rfl rfl rfl rfl (sO_op hle rfl rfl rfl (op_bin (v := .bool false) rfl (by rw [tkE4]; show some (AV.bool (!((user || !flagL L 2) == (user || !flagL L 2)))) = _; rw [beq_self_eq_true]; rfl)) (sO_nil (sQ_seq ?_))))
    refine sC_false rfl rfl (sC_skip (sQ_seq ?_))
    refine sC_seq (sC_cut (s' := [(85, .bool (hitOf OL' T user i)), (16, .int .i64 (.ofNat i)), (14, .ptr cW 0), (15, .ptr (cW+1) 0), (12, l), (0, v0), (2, vt), (3, .bool user), (9, .ptr N 0), (10, .ptr (N+1) 0), (11, .ptr (N+2) 0)]) (h' := hz) ?_ (sQ_seq ?_))
    · refine sC_region (sO_op hle rfl rfl rfl rfl (sO_op hle rfl rfl rfl rfl ?_))
      rw [hitd]
      cases hse : (user || !flagL L 2) with
      | true =>
        refine sO_do hle rfl rfl rfl rfl rfl rfl rfl (sO_do hle rfl rfl rfl rfl rfl rfl rfl (sO_do hle rfl rfl rfl rfl rfl rfl (op_indexAddr rfl g1') (sO_do hle rfl rfl rfl rfl rfl rfl (op_load rfl ti24 (ldl kz)) (sO_do hle rfl rfl rfl rfl rfl rfl rfl ?_))))
        exact sO_do hle rfl rfl rfl rfl rfl rfl (op_call (f := 10) (cap := []) rfl rfl rfl m1) (sO_op hle rfl rfl rfl (v := .bool (matchL L T)) rfl (sO_nil (sQ_cut ⟨rfl, rfl, rfl, rfl, rfl, rfl, rfl, rfl, rfl, rfl, rfl, trivial⟩)))
      | false =>
        refine sO_skip hle rfl rfl rfl rfl rfl rfl (sO_skip hle rfl rfl rfl rfl rfl rfl (sO_skip hle rfl rfl rfl rfl rfl rfl (sO_skip hle rfl rfl rfl rfl rfl rfl (sO_skip hle rfl rfl rfl rfl rfl rfl (sO_skip hle rfl rfl rfl rfl rfl rfl ?_)))))
        exact sO_op hle rfl rfl rfl (v := .bool false) rfl (sO_nil (sQ_cut ⟨rfl, rfl, rfl, rfl, rfl, rfl, rfl, rfl, rfl, rfl, rfl, trivial⟩))
    have hVz := hV.keep (d := 14) (by omega) (by omega) kz (by omega)
    have slz : Sl hz v0 false hs := sly.frame (fun b hb => kz.2 b (sly.blk_lt hb)) kz.1
    have next : ∀ {h'} {m : Nat} {tm : Tm} {s : SL} {Q : AEx → Tm → H → Prop}, V2 h7 cW (cW+1) hs (hitsOf OL' T user (i+1)) m h' → m ≤ 40 * (i+1) → subL [(16, .int .i64 (.ofNat (i+1))), (14, .ptr cW 0), (15, .ptr (cW+1) 0), (12, l), (0, v0), (2, vt), (3, .bool user), (9, .ptr N 0), (10, .ptr (N+1) 0), (11, .ptr (N+2) 0)] s → tm.n = Try.f3.ntmps → Holds tm s →
        ∃ m s', m < q ∧ (∃ (i : Nat), m + i = K ∧ s' = [(16, .int .i64 (.ofNat i)), (14, .ptr cW 0), (15, .ptr (cW+1) 0), (12, l), (0, v0), (2, vt), (3, .bool user), (9, .ptr N 0), (10, .ptr (N+1) 0), (11, .ptr (N+2) 0)] ∧ V2 h7 cW (cW+1) hs (hitsOf OL' T user i) (40*i) h') ∧ tm.n = Try.f3.ntmps ∧ Holds tm s' := by
      intro h' m tm s Q hv hm hsub m1 m2
      exact ⟨q - 1, _, by omega, ⟨i+1, by omega, rfl, ⟨hv.kept, hv.w, hv.a, hv.sep, by have := hv.hi; omega, hv.lo⟩⟩, m1, m2.sub hsub⟩
    cases hh : hitOf OL' T user i with
    | false =>
      refine sC_false rfl rfl (sC_skip (sQ_seq ?_))
      refine sC_region (sO_op hle rfl rfl rfl rfl (sO_op hle rfl rfl rfl (inc_eq (i := i) (by omega) rfl rfl rfl) (sO_op hle rfl rfl rfl rfl (sO_nil ?_))))
      intro tm m1 m2
      have hz0 : hitsOf OL' T user (i+1) = hitsOf OL' T user i := by rw [hitsOf_succ, hh]; simp
      exact next (Q := fun _ _ _ => True) (by rw [hz0]; exact hVz) (by omega) ⟨rfl, rfl, rfl, rfl, rfl, rfl, rfl, rfl, rfl, rfl, trivial⟩ m1 m2
    | true =>
      have hz1 : hitsOf OL' T user (i+1) = hitsOf OL' T user i ++ [i] := by rw [hitsOf_succ, hh]; rfl
      have hlen : (hitsOf OL' T user i).length ≤ i := by
        have := List.length_filter_le (hitOf OL' T user) (List.range i)
        simpa [hitsOf] using this
      obtain ⟨vw, o, x2, x3, va, o', x5, x6, y1, y2, y3, y4, y5, y6, y7, y8, y9, y10, y11⟩ := hVz.push (i := i) eW (by omega) (by omega) (by omega)
      have hgd : hs.getD i 0 = hs[i] := by simp [List.getD, hih]
      rw [hgd] at y3
      obtain ⟨xa, w1, _⟩ := slz.idx (e := 3) (eb := 8) (k := .i64) (ti := tiI) hih rfl
      obtain ⟨hz1', ez1⟩ : ∃ x1, x1 = hz.alc (.cells [.int .i64 hs[i]] (1 * 1) true) := ⟨_, rfl⟩
      have hzlt : hz.next < HM := by omega
      have kz1 : Kept hz hz1' := by rw [ez1]; exact Kept.alc hzlt
      refine sC_true rfl rfl (sC_seq ?_)
      refine sC_drawB false (fun h' => h'.get cW = some (.cells [vw] 1 true) ∧ Kept h7 h') hle (by kernel_rfl) (by kernel_rfl) (by kernel_rfl) (by kernel_rfl) ?_
      have sz : hz.get cW = some (.cells [vw] 1 true) ∧ Kept h7 hz := ⟨y1, hV.kept.trans kz⟩
      have sz1 : hz1'.get cW = some (.cells [vw] 1 true) ∧ Kept h7 hz1' := ⟨(kz1.2 _ (by have := kz.1; omega)).trans y1, (hV.kept.trans kz).trans kz1⟩
      have w2 : ∀ h', Kept h7 h' → loadA h' tiI xa = some (.int .i64 hs[i]) := fun h' hk => by
        obtain ⟨xa', v1, v2⟩ := (sl7.frame (h' := h') (fun b hb => hk.2 b (sl7.blk_lt hb)) hk.1).idx (e := 3) (eb := 8) (k := .i64) (ti := tiI) hih rfl
        rw [w1] at v1; cases v1; exact v2
      refine sS_quiet sz rfl (gotG_none rfl) rfl rfl y2 (fun h' hh => op_load rfl ti22 (loadA_cell rfl hh.1 rfl)) (sS_pure sz rfl (gotG_none rfl) rfl rfl (v := v0) rfl sly.avEq (sS_pure sz rfl (gotG_none rfl) rfl rfl (v := .int .i64 (.ofNat i)) rfl avEq_int ?_))
      refine sS_pure sz rfl (gotG_none rfl) rfl rfl (h1 := hz) (op_indexAddr (v := xa) rfl (by rw [tkE22]; exact w1)) (avEq_load (w2 hz sz.2)) (sS_quiet sz rfl (gotG_none rfl) rfl rfl avEq_int (fun h' hh => op_load rfl ti3 (w2 h' hh.2)) ?_)
      refine sS_loud sz rfl (gotG_none rfl) rfl rfl (v := .slice hz.next 0 1 1) (h1 := hz1') (by rw [ez1]; exact op_buildSlice rfl tkE22 rfl rfl rfl rfl hzlt) ?_
      refine sS_loud sz1 rfl (gotG_none rfl) rfl rfl (op_append rfl rfl rfl rfl (by rw [ez1]; exact y3)) ?_
      refine sS_loud ⟨y6, y5⟩ rfl (gotG_none rfl) rfl rfl (op_store rfl ti22 y4) (sS_nil (sQ_seq ?_))
      have bs2 : ∀ {r : Operand → AV} {q : Oper} {x : Operand} {call : Caller}, q.op = .buildSlice 22 1 #[(0, x)] → r x = .int .i64 (.ofNat (i+1)) → opA E0 call r q x3 = some (.slice x3.next 0 1 1, x3.alc (.cells [.int .i64 (.ofNat (i+1))] (1 * 1) true)) := fun {r q x call} hq hx => by
        exact op_buildSlice (E := E0) (call := call) (r := r) (h := x3) (cs := [.int .i64 (.ofNat (i+1))]) hq tkE22 rfl rfl rfl (by simp only [List.map]; rw [hx]; rfl) y8
      refine sC_region (sO_op hle rfl rfl rfl (op_load rfl ti22 (loadA_cell rfl y7 rfl)) (sO_op hle rfl rfl rfl rfl (sO_op hle rfl rfl rfl (inc_eq (i := i) (by omega) rfl rfl rfl) (sO_op hle rfl rfl rfl (bs2 rfl rfl) ?_))))
      refine sO_op hle rfl rfl rfl (op_append rfl rfl rfl rfl y9) (sO_op hle rfl rfl rfl (op_store rfl ti22 y10) (sO_nil (sQ_seq ?_)))
      refine sC_region (sO_op hle rfl rfl rfl rfl (sO_op hle rfl rfl rfl (inc_eq (i := i) (by omega) rfl rfl rfl) (sO_op hle rfl rfl rfl rfl (sO_nil ?_))))
      intro tm m1 m2
      exact next (Q := fun _ _ _ => True) (by rw [hz1]; exact y11) (by omega) ⟨rfl, rfl, rfl, rfl, rfl, rfl, rfl, rfl, rfl, rfl, trivial⟩ m1 m2
  rw [decide_eq_false hi]
  refine sC_false rfl rfl (sC_exit (sQ_seq ?_))
  have hie2 : i = K := by omega
  subst hie2
  have hyn := hV.hi
  have hyl := hV.lo
  -- the count
  obtain ⟨cC, eC⟩ : ∃ cC, cC = hy.next := ⟨_, rfl⟩
  have ly : hy.next < HM := by omega
  obtain ⟨h10, e10⟩ : ∃ h10, h10 = hy.alc (.cells [.int .i64 0] 1 true) := ⟨_, rfl⟩
  have n10 : h10.next = cC + 1 := by rw [e10, next_alc, eC]
  have k10 : Kept hy h10 := by rw [e10]; exact Kept.alc ly
  have c10 : h10.get cC = some (.cells [.int .i64 0] 1 true) := by rw [e10, get_alc ly, if_pos eC]
  have hCm : cC < HM := by omega
  obtain ⟨h11, e11⟩ : ∃ h11, h11 = h10.put cC (.cells [.int .i64 0] 1 true) := ⟨_, rfl⟩
  have n11 : h11.next = cC + 1 := by rw [e11]; exact n10
  have k11 : Kept hy h11 := ⟨by omega, fun b hb => by rw [e11, gpn hCm (by omega)]; exact k10.2 b hb⟩
  have c11 : h11.get cC = some (.cells [.int .i64 0] 1 true) := by rw [e11, gpe hCm]
  have b10 : ∀ {r : Operand → AV} {q : Oper} {call : Caller}, q.op = .alloc 3 → opA E0 call r q hy = some (.ptr cC 0, h10) := fun {r q call} hq => by
    have := op_alloc (E := E0) (call := call) (r := r) (h := hy) hq ti3 rfl ly
    rw [this, e10, eC]
  have s10 : storeA h10 tiI (.ptr cC 0) (.int .i64 0) = some h11 := by rw [e11]; exact store1 rfl rfl c10
  refine sC_seq (sC_region (sO_op hle rfl rfl rfl (b10 rfl) (sO_op hle rfl rfl rfl (op_store rfl ti3 s10) (sO_nil (sQ_seq ?_)))))
  -- the iterator
  have hcl : cellsV l = some [l] := os7.ar.cellsV
  obtain ⟨_, h12, r1, r2, k12, n12, q0, q1, q2⟩ := given_eq (fuel := 10000) (n := 19) (h := h11) (c := cC) hv0.cellsV hcl (by omega)
  rw [r2] at r1
  clear r2
  obtain ⟨_, h13, t1, t2, k13, n13, u0, u1, u2⟩ := filter_eq (fuel := 10000) (n := 19) (h := h12) (f := .fn 23 [.ptr h11.next 0, .ptr (h11.next+1) 0, .ptr (h11.next+2) 0]) (vt := vt) (user := user) rfl ats7.ar.cellsV (by omega)
  rw [t2] at t1
  clear t2
  refine sC_seq (sC_region (sO_op hle rfl rfl rfl rfl (sO_op hle rfl rfl rfl rfl (sO_op hle rfl rfl rfl (op_call (f := 12) (cap := []) rfl rfl rfl r1) (sO_op hle rfl rfl rfl rfl (sO_op hle rfl rfl rfl rfl ?_))))))
  refine sO_op hle rfl rfl rfl (op_call (f := 11) (cap := []) rfl rfl rfl t1) (sO_op hle rfl rfl rfl rfl (sO_nil (sQ_seq ?_)))
  have c13 : h13.get cC = some (.cells [.int .i64 0] 1 true) := by rw [k13.2 _ (by omega), k12.2 _ (by omega)]; exact c11
  refine sC_seq (sC_seq (sC_region (sO_op hle rfl rfl rfl rfl (sO_op hle rfl rfl rfl (op_bin (v := .bool false) rfl (by rw [tkE31]; rfl)) (sO_op hle rfl rfl rfl rfl ?_)))))
  refine sO_do hle rfl rfl rfl rfl rfl rfl (op_load rfl ti3 (loadA_cell rfl c13 rfl)) (sO_do hle rfl rfl rfl rfl rfl rfl (ne_eq (k := .i64) (a := 0) rfl rfl rfl) (sO_op hle rfl rfl rfl (v := .bool false) rfl (sO_nil (sQ_seq ?_))))
  refine sC_false rfl rfl (sC_skip (sQ_seq ?_))
  -- k
  obtain ⟨cK, eK2⟩ : ∃ cK, cK = h13.next := ⟨_, rfl⟩
  have l13 : h13.next < HM := by omega
  obtain ⟨h14, e14⟩ : ∃ h14, h14 = h13.alc (.cells [.int .i64 0] 1 true) := ⟨_, rfl⟩
  have n14 : h14.next = cK + 1 := by rw [e14, next_alc, eK2]
  have k14 : Kept h13 h14 := by rw [e14]; exact Kept.alc l13
  have c14 : h14.get cK = some (.cells [.int .i64 0] 1 true) := by rw [e14, get_alc l13, if_pos eK2]
  have hKm : cK < HM := by omega
  obtain ⟨h15, e15⟩ : ∃ h15, h15 = h14.put cK (.cells [.int .i64 0] 1 true) := ⟨_, rfl⟩
  have n15 : h15.next = cK + 1 := by rw [e15]; exact n14
  have k15 : Kept h13 h15 := ⟨by omega, fun b hb => by rw [e15, gpn hKm (by omega)]; exact k14.2 b hb⟩
  have c15 : h15.get cK = some (.cells [.int .i64 0] 1 true) := by rw [e15, gpe hKm]
  have b14 : ∀ {r : Operand → AV} {q : Oper} {call : Caller}, q.op = .alloc 3 → opA E0 call r q h13 = some (.ptr cK 0, h14) := fun {r q call} hq => by
    have := op_alloc (E := E0) (call := call) (r := r) (h := h13) hq ti3 rfl l13
    rw [this, e14, eK2]
  have s14 : storeA h14 tiI (.ptr cK 0) (.int .i64 0) = some h15 := by rw [e15]; exact store1 rfl rfl c14
  refine sC_seq (sC_region (sO_op hle rfl rfl rfl (b14 rfl) (sO_op hle rfl rfl rfl (op_store rfl ti3 s14) (sO_nil (sQ_seq ?_)))))
  refine sC_seq (sC_seq (sC_region (sO_op hle rfl rfl rfl rfl (sO_nil (sQ_seq ?_)))))
  have l15 : h15.next < HM := by omega
  refine sC_block (sC_range (f := 21) (cap := [.ptr h12.next 0, .ptr (h12.next+2) 0, .ptr (h12.next+1) 0]) rfl rfl l15 ?_)
  intro tm m1 m2
  obtain ⟨h16, e16⟩ : ∃ h16, h16 = h15.alc (.loop ⟨.ready, none, 3, tm, [111], (rngOf Try.f3).1, (rngOf Try.f3).2⟩) := ⟨_, rfl⟩
  have k16 : Kept h15 h16 := by rw [e16]; exact Kept.alc l15
  have n16 : h16.next = cK + 2 := by rw [e16, next_alc, n15]
  obtain ⟨s, es⟩ : ∃ s : Phs, s = { p := ⟨N, N+1, N+2, cW, cW+1, cC, cK, h15.next⟩, LB2 := 0, bY := 0, bU := h12.next+2, bT := h12.next+1, tm0 := tm, tm1 := tm, hB := h7, hP := h7, user := user, most := most, hs := hs, OL := OL', T := T, v0 := v0, vl := l, vt := vt, os := us, us := vs7 } := ⟨_, rfl⟩
  have ky16 : Kept hy h16 := k11.trans (k12.trans (k13.trans (k15.trans k16)))
  have k1216 : Kept h12 h16 := k13.trans (k15.trans k16)
  have k1316 : Kept h13 h16 := k15.trans k16
  have k716 : Kept h7 h16 := hV.kept.trans ky16
  have eW2 : s.W = wOf hs (hitsOf OL' T user (min hs.length OL'.length)) := by rw [es]; rfl
  have eA2 : s.A = aOf (hitsOf OL' T user (min hs.length OL'.length)) := by rw [es]; rfl
  rw [eK] at hV
  have hvars : Vars s.p s.most s.W s.A 0 0 h16 := by
    obtain ⟨_, ⟨vw, w1, w2, w3⟩, ⟨va, a1, a2, a3⟩, _, _, _⟩ := hV
    rw [eW2, eA2, es]
    have hg4 : ∀ b, b < N + 3 → h16.get b = h4.get b := fun b hb => (k716.2 b (by omega)).trans (k47.2 b (by omega))
    exact ⟨(hg4 N (by omega)).trans cM4, ⟨_, (hg4 (N+1) (by omega)).trans cR4⟩, (hg4 (N+2) (by omega)).trans cI4, ⟨vw, (ky16.2 cW (by omega)).trans w1, w2.frame (fun b hb => ky16.2 b (w2.blk_lt hb)) ky16.1, fun b hb => ⟨w3 b hb, by have := w2.blk_lt hb; show b < cC; omega⟩⟩,
      ⟨va, (ky16.2 (cW+1) (by omega)).trans a1, a2.frame (fun b hb => ky16.2 b (a2.blk_lt hb)) ky16.1, fun b hb => ⟨a3 b hb, by have := a2.blk_lt hb; show b < cC; omega⟩⟩, (k1316.2 cC (by omega)).trans c13, (k16.2 cK (by omega)).trans c15⟩
  have hsb : ∀ b, blk v0 = some b → b < N := fun b hb => by rw [hvb] at hb; have := hsl.blk_lt hb; omega
  have hpre : Pre s h12.next h11.next (h11.next+1) (h11.next+2) h16 := by
    rw [es]
    rw [es] at hvars
    have x1 : cK + 5000 < HM := by omega
    exact { pos := ⟨by show N < N + 1; omega, by show N + 1 < N + 2; omega, by show N + 2 < cW; omega, by show cW < cW + 1; omega, by show cW + 1 < cC; omega, by show cC < cK; omega, by show cK < h15.next; omega, by show h15.next + 5000 < HM; omega⟩,
            u1 := by show cC < h12.next + 2; omega, u2 := by show h12.next + 2 < cK; omega, t1 := by show cC < h12.next + 1; omega, t2 := by show h12.next + 1 < cK; omega, o1 := by show cC < h12.next; omega, o2 := by show h12.next < cK; omega,
            a0 := by show cC < h11.next; omega, b0 := by show h11.next < cK; omega, a1 := by show cC < h11.next + 1; omega, b1 := by show h11.next + 1 < cK; omega, a2 := by show cC < h11.next + 2; omega, b2 := by show h11.next + 2 < cK; omega,
            n0 := m1, hh0 := m2.sub ⟨rfl, rfl, rfl, rfl, rfl, rfl, rfl, trivial⟩, o := (k1316.2 h12.next (by omega)).trans u0, c0 := (k1216.2 h11.next (by omega)).trans q0, c1 := (k1216.2 (h11.next+1) (by omega)).trans q1, c2 := (k1216.2 (h11.next+2) (by omega)).trans q2,
            u := (k1316.2 (h12.next+2) (by omega)).trans u2, t := (k1316.2 (h12.next+1) (by omega)).trans u1, kept := k716, hBn := by show h7.next ≤ cW; omega, oss := os7, ts := ats7, sl := sl7, small := hsmall, smallT := hT3, smallH := hhs20, smallO := hO20,
            lb := by show h15.next < h16.next; omega, room := by omega, sb := fun b hb => by have := hsb b hb; show b ≠ N + 1; omega, ob := fun b hb => by have := hlnew b hb; show b ≠ N + 1; omega, vars := hvars,
            l0 := by show h16.get h15.next = _; rw [e16, get_alc l15, if_pos rfl]; rfl }
  obtain ⟨v, h17, x1, x2⟩ := filter1_eq (fuel := 10000) (n := 13) hpre (by omega)
  rw [es] at x1
  rw [e16] at x1
  refine ⟨v, h17, x1, ?_⟩
  have hRm : N + 1 < HM := by omega
  have hLm : h15.next < HM := l15
  have fin : ∀ {hz : H} {tm2 : Tm} {ex : AEx}, (ex = .normal ∨ ex = .ret) → Holds tm2 [(10, .ptr (N+1) 0)] → hz.get (N+1) = some (.cells [.bool true] 1 true) → endQ E0 Try.f3.results.toList (fun v' h' => v' = .bool true) ex tm2 hz := fun {hz tm2 ex} he hh hc =>
    ⟨he, _, resA_cell hh rfl ti4 (loadA_cell rfl hc rfl), rfl⟩
  rcases x2 with ⟨y1, y2⟩ | ⟨y1, y2⟩
  · rw [es] at y1
    refine ⟨_, y1, fun e => (by cases e), ?_⟩
    obtain ⟨z1, ⟨zr, z2⟩, z3, ⟨vw, z4, z5, z6⟩, _, _, z7⟩ := y2
    rw [es] at z2 z3 z4 z6 z7
    have g18 : ∀ {o : AObj} (b : Nat), b ≠ h15.next → (h17.put h15.next o).get b = h17.get b := fun {o} b hb => gpn hLm hb
    have w2 : ∀ {o : AObj}, Sl (h17.put h15.next o) vw true s.W := fun {o} => z5.frame (fun b hb => g18 b (by have h := z6 b hb; have : b < cC := h.2; omega)) (Nat.le_refl _)
    have wl : s.W.length = (hitsOf OL' T user (min hs.length OL'.length)).length := by rw [eW2]; simp [wOf]
    have ek : (s.hits s.K).length = s.W.length := by rw [wl, es]; rfl
    have z7' : h17.get cK = some (.cells [.int .i64 (.ofNat s.W.length)] 1 true) := by rw [← ek, es]; exact z7
    have i18 : ∀ {o : AObj}, (h17.put h15.next o).get (N+2) = some (.cells [.bool true] 1 true) := fun {o} => (g18 _ (by omega)).trans z3
    have k18 : ∀ {o : AObj}, (h17.put h15.next o).get cK = some (.cells [.int .i64 (.ofNat s.W.length)] 1 true) := fun {o} => (g18 _ (by omega)).trans z7'
    have w18 : ∀ {o : AObj}, (h17.put h15.next o).get cW = some (.cells [vw] 1 true) := fun {o} => (g18 _ (by omega)).trans z4
    have r18 : ∀ {o : AObj}, (h17.put h15.next o).get (N+1) = some (.cells [zr] 1 true) := fun {o} => (g18 _ (by omega)).trans z2
    have s18 : ∀ {o : AObj}, storeA (h17.put h15.next o) ⟨1, false, some [.bool false], 1, .bool⟩ (.ptr (N+1) 0) (.bool true) = some ((h17.put h15.next o).put (N+1) (.cells [.bool true] 1 true)) := fun {o} => store1 rfl rfl r18
    refine (show sC E0 (callA E0 O6 10000 20) 3 10000 146 [(10, .ptr (N+1) 0), (11, .ptr (N+2) 0), (14, .ptr cW 0), (20, .ptr cK 0)] _ _ _ from ?_) tm m1 (m2.sub ⟨rfl, rfl, rfl, rfl, trivial⟩)
    refine sC_seq (sC_region (sO_op hle rfl rfl rfl (op_load rfl ti4 (loadA_cell rfl i18 rfl)) (sO_op hle rfl rfl rfl rfl ?_)))
    refine sO_do hle rfl rfl rfl rfl rfl rfl (op_load rfl ti3 (loadA_cell rfl k18 rfl)) (sO_do hle rfl rfl rfl rfl rfl rfl (op_load rfl ti22 (loadA_cell rfl w18 rfl)) (sO_do hle rfl rfl rfl rfl rfl rfl (op_len rfl rfl rfl rfl tkE22 w2.len) ?_))
    refine sO_do hle rfl rfl rfl rfl rfl rfl (eq_eq (k := .i64) (a := .ofNat s.W.length) (b := .ofNat s.W.length) (c := true) (decide_eq_true rfl) rfl rfl rfl) (sO_op hle rfl rfl rfl (v := .bool true) rfl (sO_op hle rfl rfl rfl (op_store rfl ti4 s18) (sO_nil (sQ_seq (sC_ret ?_)))))
    intro tm2 _ m4
    exact fin (.inr rfl) (m4.sub ⟨rfl, trivial⟩) (gpe hRm)
  · rw [es] at y1 y2
    refine ⟨_, y1, fun e => (by cases e), ?_⟩
    exact fin (.inr rfl) (m2.sub ⟨rfl, trivial⟩) ((gpn hLm (by omega)).trans y2)
end Go.Proofs.Ytgafbagehjmipaa

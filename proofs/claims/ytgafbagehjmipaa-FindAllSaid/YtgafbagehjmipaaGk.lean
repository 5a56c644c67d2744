/- find: the objects that are given, gone over. -/
import Derived.Test.YtgafbagehjmipaaGj
namespace Go.Proofs.Ytgafbagehjmipaa
open Bly

/-- The objects, gone over: to the end, or till the law's loop stops. -/
theorem given1_eq {fuel n : Nat} {s : Phs} (hs : s.Ok) {g0 g1 g2 : Nat} {hx0 : H} (hf : 100 < fuel) (hI0 : PI s 0 0 hx0) (a0 : s.p.cC < g0) (b0 : g0 < s.p.cK) (a1 : s.p.cC < g1) (b1 : g1 < s.p.cK) (a2 : s.p.cC < g2) (b2 : g2 < s.p.cK)
    (c0 : s.hP.get g0 = some (.cells [s.v0] 1 true)) (c1 : s.hP.get g1 = some (.cells [s.vl] 1 true)) (c2 : s.hP.get g2 = some (.cells [.ptr s.p.cC 0] 1 true)) :
    ∃ v h', callA E0 O6 fuel (n+6) (.fn 23 []) [.yld s.LB2, .ptr g0 0, .ptr g1 0, .ptr g2 0] hx0 = some (v, h') ∧ (PI s s.K s.K h' ∨ Stop s h') := by
  refine s_callO rfl fn23 rfl rfl rfl ?_
  have hle : Try.f23.ntmps ≤ 512 := by decide
  have hpos := hs.pos
  obtain ⟨q1, q2, q3, q4, q5, q6, q7, q8⟩ := hs.pos
  have hy1 := hs.y1
  have hy2 := hs.y2
  have hPn := hs.hPn
  have hroom := hs.room
  have hBn := hs.hBn
  have hK20 : s.K ≤ 20 := by unfold Phs.K; have := hs.smallO; omega
  refine sC_seq (sC_region (sO_op hle rfl rfl rfl rfl (sO_nil (sQ_seq ?_))))
  refine sC_block (sC_sub (s' := [(5, .int .i64 (.ofNat 0)), (0, .yld s.LB2), (1, .ptr g0 0), (2, .ptr g1 0), (3, .ptr g2 0)]) ⟨rfl, rfl, rfl, rfl, rfl, trivial⟩ ?_)
  refine sC_loop (fun q st hx => ∃ i : Nat, q + i = s.K ∧ st = [(5, .int .i64 (.ofNat i)), (0, .yld s.LB2), (1, .ptr g0 0), (2, .ptr g1 0), (3, .ptr g2 0)] ∧ PI s i i hx) s.K (by omega) ⟨0, by omega, rfl, hI0⟩ ?_
  clear hI0
  rintro q st hx ⟨i, hki, rfl, hI⟩
  have hkx := hI.kept hs
  have d0 : hx.get g0 = some (.cells [s.v0] 1 true) := (hI.fr _ (by omega) (by omega) (by omega) (by omega) (by omega)).trans c0
  have d1 : hx.get g1 = some (.cells [s.vl] 1 true) := (hI.fr _ (by omega) (by omega) (by omega) (by omega) (by omega)).trans c1
  have d2 : hx.get g2 = some (.cells [.ptr s.p.cC 0] 1 true) := (hI.fr _ (by omega) (by omega) (by omega) (by omega) (by omega)).trans c2
  have slx : Sl hx s.v0 false s.hs := hs.sl.frame (fun b hb => hkx.2 b (hs.sl.blk_lt hb)) hkx.1
  have osx := hs.oss.keep hkx
  refine sC_seq (sC_seq (sC_cut (s' := [(15, .bool (decide (i < s.K))), (5, .int .i64 (.ofNat i)), (0, .yld s.LB2), (1, .ptr g0 0), (2, .ptr g1 0), (3, .ptr g2 0)]) (h' := hx) ?_ (sQ_seq ?_)))
  · refine sC_region (sO_op hle rfl rfl rfl rfl (sO_op hle rfl rfl rfl (op_load rfl ti22 (loadA_cell rfl d0 rfl)) (sO_op hle rfl rfl rfl (op_len rfl rfl rfl rfl tkE22 slx.len) ?_)))
    by_cases hi : i < s.hs.length
    · refine sO_op hle rfl rfl rfl (lt_eq (a := i) (b := s.hs.length) (c := true) (by simpa using hi) rfl rfl rfl) (sO_op hle rfl rfl rfl rfl (sO_do hle rfl rfl rfl rfl rfl rfl rfl (sO_do hle rfl rfl rfl rfl rfl rfl (op_load rfl ti23 (loadA_cell rfl d1 rfl)) ?_)))
      refine sO_do hle rfl rfl rfl rfl rfl rfl (op_len rfl rfl rfl rfl tkE23 osx.ar.len) (sO_do hle rfl rfl rfl rfl rfl rfl (lt_eq (a := i) (b := s.OL.length) (c := decide (i < s.OL.length)) rfl rfl rfl rfl) (sO_op hle rfl rfl rfl (v := .bool (decide (i < s.OL.length))) rfl (sO_nil (sQ_cut ⟨?_, rfl, rfl, rfl, rfl, rfl, trivial⟩))))
      show some (AV.bool _) = some (AV.bool _)
      congr 2
      have : (i < s.K) ↔ i < s.OL.length := by unfold Phs.K; omega
      simp only [this]
    · refine sO_op hle rfl rfl rfl (lt_eq (a := i) (b := s.hs.length) (c := false) (by simpa using hi) rfl rfl rfl) (sO_op hle rfl rfl rfl rfl (sO_skip hle rfl rfl rfl rfl rfl rfl (sO_skip hle rfl rfl rfl rfl rfl rfl (sO_skip hle rfl rfl rfl rfl rfl rfl (sO_skip hle rfl rfl rfl rfl rfl rfl (sO_op hle rfl rfl rfl (v := .bool false) rfl (sO_nil (sQ_cut ⟨?_, rfl, rfl, rfl, rfl, rfl, trivial⟩))))))))
      show some (AV.bool _) = some (AV.bool _)
      rw [decide_eq_false (show ¬ i < s.K by unfold Phs.K; omega)]
  by_cases hi : i < s.K
  case neg =>
    rw [decide_eq_false hi]
    refine sC_false rfl rfl (sC_exit ?_)
    have : i = s.K := by omega
    exact sQ_end (R := fun _ h' => PI s s.K s.K h' ∨ Stop s h') (.inl rfl) rfl (.inl (by rw [← this]; exact hI))
  rw [decide_eq_true hi]
  refine sC_true rfl rfl (sC_skip (sQ_seq ?_))
  refine sC_seq (sC_block (sC_seq (sC_region ?_)))
  obtain ⟨h1, e1⟩ : ∃ h1, h1 = hx.put s.p.cC (.cells [.int .i64 (.ofNat (i+1))] 1 true) := ⟨_, rfl⟩
  have hC : s.p.cC < HM := by omega
  have st1 : storeA hx tiI (.ptr s.p.cC 0) (.int .i64 (.ofNat (i+1))) = some h1 := by rw [e1]; exact store1 rfl rfl hI.vars.c
  have f1 : ∀ b, b ≠ s.p.cC → h1.get b = hx.get b := fun b hb => by rw [e1, gpn hC hb]
  have hI1 : PI s i (i+1) h1 := by
    refine ⟨fun b b1 b2 b3 b4 b5 => (f1 b b2).trans (hI.fr b b1 b2 b3 b4 b5), ?_, (f1 _ (by omega)).trans hI.l0, (f1 _ (by omega)).trans hI.l1, by rw [e1]; exact hI.lo, by rw [e1]; exact hI.hi⟩
    obtain ⟨m, ⟨x, r⟩, is, ⟨vw, w1, w2, w3⟩, ⟨va, x1, x2, x3⟩, c, k⟩ := hI.vars
    have hn : hx.next ≤ h1.next := by rw [e1]; exact Nat.le_refl _
    exact ⟨(f1 _ (by omega)).trans m, ⟨x, (f1 _ (by omega)).trans r⟩, (f1 _ (by omega)).trans is, ⟨vw, (f1 _ (by omega)).trans w1, w2.frame (fun b hb => f1 b (by have := w3 b hb; omega)) hn, w3⟩,
      ⟨va, (f1 _ (by omega)).trans x1, x2.frame (fun b hb => f1 b (by have := x3 b hb; omega)) hn, x3⟩, by rw [e1]; exact gpe hC, (f1 _ (by omega)).trans k⟩
  refine sO_op hle rfl rfl rfl (op_load rfl ti36 (loadA_cell rfl d2 rfl)) (sO_op hle rfl rfl rfl (v := .ptr s.p.cC 0) rfl (sO_op hle rfl rfl rfl (op_load rfl ti3 (loadA_cell rfl hI.vars.c rfl)) (sO_op hle rfl rfl rfl (inc_eq (i := i) (by omega) rfl rfl rfl) (sO_op hle rfl rfl rfl (v := .ptr s.p.cC 0) rfl (sO_op hle rfl rfl rfl (op_store rfl ti3 st1) (sO_nil (sQ_seq ?_)))))))
  -- the yield
  have hio : i < s.os.length := by rw [hs.oss.len]; unfold Phs.K at hi; omega
  have hu : s.os[i]? = some s.os[i] := List.getElem?_eq_getElem hio
  have his : i < s.hs.length := by unfold Phs.K at hi; omega
  obtain ⟨v, h2, r1, r2⟩ := body1 (fuel := fuel) (n := n) hs hf hI1 hi hu
  have hgd : s.hs.getD i 0 = s.hs[i] := by simp [List.getD, his]
  rw [hgd] at r1
  let St : H → Prop := fun h' => s.hP.next ≤ h'.next ∧ ∀ b, b < s.hP.next → b ≠ s.p.cC → b ≠ s.p.cK → b ≠ s.p.LB → b ≠ s.LB2 → b ≠ s.p.cR → h'.get b = s.hP.get b
  have St1 : St h1 := ⟨hI1.lo, fun b b1 b2 b3 b4 b5 _ => hI1.fr b b1 b2 b3 b4 b5⟩
  have St2 : St h2 := by
    rcases r2 with ⟨_, h⟩ | ⟨_, h⟩
    · exact ⟨h.lo, fun b b1 b2 b3 b4 b5 _ => h.fr b b1 b2 b3 b4 b5⟩
    · exact ⟨h.lo, h.fr⟩
  have hkP := hs.kept
  have stB : ∀ {h'}, St h' → ∀ b, b < s.hB.next → b ≠ s.p.cR → h'.get b = s.hB.get b := fun {h'} hst b hb hne => (hst.2 b (by have := hkP.1; omega) (by omega) (by omega) (by omega) (by omega) hne).trans (hkP.2 b hb)
  have stn : ∀ {h'}, St h' → s.hB.next ≤ h'.next := fun {h'} hst => by have := hkP.1; have := hst.1; omega
  have l0 : ∀ h', St h' → loadA h' ⟨1, false, some [.nils], 1, slK 3 8⟩ (.ptr g0 0) = some s.v0 := fun h' hst => loadA_cell rfl ((hst.2 _ (by omega) (by omega) (by omega) (by omega) (by omega) (by omega)).trans c0) rfl
  have l1 : ∀ h', St h' → loadA h' ⟨1, false, some [.nils], 1, .slice 24 1 24 (some [.nils])⟩ (.ptr g1 0) = some s.vl := fun h' hst => loadA_cell rfl ((hst.2 _ (by omega) (by omega) (by omega) (by omega) (by omega) (by omega)).trans c1) rfl
  have slS : ∀ h', St h' → Sl h' s.v0 false s.hs := fun h' hst => hs.sl.frame (fun b hb => stB hst b (hs.sl.blk_lt hb) (hs.sb b hb)) (stn hst)
  have arS : ∀ h', St h' → Ar h' s.vl true 1 s.OL.length s.os := fun h' hst => hs.oss.ar.frame (fun b hb => stB hst b (hs.oss.ar.blk_lt hb) (hs.ob b hb)) (stn hst)
  have hiO : i < s.OL.length := by rw [← hs.oss.len]; exact hio
  obtain ⟨xa, x1, _⟩ := (slS h1 St1).idx (e := 3) (eb := 8) (k := .i64) (ti := tiI) his rfl
  obtain ⟨yb, yo, y1, _⟩ := (arS h1 St1).idx (e := 24) (eb := 24) (z := some [.nils]) (k := .i64) hiO
  have x2 : ∀ h', St h' → loadA h' tiI xa = some (.int .i64 s.hs[i]) := fun h' hst => by
    obtain ⟨xa', z1, z2⟩ := (slS h' hst).idx (e := 3) (eb := 8) (k := .i64) (ti := tiI) his rfl
    rw [x1] at z1; cases z1; exact z2
  have y2 : ∀ h', St h' → loadA h' tiS (.ptr yb yo) = some s.os[i] := fun h' hst => by
    obtain ⟨yb', yo', z1, z2⟩ := (arS h' hst).idx (e := 24) (eb := 24) (z := some [.nils]) (k := .i64) hiO
    rw [y1] at z1; cases z1
    exact z2 0 (by decide) rfl (by rw [Nat.mul_one, Nat.add_zero, nth_eq]; exact hu)
  obtain ⟨vss, hats⟩ := hs.oss.val i _ _ (List.getElem?_eq_getElem hiO) hu
  refine sC_seq (sC_cut (s' := [(33, .bool (match v with | .bool b => !b | _ => false)), (5, .int .i64 (.ofNat i)), (0, .yld s.LB2), (1, .ptr g0 0), (2, .ptr g1 0), (3, .ptr g2 0)]) (h' := h2) ?_ (sQ_seq ?_))
  · refine sC_drawA false St hle (by kernel_rfl) (by kernel_rfl) (by kernel_rfl) ?_
    refine sS_pure St1 rfl (gotG_none rfl) rfl rfl (v := .yld s.LB2) rfl (by simp [avEq]) (sS_quiet St1 rfl (gotG_none rfl) rfl rfl hs.sl.avEq (fun h' hst => op_load rfl ti22 (l0 h' hst)) (sS_pure St1 rfl (gotG_none rfl) rfl rfl (v := .int .i64 (.ofNat i)) rfl avEq_int ?_))
    refine sS_pure St1 rfl (gotG_none rfl) rfl rfl (h1 := h1) (op_indexAddr (v := xa) rfl (by rw [tkE22]; exact x1)) (avEq_load (x2 h1 St1)) (sS_quiet St1 rfl (gotG_none rfl) rfl rfl avEq_int (fun h' hst => op_load rfl ti3 (x2 h' hst)) ?_)
    refine sS_quiet St1 rfl (gotG_none rfl) rfl rfl hs.oss.ar.avEq (fun h' hst => op_load rfl ti23 (l1 h' hst)) (sS_pure St1 rfl (gotG_none rfl) rfl rfl (v := .int .i64 (.ofNat i)) rfl avEq_int ?_)
    refine sS_pure St1 rfl (gotG_none rfl) rfl rfl (h1 := h1) (op_indexAddr (v := .ptr yb yo) rfl (by rw [tkE23]; exact y1)) avEq_ptr (sS_quiet St1 rfl (gotG_none rfl) rfl rfl hats.ar.avEq (fun h' hst => op_load rfl ti24 (y2 h' hst)) ?_)
    refine sS_loud St1 rfl (gotG_none rfl) rfl rfl (op_yield rfl rfl rfl r1) ?_
    rcases r2 with ⟨rfl, _⟩ | ⟨rfl, _⟩
    · exact sS_pure St2 rfl (gotG_none rfl) rfl rfl (h1 := h2) (v := .bool false) rfl avEq_bool (sS_nil ⟨St2, sQ_cut ⟨rfl, rfl, rfl, rfl, rfl, rfl, trivial⟩⟩)
    · exact sS_pure St2 rfl (gotG_none rfl) rfl rfl (h1 := h2) (v := .bool true) rfl avEq_bool (sS_nil ⟨St2, sQ_cut ⟨rfl, rfl, rfl, rfl, rfl, rfl, trivial⟩⟩)
  rcases r2 with ⟨rfl, hI2⟩ | ⟨rfl, hS⟩
  · refine sC_false rfl rfl (sC_skip (sQ_seq ?_))
    refine sC_region (sO_op hle rfl rfl rfl rfl (sO_op hle rfl rfl rfl (inc_eq (i := i) (by omega) rfl rfl rfl) (sO_op hle rfl rfl rfl rfl (sO_nil ?_))))
    intro tm k1 k2
    exact ⟨q - 1, _, by omega, ⟨i+1, by omega, rfl, hI2⟩, k1, k2.sub ⟨rfl, rfl, rfl, rfl, rfl, trivial⟩⟩
  · refine sC_true rfl rfl (sC_ret ?_)
    exact sQ_end (R := fun _ h' => PI s s.K s.K h' ∨ Stop s h') (.inr rfl) rfl (.inr hS)
end Go.Proofs.Ytgafbagehjmipaa

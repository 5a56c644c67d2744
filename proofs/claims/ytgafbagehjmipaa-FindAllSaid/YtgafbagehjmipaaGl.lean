/- find: Filter, whole; what FindAll hands it. -/
import Derived.Test.YtgafbagehjmipaaGk
namespace Go.Proofs.Ytgafbagehjmipaa
open Bly

theorem fn11 : E0.func 11 = some Try.f11 := by kernel_rfl
theorem fn12 : E0.func 12 = some Try.f12 := by kernel_rfl
/-- What holds when Filter's function is called. -/
structure Pre (s : Phs) (bO g0 g1 g2 : Nat) (h0 : H) : Prop where
  pos : s.p.Ok
  u1 : s.p.cC < s.bU
  u2 : s.bU < s.p.cK
  t1 : s.p.cC < s.bT
  t2 : s.bT < s.p.cK
  o1 : s.p.cC < bO
  o2 : bO < s.p.cK
  a0 : s.p.cC < g0
  b0 : g0 < s.p.cK
  a1 : s.p.cC < g1
  b1 : g1 < s.p.cK
  a2 : s.p.cC < g2
  b2 : g2 < s.p.cK
  n0 : s.tm0.n = 146
  hh0 : Holds s.tm0 s.p.sl
  o : h0.get bO = some (.cells [.fn 23 [.ptr g0 0, .ptr g1 0, .ptr g2 0]] 1 true)
  c0 : h0.get g0 = some (.cells [s.v0] 1 true)
  c1 : h0.get g1 = some (.cells [s.vl] 1 true)
  c2 : h0.get g2 = some (.cells [.ptr s.p.cC 0] 1 true)
  u : h0.get s.bU = some (.cells [.bool s.user] 1 true)
  t : h0.get s.bT = some (.cells [s.vt] 1 true)
  kept : Kept s.hB h0
  hBn : s.hB.next ≤ s.p.cW
  oss : Oss s.hB s.vl true true true s.OL s.os
  ts : Ats s.hB s.vt true true s.T s.us
  sl : Sl s.hB s.v0 false s.hs
  small : ∀ L ∈ s.OL, L.length ≤ 10 ∧ ∀ a ∈ L, a.2.length ≤ 100000
  smallT : s.T.length ≤ 3
  smallH : s.hs.length ≤ 20
  smallO : s.OL.length ≤ 20
  lb : s.p.LB < h0.next
  room : h0.next + 30010 ≤ HM
  sb : ∀ b, blk s.v0 = some b → b ≠ s.p.cR
  ob : ∀ b, blk s.vl = some b → b ≠ s.p.cR
  vars : Vars s.p s.most s.W s.A 0 0 h0
  l0 : h0.get s.p.LB = some (rec0 s.tm0 .ready none)
/-- How it ends: all is found, or the law's loop stopped. -/
def Fin (s : Phs) (h : H) : Prop :=
  (h.get s.p.LB = some (rec0 s.tm0 .ready none) ∧ Vars s.p s.most s.W s.A s.K (s.hits s.K).length h) ∨ (h.get s.p.LB = some (rec0 s.tm0 .done (some .ret)) ∧ h.get s.p.cR = some (.cells [.bool true] 1 true))
theorem filter1_eq {fuel n : Nat} {s : Phs} {bO g0 g1 g2 : Nat} {h0 : H} (hp : Pre s bO g0 g1 g2 h0) (hf : 100 < fuel) :
    ∃ v h', callA E0 O6 fuel (n+7) (.fn 21 []) [.yld s.p.LB, .ptr bO 0, .ptr s.bU 0, .ptr s.bT 0] h0 = some (v, h') ∧ Fin s h' := by
  refine s_callO rfl fn21 rfl rfl rfl ?_
  have hle : Try.f21.ntmps ≤ 512 := by decide
  have hpos := hp.pos
  obtain ⟨q1, q2, q3, q4, q5, q6, q7, q8⟩ := hp.pos
  have hlb := hp.lb
  have hroom := hp.room
  have ho2 := hp.o2
  obtain ⟨h1, e1⟩ : ∃ h1, h1 = h0.alc (.cells [.yld s.p.LB] 1 true) := ⟨_, rfl⟩
  have hlt0 : h0.next < HM := by omega
  have k1 : Kept h0 h1 := by rw [e1]; exact Kept.alc hlt0
  have n1 : h1.next = h0.next + 1 := by rw [e1]; rfl
  have e1g : ∀ {r : Operand → AV} {q : Oper} {x : Operand} {call : Caller}, q.op = .box 53 x → r x = .yld s.p.LB → opA E0 call r q h0 = some (.ptr h0.next 0, h1) := fun {r q x call} hq hx => by
    have := op_box (E := E0) (call := call) (r := r) (h := h0) (cs := [.yld s.p.LB]) hq (by rw [hx]; rfl) hlt0
    rw [this, e1]; rfl
  have lO : h1.get bO = some (.cells [.fn 23 [.ptr g0 0, .ptr g1 0, .ptr g2 0]] 1 true) := (k1.2 _ (by omega)).trans hp.o
  refine sC_seq (sC_region (sO_op hle rfl rfl rfl (e1g rfl rfl) (sO_nil (sQ_seq ?_))))
  refine sC_seq (sC_seq (sC_region (sO_op hle rfl rfl rfl (op_load rfl ti34 (loadA_cell rfl lO rfl)) (sO_op hle rfl rfl rfl (op_bin (v := .bool false) rfl (by rw [tkE34]; rfl)) (sO_nil (sQ_seq ?_))))))
  refine sC_false rfl rfl (sC_skip (sQ_seq ?_))
  refine sC_seq (sC_region (sO_op hle rfl rfl rfl (op_load rfl ti34 (loadA_cell rfl lO rfl)) (sO_nil (sQ_seq ?_))))
  refine sC_block (sC_range (f := 23) (cap := [.ptr g0 0, .ptr g1 0, .ptr g2 0]) rfl rfl (by omega) ?_)
  intro tm m1 m2
  have hlt1 : h1.next < HM := by omega
  obtain ⟨hP, eP⟩ : ∃ hP, hP = h1.alc (.loop ⟨.ready, none, 21, tm, [10, 11], (rngOf Try.f21).1, (rngOf Try.f21).2⟩) := ⟨_, rfl⟩
  have kP : Kept h1 hP := by rw [eP]; exact Kept.alc hlt1
  have nP : hP.next = h0.next + 2 := by rw [eP, next_alc, n1]
  have k0P := k1.trans kP
  obtain ⟨s', es⟩ : ∃ s' : Phs, s' = { s with LB2 := h1.next, bY := h0.next, tm1 := tm, hP := hP } := ⟨_, rfl⟩
  have gu := (k0P.2 s.bU (by have := hp.u2; omega)).trans hp.u
  have gt := (k0P.2 s.bT (by have := hp.t2; omega)).trans hp.t
  have gl0 := (k0P.2 s.p.LB (by omega)).trans hp.l0
  have gvars : Vars s.p s.most s.W s.A 0 0 hP := hp.vars.frame hp.pos (fun b hb => k0P.2 b (by omega)) k0P.1
  have hok : s'.Ok := by
    rw [es]
    exact { pos := hp.pos, y1 := hp.lb, y2 := by show h0.next < h1.next; omega, u1 := hp.u1, u2 := hp.u2, t1 := hp.t1, t2 := hp.t2, n0 := hp.n0, h0 := hp.hh0, n1 := m1, h1 := m2.sub ⟨rfl, rfl, rfl, trivial⟩,
            y := by
              show hP.get h0.next = _
              rw [kP.2 _ (by omega), e1, get_alc hlt0, if_pos rfl],
            u := gu, t := gt, kept := hp.kept.trans k0P, hBn := hp.hBn, oss := hp.oss, ts := hp.ts, sl := hp.sl, small := hp.small,
            smallT := hp.smallT, smallH := hp.smallH, smallO := hp.smallO, hPn := by show h1.next < hP.next; omega, room := by show hP.next + 30000 ≤ HM; omega, sb := hp.sb, ob := hp.ob }
  have hI0 : PI s' 0 0 hP := by
    rw [es]
    exact ⟨fun b _ _ _ _ _ => rfl, gvars, gl0, by
      show hP.get h1.next = _
      rw [eP, get_alc hlt1, if_pos rfl]; rfl, Nat.le_refl _, Nat.le_refl _⟩
  obtain ⟨v, h', r1, r2⟩ := given1_eq (fuel := fuel) (n := n) hok (g0 := g0) (g1 := g1) (g2 := g2) hf hI0 (by rw [es]; exact hp.a0) (by rw [es]; exact hp.b0) (by rw [es]; exact hp.a1) (by rw [es]; exact hp.b1) (by rw [es]; exact hp.a2) (by rw [es]; exact hp.b2)
    (by rw [es]; exact (k0P.2 _ (by have := hp.b0; omega)).trans hp.c0) (by rw [es]; exact (k0P.2 _ (by have := hp.b1; omega)).trans hp.c1) (by rw [es]; exact (k0P.2 _ (by have := hp.b2; omega)).trans hp.c2)
  have elb : s'.LB2 = h1.next := by rw [es]
  have etm : s'.tm1 = tm := by rw [es]
  rw [elb] at r1
  rw [eP] at r1
  refine ⟨v, h', r1, ?_⟩
  have hLm : h1.next < HM := by omega
  have hne : ∀ {b o}, b ≠ h1.next → (h'.put h1.next o).get b = h'.get b := fun {b o} hb => gpn hLm hb
  rcases r2 with hI | hS
  · refine ⟨_, by rw [← elb]; exact hI.l1, fun e => (by cases e), ?_⟩
    refine ⟨.inl rfl, [], rfl, .inl ⟨(hne (by omega)).trans (by have := hI.l0; rw [es] at this; exact this), ?_⟩⟩
    have hv := hI.vars
    rw [es] at hv
    exact hv.frame hp.pos (fun b hb => hne (by omega)) (Nat.le_refl _)
  · refine ⟨_, by rw [← elb]; exact hS.l1, fun e => (by cases e), ?_⟩
    refine ⟨.inr rfl, [], rfl, .inr ⟨(hne (by omega)).trans (by have := hS.l0; rw [es] at this; exact this), (hne (by omega)).trans (by have := hS.r; rw [es] at this; exact this)⟩⟩
/-- given. -/
theorem given_eq {fuel n : Nat} {h : H} {v0 vl : AV} {c : Nat} (h0 : cellsV v0 = some [v0]) (hl : cellsV vl = some [vl]) (hlt : h.next + 3 ≤ HM) :
    ∃ v h', callA E0 O6 fuel (n+1) (.fn 12 []) [v0, vl, .ptr c 0] h = some (v, h') ∧ v = .fn 23 [.ptr h.next 0, .ptr (h.next+1) 0, .ptr (h.next+2) 0] ∧ Kept h h' ∧ h'.next = h.next + 3 ∧
      h'.get h.next = some (.cells [v0] 1 true) ∧ h'.get (h.next+1) = some (.cells [vl] 1 true) ∧ h'.get (h.next+2) = some (.cells [.ptr c 0] 1 true) := by
  refine s_callO rfl fn12 rfl rfl rfl ?_
  have hle : Try.f12.ntmps ≤ 512 := by decide
  obtain ⟨h1, e1⟩ : ∃ h1, h1 = h.alc (.cells [v0] 1 true) := ⟨_, rfl⟩
  obtain ⟨h2, e2⟩ : ∃ h2, h2 = h1.alc (.cells [vl] 1 true) := ⟨_, rfl⟩
  obtain ⟨h3, e3⟩ : ∃ h3, h3 = h2.alc (.cells [.ptr c 0] 1 true) := ⟨_, rfl⟩
  have n1 : h1.next = h.next + 1 := by rw [e1]; rfl
  have n2 : h2.next = h.next + 2 := by rw [e2, next_alc, n1]
  have n3 : h3.next = h.next + 3 := by rw [e3, next_alc, n2]
  have l0 : h.next < HM := by omega
  have l1 : h1.next < HM := by omega
  have l2 : h2.next < HM := by omega
  have k1 : Kept h h1 := by rw [e1]; exact Kept.alc l0
  have k2 : Kept h1 h2 := by rw [e2]; exact Kept.alc l1
  have k3 : Kept h2 h3 := by rw [e3]; exact Kept.alc l2
  have b1 : ∀ {r : Operand → AV} {q : Oper} {x : Operand} {t : Nat} {call : Caller}, q.op = .box t x → r x = v0 → opA E0 call r q h = some (.ptr h.next 0, h1) := fun {r q x t call} hq hx => by
    have := op_box (E := E0) (call := call) (r := r) (h := h) (cs := [v0]) hq (by rw [hx]; exact h0) l0
    rw [this, e1]; rfl
  have b2 : ∀ {r : Operand → AV} {q : Oper} {x : Operand} {t : Nat} {call : Caller}, q.op = .box t x → r x = vl → opA E0 call r q h1 = some (.ptr (h.next+1) 0, h2) := fun {r q x t call} hq hx => by
    have := op_box (E := E0) (call := call) (r := r) (h := h1) (cs := [vl]) hq (by rw [hx]; exact hl) l1
    rw [this, e2, n1]; rfl
  have b3 : ∀ {r : Operand → AV} {q : Oper} {x : Operand} {t : Nat} {call : Caller}, q.op = .box t x → r x = .ptr c 0 → opA E0 call r q h2 = some (.ptr (h.next+2) 0, h3) := fun {r q x t call} hq hx => by
    have := op_box (E := E0) (call := call) (r := r) (h := h2) (cs := [.ptr c 0]) hq (by rw [hx]; rfl) l2
    rw [this, e3, n2]; rfl
  refine sC_seq (sC_region (sO_op hle rfl rfl rfl (b1 rfl rfl) (sO_op hle rfl rfl rfl (b2 rfl rfl) (sO_op hle rfl rfl rfl (b3 rfl rfl) (sO_op hle rfl rfl rfl rfl (sO_nil (sQ_seq ?_)))))))
  refine sC_seq (sC_region (sO_op hle rfl rfl rfl rfl (sO_op hle rfl rfl rfl rfl (sO_nil (sQ_seq (sC_ret ?_))))))
  refine sQ_end (.inr rfl) rfl ⟨rfl, k1.trans (k2.trans k3), n3, ?_, ?_, ?_⟩
  · rw [k3.2 _ (by omega), k2.2 _ (by omega), e1, get_alc l0, if_pos rfl]
  · rw [k3.2 _ (by omega), e2, get_alc l1, if_pos n1.symm]
  · rw [e3, get_alc l2, if_pos n2.symm]
/-- Filter. -/
theorem filter_eq {fuel n : Nat} {h : H} {f : AV} {vt : AV} {user : Bool} (hf : cellsV f = some [f]) (ht : cellsV vt = some [vt]) (hlt : h.next + 3 ≤ HM) :
    ∃ v h', callA E0 O6 fuel (n+1) (.fn 11 []) [f, vt, .bool user] h = some (v, h') ∧ v = .fn 21 [.ptr h.next 0, .ptr (h.next+2) 0, .ptr (h.next+1) 0] ∧ Kept h h' ∧ h'.next = h.next + 3 ∧
      h'.get h.next = some (.cells [f] 1 true) ∧ h'.get (h.next+1) = some (.cells [vt] 1 true) ∧ h'.get (h.next+2) = some (.cells [.bool user] 1 true) := by
  refine s_callO rfl fn11 rfl rfl rfl ?_
  have hle : Try.f11.ntmps ≤ 512 := by decide
  obtain ⟨h1, e1⟩ : ∃ h1, h1 = h.alc (.cells [f] 1 true) := ⟨_, rfl⟩
  obtain ⟨h2, e2⟩ : ∃ h2, h2 = h1.alc (.cells [vt] 1 true) := ⟨_, rfl⟩
  obtain ⟨h3, e3⟩ : ∃ h3, h3 = h2.alc (.cells [.bool user] 1 true) := ⟨_, rfl⟩
  have n1 : h1.next = h.next + 1 := by rw [e1]; rfl
  have n2 : h2.next = h.next + 2 := by rw [e2, next_alc, n1]
  have n3 : h3.next = h.next + 3 := by rw [e3, next_alc, n2]
  have l0 : h.next < HM := by omega
  have l1 : h1.next < HM := by omega
  have l2 : h2.next < HM := by omega
  have k1 : Kept h h1 := by rw [e1]; exact Kept.alc l0
  have k2 : Kept h1 h2 := by rw [e2]; exact Kept.alc l1
  have k3 : Kept h2 h3 := by rw [e3]; exact Kept.alc l2
  have b1 : ∀ {r : Operand → AV} {q : Oper} {x : Operand} {t : Nat} {call : Caller}, q.op = .box t x → r x = f → opA E0 call r q h = some (.ptr h.next 0, h1) := fun {r q x t call} hq hx => by
    have := op_box (E := E0) (call := call) (r := r) (h := h) (cs := [f]) hq (by rw [hx]; exact hf) l0
    rw [this, e1]; rfl
  have b2 : ∀ {r : Operand → AV} {q : Oper} {x : Operand} {t : Nat} {call : Caller}, q.op = .box t x → r x = vt → opA E0 call r q h1 = some (.ptr (h.next+1) 0, h2) := fun {r q x t call} hq hx => by
    have := op_box (E := E0) (call := call) (r := r) (h := h1) (cs := [vt]) hq (by rw [hx]; exact ht) l1
    rw [this, e2, n1]; rfl
  have b3 : ∀ {r : Operand → AV} {q : Oper} {x : Operand} {t : Nat} {call : Caller}, q.op = .box t x → r x = .bool user → opA E0 call r q h2 = some (.ptr (h.next+2) 0, h3) := fun {r q x t call} hq hx => by
    have := op_box (E := E0) (call := call) (r := r) (h := h2) (cs := [.bool user]) hq (by rw [hx]; rfl) l2
    rw [this, e3, n2]; rfl
  refine sC_seq (sC_region (sO_op hle rfl rfl rfl (b1 rfl rfl) (sO_op hle rfl rfl rfl (b2 rfl rfl) (sO_op hle rfl rfl rfl (b3 rfl rfl) (sO_op hle rfl rfl rfl rfl (sO_nil (sQ_seq ?_)))))))
  refine sC_seq (sC_region (sO_op hle rfl rfl rfl rfl (sO_op hle rfl rfl rfl rfl (sO_nil (sQ_seq (sC_ret ?_))))))
  refine sQ_end (.inr rfl) rfl ⟨rfl, k1.trans (k2.trans k3), n3, ?_, ?_, ?_⟩
  · rw [k3.2 _ (by omega), k2.2 _ (by omega), e1, get_alc l0, if_pos rfl]
  · rw [k3.2 _ (by omega), e2, get_alc l1, if_pos n1.symm]
  · rw [e3, get_alc l2, if_pos n2.symm]
end Go.Proofs.Ytgafbagehjmipaa

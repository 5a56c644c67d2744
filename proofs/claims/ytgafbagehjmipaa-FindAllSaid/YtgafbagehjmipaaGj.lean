/- find: Filter's body, and the objects that are given, gone over by it. -/
import Derived.Test.YtgafbagehjmipaaGi
namespace Go.Proofs.Ytgafbagehjmipaa
open Bly

theorem fn21 : E0.func 21 = some Try.f21 := by kernel_rfl
theorem fn23 : E0.func 23 = some Try.f23 := by kernel_rfl
/-- All that the search goes over. -/
structure Phs where
  p : Pos
  LB2 : Nat
  bY : Nat
  bU : Nat
  bT : Nat
  tm0 : Tm
  tm1 : Tm
  hB : H
  hP : H
  user : Bool
  most : Int
  hs : List Int
  OL : List (List Att)
  T : List Att
  v0 : AV
  vl : AV
  vt : AV
  os : List AV
  us : List AV
def hitOf (OL : List (List Att)) (T : List Att) (user : Bool) (j : Nat) : Bool := match OL[j]? with | some L => (user || !flagL L 2) && matchL L T | none => false
def hitsOf (OL : List (List Att)) (T : List Att) (user : Bool) (i : Nat) : List Nat := (List.range i).filter (hitOf OL T user)
def wOf (hs : List Int) (l : List Nat) : List Int := l.map fun j => hs.getD j 0
def aOf (l : List Nat) : List Int := l.map fun j => Int.ofNat (j+1)
theorem hitsOf_succ {OL : List (List Att)} {T : List Att} {user : Bool} {i : Nat} : hitsOf OL T user (i+1) = hitsOf OL T user i ++ (if hitOf OL T user i = true then [i] else []) := by
  unfold hitsOf
  rw [List.range_succ, List.filter_append]
  congr 1
  cases h : hitOf OL T user i <;> simp [h]
theorem hitsOf_split {OL : List (List Att)} {T : List Att} {user : Bool} {j : Nat} (hj : hitOf OL T user j = true) : ∀ d : Nat, ∃ rest, hitsOf OL T user (j + 1 + d) = hitsOf OL T user j ++ j :: rest
  | 0 => ⟨[], by rw [Nat.add_zero, hitsOf_succ, if_pos hj]⟩
  | d+1 => by
    obtain ⟨rest, h⟩ := hitsOf_split hj d
    exact ⟨rest ++ (if hitOf OL T user (j + 1 + d) = true then [j + 1 + d] else []), by rw [← Nat.add_assoc, hitsOf_succ, h]; simp⟩
def Phs.K (s : Phs) : Nat := min s.hs.length s.OL.length
def Phs.hits (s : Phs) (i : Nat) : List Nat := hitsOf s.OL s.T s.user i
def Phs.W (s : Phs) : List Int := wOf s.hs (s.hits s.K)
def Phs.A (s : Phs) : List Int := aOf (s.hits s.K)
theorem Phs.hits_le (s : Phs) (i : Nat) : (s.hits i).length ≤ i := by
  have := List.length_filter_le (hitOf s.OL s.T s.user) (List.range i)
  simpa [Phs.hits, hitsOf] using this
theorem Phs.at_hit (s : Phs) {j : Nat} (hj : j < s.K) (hh : hitOf s.OL s.T s.user j = true) : ∃ (h1 : (s.hits j).length < s.W.length) (h2 : (s.hits j).length < s.A.length), s.W[(s.hits j).length] = s.hs.getD j 0 ∧ s.A[(s.hits j).length] = ((j + 1 : Nat) : Int) := by
  obtain ⟨rest, e⟩ := hitsOf_split hh (s.K - (j+1))
  rw [show j + 1 + (s.K - (j+1)) = s.K by omega] at e
  have e : s.hits s.K = s.hits j ++ j :: rest := e
  have hw : s.W = (s.hits j).map (fun j => s.hs.getD j 0) ++ s.hs.getD j 0 :: rest.map (fun j => s.hs.getD j 0) := by unfold Phs.W wOf; rw [e]; simp
  have ha : s.A = (s.hits j).map (fun j => Int.ofNat (j+1)) ++ Int.ofNat (j+1) :: rest.map (fun j => Int.ofNat (j+1)) := by unfold Phs.A aOf; rw [e]; simp
  refine ⟨by rw [hw]; simp, by rw [ha]; simp, ?_, ?_⟩
  · simp only [hw]; rw [List.getElem_append_right (by simp)]; simp
  · simp only [ha]; rw [List.getElem_append_right (by simp)]; simp
structure Phs.Ok (s : Phs) : Prop where
  pos : s.p.Ok
  y1 : s.p.LB < s.bY
  y2 : s.bY < s.LB2
  u1 : s.p.cC < s.bU
  u2 : s.bU < s.p.cK
  t1 : s.p.cC < s.bT
  t2 : s.bT < s.p.cK
  n0 : s.tm0.n = 146
  h0 : Holds s.tm0 s.p.sl
  n1 : s.tm1.n = 26
  h1 : Holds s.tm1 [(2, .ptr s.bU 0), (3, .ptr s.bT 0), (4, .ptr s.bY 0)]
  y : s.hP.get s.bY = some (.cells [.yld s.p.LB] 1 true)
  u : s.hP.get s.bU = some (.cells [.bool s.user] 1 true)
  t : s.hP.get s.bT = some (.cells [s.vt] 1 true)
  kept : Kept s.hB s.hP
  hBn : s.hB.next ≤ s.p.cW
  oss : Oss s.hB s.vl true true true s.OL s.os
  ts : Ats s.hB s.vt true true s.T s.us
  sl : Sl s.hB s.v0 false s.hs
  small : ∀ L ∈ s.OL, L.length ≤ 10 ∧ ∀ a ∈ L, a.2.length ≤ 100000
  smallT : s.T.length ≤ 3
  smallH : s.hs.length ≤ 20
  smallO : s.OL.length ≤ 20
  hPn : s.LB2 < s.hP.next
  room : s.hP.next + 30000 ≤ HM
  sb : ∀ b, blk s.v0 = some b → b ≠ s.p.cR
  ob : ∀ b, blk s.vl = some b → b ≠ s.p.cR
noncomputable def rec1 (tm1 : Tm) (st : LoopState) (pd : Option AEx) : AObj := .loop ⟨st, pd, 21, tm1, [10, 11], (rngOf Try.f21).1, (rngOf Try.f21).2⟩
/-- Behind i objects; c of them are counted. -/
structure PI (s : Phs) (i c : Nat) (hx : H) : Prop where
  fr : ∀ b, b < s.hP.next → b ≠ s.p.cC → b ≠ s.p.cK → b ≠ s.p.LB → b ≠ s.LB2 → hx.get b = s.hP.get b
  vars : Vars s.p s.most s.W s.A c (s.hits i).length hx
  l0 : hx.get s.p.LB = some (rec0 s.tm0 .ready none)
  l1 : hx.get s.LB2 = some (rec1 s.tm1 .ready none)
  lo : s.hP.next ≤ hx.next
  hi : hx.next ≤ s.hP.next + 100 * i
structure Stop (s : Phs) (hx : H) : Prop where
  fr : ∀ b, b < s.hP.next → b ≠ s.p.cC → b ≠ s.p.cK → b ≠ s.p.LB → b ≠ s.LB2 → b ≠ s.p.cR → hx.get b = s.hP.get b
  lo : s.hP.next ≤ hx.next
  l0 : hx.get s.p.LB = some (rec0 s.tm0 .done (some .ret))
  l1 : hx.get s.LB2 = some (rec1 s.tm1 .done (some .ret))
  r : hx.get s.p.cR = some (.cells [.bool true] 1 true)
theorem PI.kept {s : Phs} (hs : s.Ok) {i c : Nat} {hx : H} (hI : PI s i c hx) : Kept s.hB hx := by
  obtain ⟨_, _, _, _, _, _, _, _⟩ := hs.pos
  have := hs.kept.1
  have := hs.hBn
  have := hs.y1
  have := hs.y2
  exact ⟨by have := hI.lo; omega, fun b hb => by rw [hI.fr b (by omega) (by omega) (by omega) (by omega) (by omega)]; exact hs.kept.2 b hb⟩
/-- One object more, to Filter's body. -/
theorem body1 {fuel n : Nat} {s : Phs} (hs : s.Ok) {j : Nat} {u : AV} {hx : H} (hf : 100 < fuel) (hI : PI s j (j+1) hx) (hj : j < s.K) (hu : s.os[j]? = some u) :
    ∃ v h', callA E0 O6 fuel (n+5) (.yld s.LB2) [.int .i64 (s.hs.getD j 0), u] hx = some (v, h') ∧ ((v = .bool true ∧ PI s (j+1) (j+1) h') ∨ (v = .bool false ∧ Stop s h')) := by
  have hpos := hs.pos
  obtain ⟨q1, q2, q3, q4, q5, q6, q7, q8⟩ := hs.pos
  have hy1 := hs.y1
  have hy2 := hs.y2
  have hPn := hs.hPn
  have hroom := hs.room
  have hlo := hI.lo
  have hhi := hI.hi
  have hjk : j < s.OL.length := by unfold Phs.K at hj; omega
  have hj20 : j < 20 := by have := hs.smallO; omega
  obtain ⟨L, eL⟩ : ∃ L, s.OL[j]? = some L := ⟨_, List.getElem?_eq_getElem hjk⟩
  obtain ⟨hsm1, hsm2⟩ := hs.small L (List.mem_of_getElem? eL)
  have hsT := hs.smallT
  have hl1 := hI.l1
  unfold rec1 at hl1
  refine yield_eqO hl1 rfl ?_
  have hle : (26 : Nat) ≤ 512 := by decide
  obtain ⟨S1, eS1⟩ : ∃ S1 : SL, S1 = [(2, .ptr s.bU 0), (3, .ptr s.bT 0), (4, .ptr s.bY 0)] := ⟨_, rfl⟩
  have hput : Holds (putAll [10, 11] [.int .i64 (s.hs.getD j 0), u] s.tm1) [(11, u), (10, .int .i64 (s.hs.getD j 0)), (2, .ptr s.bU 0), (3, .ptr s.bT 0), (4, .ptr s.bY 0)] :=
    Holds.upd (n := 26) (by rw [tm_n_putO]; exact hs.n1) hle (Holds.upd hs.n1 hle hs.h1 (d := some 10) rfl _) (d := some 11) rfl _
  have hputn : (putAll [10, 11] [.int .i64 (s.hs.getD j 0), u] s.tm1).n = 26 := (n_put).trans ((n_put).trans hs.n1)
  refine (show sC E0 (callA E0 O6 fuel (n+4)) 21 fuel 26 [(11, u), (10, .int .i64 (s.hs.getD j 0)), (2, .ptr s.bU 0), (3, .ptr s.bT 0), (4, .ptr s.bY 0)] (rngOf Try.f21).1 hx _ from ?_) _ hputn hput
  refine sC_seq (sC_region (sO_op hle rfl rfl rfl rfl (sO_nil (sQ_seq (sC_region (sO_op hle rfl rfl rfl rfl (sO_nil ?_)))))))
  intro tm2 k1 k2
  refine ⟨_, hl1, rfl, ?_⟩
  obtain ⟨hb, ehb⟩ : ∃ hb, hb = hx.put s.LB2 (.loop { (⟨.ready, none, 21, s.tm1, [10, 11], (rngOf Try.f21).1, (rngOf Try.f21).2⟩ : LoopR) with state := .busy }) := ⟨_, rfl⟩
  have hB : s.LB2 < HM := by omega
  have gb : ∀ b, b ≠ s.LB2 → hb.get b = hx.get b := fun b hne => by rw [ehb, gpn hB hne]
  have hbn : hb.next = hx.next := by rw [ehb]; rfl
  have hbl : hb.get s.LB2 = some (rec1 s.tm1 .busy none) := by rw [ehb, gpe hB]; rfl
  rw [← ehb]
  have hkx := hI.kept hs
  have hkb : Kept s.hB hb := ⟨by rw [hbn]; exact hkx.1, fun b hb' => by rw [gb b (by have := hs.hBn; omega)]; exact hkx.2 b hb'⟩
  obtain ⟨vs, ha⟩ := hs.oss.val j L u eL hu
  obtain ⟨_, h1, r1, e1, n1, n2, n3⟩ := seen_eq (fuel := fuel) (n := n) (user := s.user) (ha.keep hkb) (by omega) (by omega) hsm2 (by omega)
  rw [e1] at r1
  have kb1 : Kept hb h1 := ⟨n1, n3⟩
  -- cells at hb and behind
  have cU : hb.get s.bU = some (.cells [.bool s.user] 1 true) := by rw [gb _ (by have := hs.u2; omega), hI.fr _ (by have := hs.u2; omega) (by have := hs.u1; omega) (by have := hs.u2; omega) (by have := hs.u2; omega) (by have := hs.u2; omega)]; exact hs.u
  have cT : hb.get s.bT = some (.cells [s.vt] 1 true) := by rw [gb _ (by have := hs.t2; omega), hI.fr _ (by have := hs.t2; omega) (by have := hs.t1; omega) (by have := hs.t2; omega) (by have := hs.t2; omega) (by have := hs.t2; omega)]; exact hs.t
  have cY : hb.get s.bY = some (.cells [.yld s.p.LB] 1 true) := by rw [gb _ (by omega), hI.fr _ (by omega) (by omega) (by omega) (by omega) (by omega)]; exact hs.y
  -- where no yield comes: everything is as it was
  have calm : ∀ {h' : H}, Kept hb h' → h'.next ≤ hb.next + 70 → hitOf s.OL s.T s.user j = false → PI s (j+1) (j+1) (h'.put s.LB2 (rec1 s.tm1 .ready none)) := by
    intro h' hk hn hh
    have hg : ∀ b, b < hx.next → b ≠ s.LB2 → (h'.put s.LB2 (rec1 s.tm1 .ready none)).get b = hx.get b := fun b h1 h2 => by rw [gpn hB h2, hk.2 b (by omega), gb b h2]
    have hz : s.hits (j+1) = s.hits j := by unfold Phs.hits; rw [hitsOf_succ, hh]; simp
    have hk1 := hk.1
    refine ⟨fun b b1 b2 b3 b4 b5 => (hg b (by omega) b5).trans (hI.fr b b1 b2 b3 b4 b5), ?_, (hg _ (by omega) (by omega)).trans hI.l0, gpe hB, ?_, ?_⟩
    · rw [hz]; exact hI.vars.frame hpos (fun b hb' => hg b (by omega) (by omega)) (by show hx.next ≤ h'.next; omega)
    · show s.hP.next ≤ h'.next; omega
    · show h'.next ≤ _; omega
  have hitj : hitOf s.OL s.T s.user j = ((s.user || !flagL L 2) && matchL L s.T) := by unfold hitOf; rw [eL]
  refine (show sC E0 (callA E0 O6 fuel (n+4)) 21 fuel 26 [(6, u), (5, .int .i64 (s.hs.getD j 0)), (11, u), (10, .int .i64 (s.hs.getD j 0)), (2, .ptr s.bU 0), (3, .ptr s.bT 0), (4, .ptr s.bY 0)] (rngOf Try.f21).2 hb _ from ?_) tm2 k1 k2
  refine sC_block (sC_seq (sC_region ?_))
  refine sO_op hle rfl rfl rfl rfl (sO_op hle rfl rfl rfl (op_load rfl ti4 (loadA_cell rfl cU rfl)) (sO_op hle rfl rfl rfl (op_call (f := 9) (cap := []) rfl rfl rfl r1) (sO_op hle rfl rfl rfl rfl ?_)))
  cases hseen : (s.user || !flagL L 2) with
  | false =>
    refine sO_skip hle rfl rfl rfl rfl rfl rfl (sO_skip hle rfl rfl rfl rfl rfl rfl (sO_skip hle rfl rfl rfl rfl rfl rfl (sO_op hle rfl rfl rfl (v := .bool false) rfl (sO_op hle rfl rfl rfl rfl ?_))))
    refine sO_skip hle rfl rfl rfl rfl rfl rfl (sO_skip hle rfl rfl rfl rfl rfl rfl (sO_skip hle rfl rfl rfl rfl rfl rfl (sO_skip hle rfl rfl rfl rfl rfl rfl (sO_op hle rfl rfl rfl (v := .bool false) rfl (sO_nil (sQ_seq ?_))))))
    refine sC_false rfl rfl (sC_skip ?_)
    intro tm3 _ _
    refine ⟨_, (kb1.2 _ (by omega)).trans hbl, ?_⟩
    simp only [jumpOf]
    exact .inl ⟨trivial, calm kb1 (by omega) (by rw [hitj, hseen]; rfl)⟩
  | true =>
    obtain ⟨_, h2, r2, e2, m1, m2, m3⟩ := match_eq (fuel := fuel) (n := n+1) ((ha.keep hkb).keep kb1) ((hs.ts.keep hkb).keep kb1) (by omega) (by omega) (by omega) (by omega) hsm2 (by omega)
    rw [e2] at r2
    have k12 : Kept h1 h2 := ⟨m1, m3⟩
    have kb2 : Kept hb h2 := kb1.trans k12
    have hmm : s.T.length * (L.length + 3) ≤ 3 * 13 := Nat.mul_le_mul (by omega) (by omega)
    refine sO_do hle rfl rfl rfl rfl rfl rfl rfl (sO_do hle rfl rfl rfl rfl rfl rfl (op_load (v := s.vt) rfl ti24 (loadA_cell rfl ((kb1.2 _ (by have := hs.t2; omega)).trans cT) rfl)) (sO_do hle rfl rfl rfl rfl rfl rfl (op_call (f := 22) (cap := []) rfl rfl rfl r2) (sO_op hle rfl rfl rfl (v := .bool (matchL L s.T)) rfl (sO_op hle rfl rfl rfl rfl ?_))))
    cases hmatch : matchL L s.T with
    | false =>
      refine sO_skip hle rfl rfl rfl rfl rfl rfl (sO_skip hle rfl rfl rfl rfl rfl rfl (sO_skip hle rfl rfl rfl rfl rfl rfl (sO_skip hle rfl rfl rfl rfl rfl rfl (sO_op hle rfl rfl rfl (v := .bool false) rfl (sO_nil (sQ_seq ?_))))))
      refine sC_false rfl rfl (sC_skip ?_)
      intro tm3 _ _
      refine ⟨_, (kb2.2 _ (by omega)).trans hbl, ?_⟩
      simp only [jumpOf]
      exact .inl ⟨trivial, calm kb2 (by omega) (by rw [hitj, hseen, hmatch]; rfl)⟩
    | true =>
      have hh : hitOf s.OL s.T s.user j = true := by rw [hitj, hseen, hmatch]; rfl
      obtain ⟨w1, w2, w3, w4⟩ := s.at_hit hj hh
      have hg2 : ∀ b, b < hx.next → b ≠ s.LB2 → h2.get b = hx.get b := fun b h1 h2 => by rw [kb2.2 b (by omega), gb b h2]
      have k21 := kb2.1
      have vars2 : Vars s.p s.most s.W s.A (j+1) (s.hits j).length h2 := hI.vars.frame hpos (fun b hb' => hg2 b (by omega) (by omega)) (by omega)
      obtain ⟨v3, h3, r3, z1, z2, z3, z4⟩ := body0 (fuel := fuel) (n := n+3) hpos hs.n0 hs.h0 ((hg2 _ (by omega) (by omega)).trans hI.l0) vars2 w1 w2 (by have := s.hits_le j; omega) w4
      rw [w3] at r3
      have lY : h2.get s.bY = some (.cells [.yld s.p.LB] 1 true) := (kb2.2 _ (by omega)).trans cY
      have l2 : h3.get s.LB2 = some (rec1 s.tm1 .busy none) := (z2 _ (by omega) (by omega) (by omega)).trans ((kb2.2 _ (by omega)).trans hbl)
      refine sO_do hle rfl rfl rfl rfl rfl rfl (op_load rfl ti53 (loadA_cell rfl lY rfl)) (sO_do hle rfl rfl rfl rfl rfl rfl rfl (sO_do hle rfl rfl rfl rfl rfl rfl (op_yield rfl rfl rfl r3) ?_))
      rcases z4 with ⟨rfl, hne, z5, z6⟩ | ⟨rfl, z5, z6⟩
      · refine sO_do hle rfl rfl rfl rfl rfl rfl (v := .bool false) rfl (sO_op hle rfl rfl rfl (v := .bool false) rfl (sO_nil (sQ_seq ?_)))
        refine sC_false rfl rfl (sC_skip ?_)
        intro tm3 _ _
        refine ⟨_, l2, ?_⟩
        simp only [jumpOf]
        refine .inl ⟨trivial, ?_⟩
        have hz : s.hits (j+1) = s.hits j ++ [j] := by unfold Phs.hits; rw [hitsOf_succ, hh]; rfl
        have hzl : (s.hits (j+1)).length = (s.hits j).length + 1 := by rw [hz]; simp
        have hR : h3.get s.p.cR = hx.get s.p.cR := z6.trans (hg2 _ (by omega) (by omega))
        have hg3 : ∀ b, b < hx.next → b ≠ s.LB2 → b ≠ s.p.cK → b ≠ s.p.LB → (h3.put s.LB2 (rec1 s.tm1 .ready none)).get b = hx.get b := fun b b1 b2 b3 b4 => by
          rw [gpn hB b2]
          by_cases e : b = s.p.cR
          · rw [e]; exact hR
          · rw [z2 b b3 e b4]; exact hg2 b b1 b2
        show PI s (j+1) (j+1) (h3.put s.LB2 (rec1 s.tm1 .ready none))
        refine ⟨fun b b1 b2 b3 b4 b5 => (hg3 b (by omega) b5 b3 b4).trans (hI.fr b b1 b2 b3 b4 b5), ?_, (gpn hB (by omega)).trans z5, gpe hB, ?_, ?_⟩
        · obtain ⟨m, r, is, ⟨vw, a1, a2, a3⟩, ⟨va, b1, b2, b3⟩, c, k⟩ := hI.vars
          refine ⟨(hg3 _ (by omega) (by omega) (by omega) (by omega)).trans m, ?_, (hg3 _ (by omega) (by omega) (by omega) (by omega)).trans is, ⟨vw, (hg3 _ (by omega) (by omega) (by omega) (by omega)).trans a1, ?_, a3⟩, ⟨va, (hg3 _ (by omega) (by omega) (by omega) (by omega)).trans b1, ?_, b3⟩,
            (hg3 _ (by omega) (by omega) (by omega) (by omega)).trans c, ?_⟩
          · obtain ⟨x, r⟩ := r; exact ⟨x, (hg3 _ (by omega) (by omega) (by omega) (by omega)).trans r⟩
          · exact a2.frame (fun b hb' => by have := a3 b hb'; exact hg3 b (by omega) (by omega) (by omega) (by omega)) (by show hx.next ≤ h3.next; omega)
          · exact b2.frame (fun b hb' => by have := b3 b hb'; exact hg3 b (by omega) (by omega) (by omega) (by omega)) (by show hx.next ≤ h3.next; omega)
          · rw [hzl]; exact (gpn hB (by omega)).trans z3
        · show s.hP.next ≤ h3.next; omega
        · show h3.next ≤ _; omega
      · refine sO_do hle rfl rfl rfl rfl rfl rfl (v := .bool true) rfl (sO_op hle rfl rfl rfl (v := .bool true) rfl (sO_nil (sQ_seq ?_)))
        refine sC_true rfl rfl (sC_ret ?_)
        intro tm3 _ _
        refine ⟨_, l2, ?_⟩
        simp only [jumpOf]
        refine .inr ⟨trivial, fun b b1 b2 b3 b4 b5 b6 => ?_, by show s.hP.next ≤ h3.next; omega, (gpn hB (by omega)).trans z5, gpe hB, (gpn hB (by omega)).trans z6⟩
        exact (gpn hB b5).trans ((z2 b b3 b6 b4).trans ((hg2 b (by omega) b5).trans (hI.fr b b1 b2 b3 b4 b5)))
end Go.Proofs.Ytgafbagehjmipaa

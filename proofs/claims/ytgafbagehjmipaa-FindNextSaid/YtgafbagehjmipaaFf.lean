/- 'baileylaw23.FindNext': the law answers true at every call. No condition. -/
import Derived.Test.YtgafbagehjmipaaFe
import Derived.ProofKit
namespace Go.Proofs.Ytgafbagehjmipaa
open Go.ChangeShapes Go.WideShapes Go.ChangeAt Go.RowKit

theorem Try.own : ownKnob Try.prog.godebug = none := by kernel_rfl
theorem Try.laidOut : laidOutB Try.prog = true := by kernel_rfl
theorem Try.mixed : Try.prog.follows .mixedOrders = true := by kernel_rfl
theorem Try.noNumB : (Try.prog.funcs.toList.all fun fn => !(fn.name == "runtime.NumGoroutine")) = true := by kernel_rfl
theorem Try.noNum : Bly.NoNum Try.prog := fun f fn hf => by
  have := List.all_eq_true.1 Try.noNumB fn (by have := Array.mem_of_getElem? hf; simpa using this)
  simpa using this
theorem Try.types4096 : Try.prog.types.size ≤ 4096 := of_decide_eq_true (by kernel_rfl)
theorem Try.funcs4096 : Try.prog.funcs.size ≤ 4096 := of_decide_eq_true (by kernel_rfl)
theorem Try.cells3 : Try.prog.cellsOf 3 = 1 := by kernel_rfl

/-- A slice of integers that came in: block 'id' of the evaluator's. -/
structure ArgOf (W : World) (id : Nat) (v : Value) (av : Bly.AV) (o : Option Bly.AObj) (pl : Option Bly.Pl) (L : List Int) : Prop where
  vr : ∀ (φ : Bly.Phi) (ρ : Nat → UInt8), (∀ p, pl = some p → φ id = some p) → Bly.VR φ ρ av v
  obj : ∀ (φ : Bly.Phi) (ρ : Nat → UInt8) ob, o = some ob → ∃ p, pl = some p ∧ Bly.OR φ ρ W p ob ∧ ob.rw = false
  lt : ∀ p, pl = some p → p.blk < W.heap.size
  sl : ∀ h : Bly.H, h.get id = o → id < h.next → Bly.Sl h av false L
theorem arg_open {H : Type} {enc : TypeId × Value → H} {W : World} {v : Value} {d : DataW H} {ps : List MemPlace} (id : Nat) (hok : Value.okWide Try.prog W .any 0 22 v) (ht : DataW.Trod enc Try.prog W 0 (fun _ => true) true 22 v d ps) :
    ∃ av o pl L, ArgOf W id v av o pl L := by
  obtain ⟨a0, len0, cap0, rfl⟩ := okWide_slice Try.underlying22 hok
  obtain ⟨fuel, hf⟩ := ht
  rcases open_ints Try.underlying22 Try.underlying3 Try.cells3 hf with ⟨hcs, _⟩ | ⟨a, len, cap, zs, hcs, _, hl, hm, hz, _, hcell, _⟩
  · have : Value.slice a0 len0 cap0 = .slice none 0 0 := by simpa [Value.cells] using hcs
    rw [this]
    exact ⟨.nils, none, none, [], fun _ _ _ => .nils, fun _ _ _ h => (by cases h), fun _ h => (by cases h), fun _ _ _ => Bly.Sl.nil⟩
  · have e : Value.slice a0 len0 cap0 = .slice (some a) len cap := by simpa [Value.cells] using hcs
    rw [e] at hok ⊢
    have hok' : a.spot = none ∧ ∃ c e' fr, W.heap[a.block]? = some (.cells c e' fr) := by
      simp only [Value.okWide, Try.underlying22, Cell.okWide, Cell.ok, World.has] at hok
      obtain ⟨_, _, _, hsp, row, cells, hsh, _⟩ := hok
      refine ⟨hsp, ?_⟩
      unfold World.shape? at hsh
      split at hsh
      · rename_i c e' fr hh; exact ⟨c, e', fr, hh⟩
      · cases hsh
    obtain ⟨hsp, c, e', fr, hheap⟩ := hok'
    have hblt : a.block < W.heap.size := (Array.getElem?_eq_some_iff.1 hheap).1
    have hzl : zs.length = cap := by simpa using hz
    have ha : a = ⟨a.block, a.off, none⟩ := by cases a; simp at hsp; rw [hsp]
    have hci : ∀ i, i < zs.length → c[a.off + i]? = some (.int .i64 (zs.getD i 0)) := fun i hi => by
      have := hcell i hi
      rw [ha, Bly.addr_add] at this
      simpa [World.cell?, hheap] using this
    by_cases hc0 : cap = 0
    · refine ⟨.slice id 0 0 1, some (.cells [] 0 false), some ⟨a.block, 0, c.size⟩, [], fun φ ρ hφ => ?_, fun φ ρ ob h => ?_, fun p h => ?_, fun h hg hlt => ?_⟩
      · have hl0 : len = 0 := by omega
        rw [hl0]
        exact .slice (hφ _ rfl) (.inr ⟨rfl, hc0⟩)
      · cases h
        exact ⟨_, rfl, ⟨rfl, by simp, fun x hx => (by cases hx), c, ⟨e', fr, hheap, rfl, fun h => (by cases h)⟩, .nil⟩, rfl⟩
      · cases h; exact hblt
      · exact .inr ⟨id, ⟨0, [], 0, rfl, hg, by simp, rfl, rfl⟩, hlt⟩
    · have hsz : a.off + cap ≤ c.size := by
        have := hci (cap - 1) (by omega)
        have := (Array.getElem?_eq_some_iff.1 this).1
        omega
      have hlist : ((c.toList.drop a.off).take zs.length) = zs.map (Value.int .i64) := by
        apply List.ext_getElem?
        intro i
        rw [List.getElem?_take, List.getElem?_map]
        split
        · rename_i hi
          rw [List.getElem?_drop, Array.getElem?_toList, hci i hi]
          simp [List.getD, hi]
        · rename_i hi
          rw [List.getElem?_eq_none (by omega)]; rfl
      have hvrs : ∀ (φ : Bly.Phi) (ρ : Nat → UInt8) (l : List Int), Bly.VRs φ ρ (l.map (Bly.AV.int .i64)) (l.map (Value.int .i64)) := fun φ ρ l => Bly.VRs.map _ _ (fun x => .int _ _) l
      refine ⟨.slice id 0 len 1, some (.cells (zs.map (Bly.AV.int .i64)) zs.length false), some ⟨a.block, a.off, c.size⟩, zs.take len, fun φ ρ hφ => ?_, fun φ ρ ob h => ?_, fun p h => ?_, fun h hg hlt => ?_⟩
      · exact .slice (hφ _ rfl) (.inl ⟨by simpa using ha, hl, by simp; omega⟩)
      · cases h
        refine ⟨_, rfl, ⟨by simp, by simp; omega, fun x hx => ?_, c, ⟨e', fr, hheap, rfl, fun h => (by cases h)⟩, ?_⟩, rfl⟩
        · obtain ⟨z, _, rfl⟩ := List.mem_map.1 hx; rfl
        · rw [hlist]; exact hvrs φ ρ zs
      · cases h; exact hblt
      · have htl : (zs.take len).length = len := by simp; omega
        refine .inr ⟨id, ⟨0, _, zs.length, by rw [htl], hg, by rw [htl]; simp; omega, by simp, ?_⟩, hlt⟩
        rw [List.drop_zero, htl, List.map_take]

theorem findNext_any {W : World} {v0 v1 : Value} {a0 a1 : Bly.AV} {o0 o1 : Option Bly.AObj} {p0 p1 : Option Bly.Pl} {L N : List Int} (h0 : ArgOf W 0 v0 a0 o0 p0 L) (h1 : ArgOf W 1 v1 a1 o1 p1 N) :
    Calls Try.prog 4 #[v0, v1] W fun e W' => e = .returned (.bool true) ∧ Below W.heap.size W W' := by
  have hg : ∀ k, (H2 o0 o1).get k = if k = 1 then o1 else if k = 0 then o0 else none := by
    intro k
    unfold Bly.H.get
    by_cases hk : k < Bly.HM
    · rw [Bly.blt_true.2 hk]
      show (Bly.T.set Bly.HD (Bly.T.set Bly.HD .e 0 o0) 1 o1).get Bly.HD k = _
      rw [Bly.T.get_set Bly.HD _ _ _ _ (by decide) hk, Bly.T.get_set Bly.HD _ _ _ _ (by decide) hk]
      rfl
    · rw [Bly.blt_false.2 hk]
      have h2 : (1048576 : Nat) ≤ k := by have : Bly.HM = 1048576 := by decide
                                          omega
      rw [if_neg (by omega), if_neg (by omega)]
  have s0 : Bly.Sl (H2 o0 o1) a0 false L := h0.sl _ (by rw [hg]; rfl) (by show 0 < 2; omega)
  have s1 : Bly.Sl (H2 o0 o1) a1 false N := h1.sl _ (by rw [hg]; rfl) (by show 1 < 2; omega)
  obtain ⟨v', h', hrun, rfl⟩ := findNext_eq s0 s1
  obtain ⟨φ, hφ⟩ : ∃ φ : Bly.Phi, φ = fun b => if b = 0 then p0 else if b = 1 then p1 else none := ⟨_, rfl⟩
  have φ0 : φ 0 = p0 := by rw [hφ]; rfl
  have φ1 : φ 1 = p1 := by rw [hφ]; rfl
  have hw : Bly.WR W.heap.size 0 φ (fun _ => 0) (H2 o0 o1) W := by
    have hobj : ∀ b o, (H2 o0 o1).get b = some o → ∃ p, φ b = some p ∧ Bly.OR φ (fun _ => 0) W p o ∧ o.rw = false := by
      intro b o hb
      rw [hg] at hb
      split at hb
      · rename_i e; subst e
        obtain ⟨p, e1, e2, e3⟩ := h1.obj φ (fun _ => 0) o hb
        exact ⟨p, φ1.trans e1, e2, e3⟩
      · split at hb
        · rename_i e; subst e
          obtain ⟨p, e1, e2, e3⟩ := h0.obj φ (fun _ => 0) o hb
          exact ⟨p, φ0.trans e1, e2, e3⟩
        · cases hb
    refine ⟨fun b o hb => ?_, fun b b' o o' p p' hb _ _ _ hr => ?_, fun b hb => ?_, fun b p hb => ?_, Nat.le_refl _, fun g hg => by omega⟩
    · obtain ⟨p, e1, e2, e3⟩ := hobj b o hb
      exact ⟨p, e1, e2, fun h => by rw [e3] at h; cases h⟩
    · obtain ⟨_, _, _, e3⟩ := hobj b o hb
      rw [e3] at hr; cases hr
    · have hb : 2 ≤ b := hb
      rw [hφ]
      show (if b = 0 then p0 else if b = 1 then p1 else none) = none
      rw [if_neg (by omega), if_neg (by omega)]
    · by_cases e0 : b = 0
      · subst e0; exact h0.lt p (φ0.symm.trans hb)
      · by_cases e1 : b = 1
        · subst e1; exact h1.lt p (φ1.symm.trans hb)
        · rw [hφ] at hb
          have hb : (if b = 0 then p0 else if b = 1 then p1 else none) = some p := hb
          rw [if_neg e0, if_neg e1] at hb; cases hb
  have hc := Bly.call_ok (E := E0) (ng := 0) (B := W.heap.size) (ρ := fun _ => 0) Try.mixed (Bly.env_ok (ng := 0) Try.types4096 Try.funcs4096) Try.noNum rfl Bly.noOrc_ok (fuel := 10000) 21
  have hargs : Bly.VRs φ (fun _ => 0) [a0, a1] [v0, v1] := .cons (h0.vr _ _ (fun p hp => φ0.trans hp)) (.cons (h1.vr _ _ (fun p hp => φ1.trans hp)) .nil)
  refine (callsIn_wide (n := 0)).1 (CallsIn.mono (hc.fn hrun hw hargs).2 ?_)
  rintro e w' ⟨v', φ', rfl, hst, _, hv⟩
  cases hv
  exact ⟨rfl, hst.low⟩

set_option maxRecDepth 100000 in
theorem findNext_lifted (os : Os) (started : os.Started) (H : Type) (enc : TypeId × Value → H) :
    ReturnsInHanded {} Try.checked os 4 .any (Rows.findNextSpec.pre6 enc Try.prog Try.f4 Rows.findNextRow.domain false) (Rows.findNextSpec.post enc Try.prog Try.f4 false true false false) := by
  refine returnsInHanded_of_change (C := Try.checked) Try.own started (by kernel_rfl) Try.func4
    (ChangeSpec.witness6 (enc := enc) (C := Try.checked) false ⟨#[], #[.slice none 0 0, .slice none 0 0], []⟩ 8 (by kernel_rfl) (by kernel_rfl) (by kernel_rfl) (by kernel_rfl)) ?_
  intro W base args ds gs before hval0 hW hcnd _
  have hval : ∀ (j : Nat) t v, Try.f4.params[j]? = some t → args[j]? = some v → Value.okWide Try.prog W .any base t v := hval0
  have hW' := hW
  have hlt := hW.lt
  obtain ⟨p, q, hA0, hV, rfl, hfz, hnd⟩ := hW
  have hA : DataW.TrodAll enc Try.prog W 0 (fun _ => true) true Try.f4.params.toList args.toList ds p := hA0
  rw [Try.params4] at hA hval
  obtain ⟨v0, v1, d0, d1, p0, p1, rfl, rfl, rfl, h0, h1⟩ := trodAll_two hA
  obtain ⟨rfl, rfl⟩ := trodVars_none hV
  obtain ⟨a0, o0, q0, L, g0⟩ := arg_open 0 (hval 0 22 v0 rfl rfl) h0
  obtain ⟨a1, o1, q1, N, g1⟩ := arg_open 1 (hval 1 22 v1 rfl rfl) h1
  refine (findNext_any g0 g1).mono fun e W' ⟨he, hb⟩ => ?_
  subst he
  refine ⟨_, rfl, Bly.post_of_below (pa := p0 ++ p1) (pv := []) hW' hb (fun _ _ _ => trodAll_mk1 (shut_bool Try.underlying4 true)) (fun sp hsp => ?_) (fun _ _ => rfl) rfl
    (ok_one (by kernel_rfl) rfl (okWide_bool_mk Try.underlying4 true))⟩
  rw [Try.params4]
  exact trodAll_mk2 (WideElems.Trod_stays Try.laidOut (by kernel_rfl) (of_decide_eq_true (by kernel_rfl)) h0 (fun x hx => hb.same (hlt x (by simp [hx]))) (fun x hx => hsp x (by simp [hx])))
    (WideElems.Trod_stays Try.laidOut (by kernel_rfl) (of_decide_eq_true (by kernel_rfl)) h1 (fun x hx => hb.same (hlt x (by simp [hx]))) (fun x hx => hsp x (by simp [hx])))
theorem findNext_holds : Rows.FindNextSaid :=
  OpenClaim.holds_of_wide 4 Try.f4 rfl rfl rfl rfl rfl rfl rfl ⟨rfl, rfl, rfl, rfl, rfl⟩ rfl rfl rfl rfl rfl (by kernel_rfl) Try.func4 (by kernel_rfl)
    (of_decide_eq_true (by kernel_rfl)) (by unfold Func.isWrapper; first | (rw [if_pos (by decide +kernel)]; kernel_rfl) | (rw [if_neg (by decide +kernel)]; exact ⟨rfl, rfl⟩))
    (fun os started H enc _ => findNext_lifted os started H enc)
#print axioms findNext_holds
end Go.Proofs.Ytgafbagehjmipaa

/- Code, in a walk. -/
import Derived.Test.YtgafbagehjmipaaBlyX
import Derived.LoopNIn
import Derived.Scope
namespace Bly
open Go Go.RowKit

variable {P : Program} {E : Env} {w w' : World} {φ φ' : Phi} {ρ : Nat → UInt8} {B ng : Nat} {h h' : H} {call : Caller} {ro : Option Nat} {s0 : Nat}

def exOf : AEx → Exit
  | .normal => .normal
  | .exit id => .exit id
  | .goto l => .goto l
  | .ret => .ret

/-! ### Blocks that are not told -/
theorem WR.foreign (hw : WR B ng φ ρ h w) (hs : w.heap.size ≤ w'.heap.size) (hk : ∀ b p, φ b = some p → w'.heap[p.blk]? = w.heap[p.blk]?) : WR B ng φ ρ h w' :=
  ⟨fun b o hb => let ⟨p, hp, ho, hr⟩ := hw.obj b o hb; ⟨p, hp, ho.keep (.refl φ) (hk b p hp), hr⟩, hw.inj, hw.dom, fun b p hp => Nat.lt_of_lt_of_le (hw.lt b p hp) hs, Nat.le_trans hw.low hs, hw.glob⟩
theorem WR.alloc_foreign (hw : WR B ng φ ρ h w) (o : Obj) : WR B ng φ ρ h (w.alloc o) ∧ Step B φ w φ (w.alloc o) :=
  ⟨hw.foreign (by simp) fun b p hp => Below.heap_alloc w o p.blk (hw.lt b p hp),
   ⟨.refl φ, fun b p h => .inl ⟨b, p, h, rfl⟩, (Below.refl B w).alloc hw.low o, fun k hk _ => Below.heap_alloc w o k hk, fun k r hk => ⟨r, (Below.heap_alloc w o k (Array.getElem?_eq_some_iff.1 hk).1).trans hk⟩⟩⟩

/-- The marks on an activation's deferred calls: their blocks are nobody's. -/
def Marks (s0 : Nat) (φ : Phi) (w : World) : List Deferred → Prop
  | [] => True
  | d :: ds => (∃ D, d = { target := .collected D, args := #[] } ∧ s0 ≤ D ∧ w.heap[D]? = some (.deferred (some [])) ∧ (∀ b p, φ b = some p → p.blk ≠ D) ∧ (∀ d' ∈ ds, d'.target ≠ .collected D)) ∧ Marks s0 φ w ds
theorem Marks.step (hst : Step B φ w φ' w') : ∀ {ds}, Marks s0 φ w ds → Marks s0 φ' w' ds
  | [], _ => trivial
  | d :: ds, ⟨⟨D, h1, h2, h3, h4, h5⟩, ht⟩ => by
    have hD : D < w.heap.size := (Array.getElem?_eq_some_iff.1 h3).1
    refine ⟨⟨D, h1, h2, (hst.frame D hD h4).trans h3, fun b p hp e => ?_, h5⟩, ht.step hst⟩
    rcases hst.img b p hp with ⟨b0, p0, h0, e0⟩ | hge
    · exact h4 b0 p0 h0 (e0.trans e)
    · omega
theorem Marks.mem : ∀ {ds}, Marks s0 φ w ds → ∀ d ∈ ds, ∃ D, d.target = .collected D ∧ D < w.heap.size
  | d :: ds, ⟨⟨D, h1, _, h3, _⟩, ht⟩, d', hd => by
    rcases List.mem_cons.1 hd with rfl | hd
    · exact ⟨D, by rw [h1], (Array.getElem?_eq_some_iff.1 h3).1⟩
    · exact ht.mem d' hd
structure Ctx (ro : Option Nat) (s0 : Nat) (φ : Phi) (w : World) (ds : List Deferred) : Prop where
  marks : Marks s0 φ w ds
  round : ∀ l, ro = some l → ∃ r : Loop, w.heap[l]? = some (.loop r)
  low : s0 ≤ w.heap.size
theorem Ctx.step {ds} (hst : Step B φ w φ' w') (hx : Ctx ro s0 φ w ds) : Ctx ro s0 φ' w' ds :=
  ⟨hx.marks.step hst, fun l hl => let ⟨r, hr⟩ := hx.round l hl; hst.loops l r hr, Nat.le_trans hx.low hst.low.size⟩

/-- What a walk owes behind a piece of code. -/
def ThenX (B ng : Nat) (ro : Option Nat) (s0 : Nat) (φ : Phi) (ρ : Nat → UInt8) (w : World) (h' : H) (tm' : Tm) (K : Act → World → Prop) : Prop :=
  ∀ a' w' φ', Step B φ w φ' w' → WR B ng φ' ρ h' w' → TR φ' ρ tm' a'.tmps → Ctx ro s0 φ' w' a'.defers → K a' w'
theorem ThenX.then {tm' : Tm} {K : Act → World → Prop} {a : Act} (hx : Ctx ro s0 φ w a.defers) (hk : ThenX B ng ro s0 φ ρ w h' tm' K) : Then B ng φ ρ w h' tm' a.defers K :=
  fun a' w' φ' h1 h2 h3 h4 => hk a' w' φ' h1 h2 h3 (by rw [h4]; exact hx.step h1)
theorem ThenX.after {w1 : World} {φ1 : Phi} {tm' : Tm} {K : Act → World → Prop} (h1 : Step B φ w φ1 w1) (hk : ThenX B ng ro s0 φ ρ w h' tm' K) : ThenX B ng ro s0 φ1 ρ w1 h' tm' K :=
  fun a' w' φ' g1 g2 g3 g4 => hk a' w' φ' (h1.trans g1) g2 g3 g4

/-! ### A scope through which the run goes without a jump to a label -/
theorem stepR_scope {b : Frame} {a : Act} {k : List Item} {cs : List Frame} {c : Code} : Go.step P (lone (b.atR a (.code (.scope c) :: k)) cs w) = .next (lone (b.atR a (.code c :: .inScope c :: k)) cs w) :=
  step_lone_go (by simp [stepG, stepG.exec, Frame.atR])
theorem stepR_inScope {b : Frame} {a : Act} {k : List Item} {cs : List Frame} {c : Code} : Go.step P (lone (b.atR a (.inScope c :: k)) cs w) = .next (lone (b.atR a k) cs w) :=
  step_lone_go (by simp [stepG, stepG.exec, Frame.atR])
theorem wpIn_scope {F : Fence} {n : Nat} {c : Code} {Q : Exit → Act → World → Prop} {a : Act} (h : c.wpIn F n P (Exit.noGoto Q) a w) : (Code.scope c).wpIn F n P Q a w := by
  intro b k cs hro hb hr
  have h0 : (lone (b.atR a (.code (.scope c) :: k)) cs w).fenced P F := fenced_calm hb hr rfl
  obtain ⟨e, a₁, w₁, hq, harr⟩ := h b (.inScope c :: k) cs hro hb hr
  cases e with
  | normal => exact ⟨.normal, a₁, w₁, hq, .head h0 stepR_scope (StepsIn.trans harr (.one (fenced_calm hb hr rfl) stepR_inScope))⟩
  | exit id =>
    have hx : exitTo id (.inScope c :: k) = exitTo id k := by simp [exitTo]
    exact ⟨.exit id, a₁, w₁, hq, fun k' hk => .head h0 stepR_scope (harr.1 k' (by rw [hx]; exact hk)),
      fun hr' hk => let ⟨k₁, h1, h2⟩ := harr.2 hr' (by rw [hx]; exact hk); ⟨k₁, h1, .head h0 stepR_scope h2⟩⟩
  | goto l => exact hq.elim
  | ret => exact ⟨_, a₁, w₁, hq, .of_steps (.one h0 stepR_scope) harr⟩
  | panic ch => exact ⟨_, a₁, w₁, hq, .of_steps (.one h0 stepR_scope) harr⟩
  | outgrown => exact ⟨_, a₁, w₁, hq, .of_steps (.one h0 stepR_scope) harr⟩

/-! ### A range over a function -/
theorem range_end {F : Fence} {n : Nat} {Q : Exit → Act → World → Prop} {a : Act} {p : Option AEx} (hK : Q (exOf (p.getD .normal)) a w) :
    ∀ jump : Option Code, jump = p.map exCode → (match jump with | none => Q .normal a w | some c => c.wpIn F n P Q a w) := by
  rintro jump rfl
  cases p with
  | none => exact hK
  | some ex =>
    cases ex with
    | normal => exact wpIn_skip hK
    | exit id => exact wpIn_exit hK
    | goto l => exact wpIn_goto hK
    | ret => exact wpIn_ret hK
/-- The call, and what comes behind it. -/
theorem range_sound (hc : CallerOK P B ng ρ call) {fid : Nat} {g : Operand} {ps : Array Tmp} {as body : Code} {Q : Exit → Act → World → Prop} {tm : Tm} {a : Act} {f : Nat} {cap : List AV}
    (hw : WR B ng φ ρ h w) (hx : Ctx ro s0 φ w a.defers) (ht : TR φ ρ tm a.tmps) (hg : VR φ ρ (.fn f cap) (a.eval g))
    {l : Nat} {h1 h2 : H} {v : AV} {r : LoopR} {ex : AEx} (hn : h.new (.loop ⟨.ready, none, fid, tm, ps.toList, as, body⟩) = some (l, h1)) (hcall : call (.fn f []) (.yld l :: cap) h1 = some (v, h2))
    (hl : h2.get l = some (.loop r)) (hb : r.state ≠ .busy) (hex : ex = r.pending.getD .normal)
    (hk : ThenX B ng ro s0 φ ρ w (h2.put l (.loop { r with state := .exhausted })) tm (Q (exOf ex))) :
    (Code.rangeFunc g ps as body).wpIn (Fr ro) 0 P Q a w := by
  cases hge : a.eval g with
  | func fn first captured =>
    rw [hge] at hg
    cases hg with
    | fn hcap =>
      rename_i cs
      refine wpIn_rangeFunc fun fn _ => ?_
      -- the record, whichever loop encloses
      obtain ⟨mark, wl, w1, D, hent, hw1, hst1, hx1, hsz, hDl⟩ : ∃ (mark : List Deferred) (wl w1 : World) (D : Nat), (Instr.enterLoop fn a.tmps ps as body (Fr ro).round).run P w = .ok (wl.heap.size, mark) w1 ∧
          WR B ng φ ρ h wl ∧ Step B φ w φ wl ∧ (∀ φ' w', Step B φ wl φ' w' → Ctx ro s0 φ' w' (mark ++ a.defers)) ∧ w1 = wl.alloc (.loop { state := .ready, pending := none, fn, tmps := a.tmps, params := ps, assign := as, body, defers := D }) ∧ True := by
        cases hro : ro with
        | none =>
          obtain ⟨g1, g2⟩ := hw.alloc_foreign (.deferred (some []))
          refine ⟨_, w.alloc (.deferred (some [])), _, w.heap.size, by rw [World.size_alloc]; exact run_enterLoop_outer fn a.tmps ps as body, g1, g2, fun φ' w' hs => ?_, rfl, trivial⟩
          refine Ctx.step hs ⟨⟨⟨w.heap.size, rfl, hx.low, World.alloc_heap_new w _, fun b p hp e => ?_, fun d' hd e => ?_⟩, hx.marks.step g2⟩, fun l hl => (by cases hl), (by have := hx.low; rw [World.size_alloc]; omega)⟩
          · have := hw.lt b p hp; omega
          · obtain ⟨D', h1, h2⟩ := hx.marks.mem d' hd
            rw [h1] at e; cases e; omega
        | some l0 =>
          obtain ⟨r0, hr0⟩ := hx.round l0 hro
          refine ⟨[], w, _, r0.defers, run_enterLoop_inner hr0 fn a.tmps ps as body, hw, .refl B φ w, fun φ' w' hs => ?_, rfl, trivial⟩
          rw [← hro]; exact hx.step hs
      obtain ⟨hl1, hlt1, hnx, hget⟩ := H.new_eq hn
      have hnew := hw1.new (ob := .loop { state := .ready, pending := none, fn, tmps := a.tmps, params := ps, assign := as, body, defers := D }) (sz := 0) hn (by
        refine ⟨_, World.alloc_heap_new _ _, ?_⟩
        exact ⟨rfl, rfl, ht.mono (Phi.put_le (hw1.dom _ (by omega))), rfl, rfl, rfl⟩)
      rw [← hsz] at hnew
      obtain ⟨hw2, hst2⟩ := hnew
      have hphi : (φ.put l ⟨wl.heap.size, 0, 0⟩) l = some ⟨wl.heap.size, 0, 0⟩ := Phi.put_same
      have hargs : VRs (φ.put l ⟨wl.heap.size, 0, 0⟩) ρ (.yld l :: cap) (.func (.yield wl.heap.size) #[] #[] :: cs) := .cons (.yld hphi) (hcap.mono hst2.ext)
      obtain ⟨henters, hcalls⟩ := hc.fn hcall hw2 hargs
      refine ⟨wl.heap.size, mark, w1, { target := .fn (.func f) cs.toArray, args := #[.func (.yield wl.heap.size) #[] #[]] }, w1, f, #[.func (.yield wl.heap.size) #[] #[]] ++ cs.toArray, w1, hent, ?_, fun _ _ => trivial, ?_, fun hd => ?_, ?_⟩
      · simp only [resolve, hge]
        simp [go_sem]
      · simp [invoke, go_sem, henters _ _]
      · simp [Fr, Fence.wide] at hd
      · have e1 : (#[.func (.yield wl.heap.size) #[] #[]] ++ cs.toArray : Array Value) = (.func (.yield wl.heap.size) #[] #[] :: cs).toArray := by simp
        rw [e1]
        refine CallsIn.mono hcalls ?_
        rintro e w3 ⟨v', φ3, rfl, hst3, hw3, _⟩
        obtain ⟨p, hp, ⟨lr, hlr, hok⟩, _⟩ := hw3.obj l _ hl
        have hp' : p = ⟨wl.heap.size, 0, 0⟩ := by
          have := hst3.ext _ _ hphi; rw [hp] at this; cases this; rfl
        subst hp'
        have hend := run_endLoop (P := P) hlr (by rw [hok.state]; exact hb)
        obtain ⟨hw4, hst4⟩ := hw3.put hl rfl hp (ob := .loop { lr with state := .exhausted }) (o' := .loop { r with state := .exhausted })
          ⟨_, World.putObj_heap_same (hw3.lt _ _ hp), ⟨rfl, hok.pending, hok.tm, hok.params, hok.assign, hok.body⟩⟩ (fun _ _ => ⟨_, rfl⟩)
        have hall : Step B φ wl φ3 _ := (hst2.trans hst3).trans hst4
        refine ⟨lr.pending, _, hend, range_end ?_ lr.pending hok.pending⟩
        rw [← hex]
        exact hk { a with defers := mark ++ a.defers } _ φ3 (hst1.trans hall) hw4 (ht.mono (hst1.trans hall).ext) (hx1 _ _ hall)
  | _ => rw [hge] at hg; cases hg

/-! ### Code -/
theorem code_sound (hP : P.follows .mixedOrders = true) (hE : EnvOK P E) (hng : E.ng = ng) (hc : CallerOK P B ng ρ call) {fid fuel : Nat} : ∀ (c : Code) {tm tm' : Tm} {h h' : H} {ex : AEx} {w : World} {φ : Phi} {a : Act} {Q : Exit → Act → World → Prop},
    codeA E call fid fuel c tm h = some (ex, tm', h') → WR B ng φ ρ h w → TR φ ρ tm a.tmps → Ctx ro s0 φ w a.defers → ThenX B ng ro s0 φ ρ w h' tm' (Q (exOf ex)) → c.wpIn (Fr ro) 0 P Q a w := by
  intro c
  induction c with
  | skip =>
    intro tm tm' h h' ex w φ a Q hs hw ht hx hk
    simp only [codeA, Option.some.injEq, Prod.mk.injEq] at hs
    obtain ⟨rfl, rfl, rfl⟩ := hs
    exact wpIn_skip (hk a w φ (.refl B φ w) hw ht hx)
  | label l =>
    intro tm tm' h h' ex w φ a Q hs hw ht hx hk
    simp only [codeA, Option.some.injEq, Prod.mk.injEq] at hs
    obtain ⟨rfl, rfl, rfl⟩ := hs
    exact wpIn_label (hk a w φ (.refl B φ w) hw ht hx)
  | exit id =>
    intro tm tm' h h' ex w φ a Q hs hw ht hx hk
    simp only [codeA, Option.some.injEq, Prod.mk.injEq] at hs
    obtain ⟨rfl, rfl, rfl⟩ := hs
    exact wpIn_exit (hk a w φ (.refl B φ w) hw ht hx)
  | goto l =>
    intro tm tm' h h' ex w φ a Q hs hw ht hx hk
    simp only [codeA, Option.some.injEq, Prod.mk.injEq] at hs
    obtain ⟨rfl, rfl, rfl⟩ := hs
    exact wpIn_goto (hk a w φ (.refl B φ w) hw ht hx)
  | ret =>
    intro tm tm' h h' ex w φ a Q hs hw ht hx hk
    simp only [codeA, Option.some.injEq, Prod.mk.injEq] at hs
    obtain ⟨rfl, rfl, rfl⟩ := hs
    exact wpIn_ret (hk a w φ (.refl B φ w) hw ht hx)
  | refuse s =>
    intro tm tm' h h' ex w φ a Q hs
    simp [codeA] at hs
  | region id ops draw =>
    intro tm tm' h h' ex w φ a Q hs hw ht hx hk
    simp only [codeA] at hs
    split at hs
    · split at hs
      · rename_i hd
        cases hs
        exact draw_sound hP hE hng hc hd hw ht (hk.then hx)
      · cases hs
    · split at hs
      · rename_i hd
        cases hs
        exact region_sound hE hng hc hd hw ht (hk.then hx)
      · cases hs
  | seq x y ihx ihy =>
    intro tm tm' h h' ex w φ a Q hs hw ht hx hk
    simp only [codeA] at hs
    refine wpIn_seq ?_
    split at hs
    · rename_i tm1 h1 hs1
      refine ihx hs1 hw ht hx fun a1 w1 φ1 g1 g2 g3 g4 => ?_
      exact ihy hs g2 g3 g4 (hk.after g1)
    · rename_i hne
      refine ihx hs hw ht hx ?_
      cases ex with
      | normal => exact (hne _ _ hs).elim
      | _ => exact hk
  | cond c x y ihx ihy =>
    intro tm tm' h h' ex w φ a Q hs hw ht hx hk
    simp only [codeA] at hs
    have hv := rd_ok hng ht hw c
    split at hs
    · rename_i hc'
      rw [hc'] at hv
      cases hq : a.eval c <;> rw [hq] at hv <;> cases hv
      exact wpIn_cond_true hq (ihx hs hw ht hx hk)
    · rename_i hc'
      rw [hc'] at hv
      cases hq : a.eval c <;> rw [hq] at hv <;> cases hv
      exact wpIn_cond_false hq (ihy hs hw ht hx hk)
    · cases hs
  | block id c ih =>
    intro tm tm' h h' ex w φ a Q hs hw ht hx hk
    simp only [codeA] at hs
    refine wpIn_block ?_
    split at hs
    · rename_i id' tm1 h1 hs1
      split at hs
      · rename_i hid
        have hid := Nat.eq_of_beq_eq_true hid
        subst hid
        cases hs
        refine ih hs1 hw ht hx ?_
        intro a' w' φ' g1 g2 g3 g4
        simp only [exOf, Exit.inBlock, if_true]
        exact hk a' w' φ' g1 g2 g3 g4
      · rename_i hid
        have hid : ¬ id' = id := fun e => by rw [e, Nat.beq_refl] at hid; cases hid
        cases hs
        refine ih hs1 hw ht hx ?_
        intro a' w' φ' g1 g2 g3 g4
        simp only [exOf, Exit.inBlock, hid, if_false]
        exact hk a' w' φ' g1 g2 g3 g4
    · rename_i hne
      refine ih hs hw ht hx ?_
      cases ex with
      | exit id' => exact (hne _ _ _ hs).elim
      | _ => exact hk
  | loop c ih =>
    intro tm tm' h h' ex w φ a Q hs hw ht hx hk
    simp only [codeA] at hs
    refine wpIn_loop_rounds fuel ?_
    have key : ∀ (n : Nat) {tm : Tm} {h : H} {w : World} {φ : Phi} {a : Act}, loopA (codeA E call fid fuel c) n tm h = some (ex, tm', h') → WR B ng φ ρ h w → TR φ ρ tm a.tmps → Ctx ro s0 φ w a.defers →
        ThenX B ng ro s0 φ ρ w h' tm' (Q (exOf ex)) → Code.roundsIn (Fr ro) 0 P c Q n a w := by
      intro n
      induction n with
      | zero => intro tm h w φ a hs; simp [loopA] at hs
      | succ n ihn =>
        intro tm h w φ a hs hw ht hx hk
        simp only [loopA] at hs
        rw [roundsIn_succ]
        split at hs
        · rename_i tm1 h1 hs1
          refine ih hs1 hw ht hx fun a1 w1 φ1 g1 g2 g3 g4 => ?_
          exact ihn hs g2 g3 g4 (hk.after g1)
        · rename_i hne
          refine ih hs hw ht hx ?_
          cases ex with
          | normal => exact (hne _ _ hs).elim
          | _ => exact hk
    exact key fuel hs hw ht hx hk
  | scope c ih =>
    intro tm tm' h h' ex w φ a Q hs hw ht hx hk
    simp only [codeA] at hs
    refine wpIn_scope ?_
    split at hs
    · cases hs
    · rename_i hne
      refine ih hs hw ht hx ?_
      cases ex with
      | goto l => exact (hne _ _ _ hs).elim
      | _ => exact hk
  | rangeFunc g ps as body iha ihb =>
    intro tm tm' h h' ex w φ a Q hs hw ht hx hk
    simp only [codeA] at hs
    have hv := rd_ok hng ht hw g
    split at hs
    · rename_i f cap hg
      rw [hg] at hv
      split at hs
      · rename_i l h1 hn
        split at hs
        · rename_i v h2 hcall
          split at hs
          · rename_i r hl
            split at hs
            · cases hs
            · rename_i hb
              split at hs
              · rename_i hpe
                cases hs
                exact range_sound hc hw hx ht hv hn hcall hl hb (by rw [hpe]; rfl) hk
              · rename_i ex' hpe
                cases hs
                exact range_sound hc hw hx ht hv hn hcall hl hb (by rw [hpe]; rfl) hk
          · cases hs
        · cases hs
      · cases hs
    · cases hs
end Bly

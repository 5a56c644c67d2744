/- Rounds and calls. -/
import Derived.Test.YtgafbagehjmipaaBlyY
namespace Bly
open Go Go.RowKit

variable {P : Program} {E : Env} {w w' : World} {φ φ' : Phi} {ρ : Nat → UInt8} {B ng : Nat} {h h' : H} {call : Caller} {ro : Option Nat} {s0 : Nat}

/-! ### Results -/
theorem loadVar_ok (hw : WR B ng φ ρ h w) {t : TypeId} {ti : TI} (ht : tiOf P t = some ti) {a v : AV} {a' : Value} (ha : VR φ ρ a a') (hl : loadA h ti a = some v) :
    ∃ v', (do loadVar t (← asAddr a') : Sem Value).run P w = .ok v' w ∧ VR φ ρ v v' := by
  obtain ⟨i, d, hi, hd, h1, h2, _, _, _⟩ := tiOf_inv ht
  unfold loadA at hl
  split at hl
  · rename_i b off
    cases ha with
    | ptr hp =>
      rename_i p
      split at hl
      · rename_i hagg
        split at hl
        · rename_i cs hcs
          cases hl
          obtain ⟨vs, hrun, hvr, hok, _⟩ := load_cells (P := P) hw hcs hp
          rw [h1] at hrun
          refine ⟨.agg vs.toArray, ?_, .agg hvr hok⟩
          simp [asAddr, loadVar, run_isAgg hd, ← h2, hagg, run_sz hi, hrun]
        · cases hl
      · rename_i hagg
        obtain ⟨v', hrun, hvr⟩ := load_one (P := P) hw hl hp
        refine ⟨v', ?_, hvr⟩
        simp only [asAddr, loadVar, Sem.run_bind, Sem.run_pure, Result.andThen_ok, run_isAgg hd, ← h2, hagg]
        simpa using hrun
  · cases hl
def resF (tmps : Array Value) : ResultVar → Sem Value
  | .tmp t => pure (tmps.getD t Go.undef)
  | .cell a t => do loadVar t (← asAddr (tmps.getD a Go.undef))
theorem res_list (hE : EnvOK P E) (hw : WR B ng φ ρ h w) {tm : Tm} {tmps : Array Value} (ht : TR φ ρ tm tmps) : ∀ (l : List ResultVar) {vs : List AV}, resA E tm h l = some vs → ∃ vs', (l.mapM (resF tmps)).run P w = .ok vs' w ∧ VRs φ ρ vs vs'
  | [], vs, hs => by simp only [resA, Option.some.injEq] at hs; subst hs; exact ⟨[], by simp, .nil⟩
  | .tmp t :: l, vs, hs => by
    simp only [resA] at hs
    split at hs
    · rename_i us hl
      cases hs
      obtain ⟨vs', h1, h2⟩ := res_list hE hw ht l hl
      exact ⟨_, by simp [List.mapM_cons, resF, h1], .cons (ht.rd t) h2⟩
    · cases hs
  | .cell a t :: l, vs, hs => by
    simp only [resA] at hs
    split at hs
    · rename_i ti hti
      split at hs
      · rename_i v us hv hl
        cases hs
        obtain ⟨vs', h1, h2⟩ := res_list hE hw ht l hl
        obtain ⟨v', h3, h4⟩ := loadVar_ok hw (hE.ty t ti hti) (ht.rd a) hv
        refine ⟨v' :: vs', ?_, .cons h4 h2⟩
        have h3' : (resF tmps (.cell a t)).run P w = .ok v' w := h3
        simp [List.mapM_cons, h1, h3']
      · cases hs
    · cases hs
theorem results_ok (hE : EnvOK P E) (hw : WR B ng φ ρ h w) {tm : Tm} {tmps : Array Value} (ht : TR φ ρ tm tmps) {fn : Func} {vs : List AV} (hs : resA E tm h fn.results.toList = some vs) :
    ∃ v, (results fn tmps).run P w = .ok v w ∧ VR φ ρ (oneOf vs) v := by
  obtain ⟨vs', h1, h2⟩ := res_list hE hw ht _ hs
  have e : results fn tmps = (do let vs ← fn.results.mapM (resF tmps); pure (if h : vs.size = 1 then vs[0] else .tuple vs)) := by
    unfold results
    congr 1
  have h3 : (fn.results.mapM (resF tmps)).run P w = .ok vs'.toArray w := by
    rw [Array.mapM_eq_mapM_toList, map_eq_pure_bind]
    simp [h1]
  rw [e]
  refine ⟨if h : vs'.toArray.size = 1 then vs'.toArray[0] else .tuple vs'.toArray, by simp [h3], ?_⟩
  cases h2 with
  | nil => simp [oneOf]; exact .undef
  | cons hv ht =>
    cases ht with
    | nil => simpa [oneOf] using hv
    | cons hv2 ht2 => simp [oneOf]; exact .tup (.cons hv (.cons hv2 ht2))

/-! ### The way out past the marks -/
theorem leaves_marks {fn : Func} {tmps : Array Value} {R : Ending → World → Prop} : ∀ (ds : List Deferred) {w : World}, Marks s0 φ w ds →
    (∀ w', w.heap.size = w'.heap.size → (∀ k, k < s0 → w'.heap[k]? = w.heap[k]?) → (∀ b p, φ b = some p → w'.heap[p.blk]? = w.heap[p.blk]?) → Below s0 w w' → ∃ v, (results fn tmps).run P w' = .ok v w' ∧ R (.returned v) w') →
    LeavesInM Fence.wide 0 P fn tmps R ds .returning w
  | [], w, _, hr => hr w rfl (fun _ _ => rfl) (fun _ _ _ => rfl) (.refl s0 w)
  | d :: ds, w, ⟨⟨D, h1, h2, h3, h4, h5⟩, ht⟩, hr => by
    subst h1
    have hD : D < w.heap.size := (Array.getElem?_eq_some_iff.1 h3).1
    refine ⟨by simp, .inl ⟨D, _, rfl, run_takeDeferred h3, ?_⟩⟩
    have ht' : Marks s0 φ (w.putObj D (.deferred none)) ds := by
      clear hr
      induction ds with
      | nil => trivial
      | cons d ds ih =>
        obtain ⟨⟨D', g1, g2, g3, g4, g5⟩, gt⟩ := ht
        refine ⟨⟨D', g1, g2, ?_, g4, g5⟩, ih (fun d' hd => h5 d' (by simp [hd])) gt⟩
        refine (World.putObj_heap_other fun e => ?_).trans g3
        exact h5 d (by simp) (by rw [g1, e])
    refine leaves_marks ds ht' fun w' e1 e2 e3 e4 => hr w' (by simpa using e1) (fun k hk => (e2 k hk).trans (World.putObj_heap_other (by omega))) (fun b p hp => (e3 b p hp).trans (World.putObj_heap_other (h4 b p hp))) ?_
    exact Below.trans (B := s0) (b := w.putObj D (.deferred none)) ⟨rfl, rfl, rfl, by simp, fun k hk => World.putObj_heap_other (Nat.ne_of_lt (Nat.lt_of_lt_of_le hk h2))⟩ e4

/-! ### Temporaries -/
theorem mkTm_get : ∀ (l : List AV) (i : Nat) (t : T AV) (k : Nat), i + l.length ≤ 512 → k < 512 → (mkTm l i t).get TD k = if i ≤ k ∧ k < i + l.length then l[k - i]? else t.get TD k
  | [], i, t, k, _, _ => by simp only [mkTm, List.length_nil]; rw [if_neg (by omega)]
  | a :: l, i, t, k, h, hk => by
    simp only [List.length_cons] at h ⊢
    simp only [mkTm]
    rw [mkTm_get l (i+1) _ k (by omega) hk, T.get_set TD _ _ _ _ (by show i < 512; omega) (by show k < 512; omega)]
    by_cases e : k = i
    · subst e
      have h1 : ¬ (k + 1 ≤ k ∧ k < k + 1 + l.length) := by omega
      have h2 : k ≤ k ∧ k < k + (l.length + 1) := by omega
      simp [h1, h2]
    · by_cases c : i + 1 ≤ k ∧ k < i + 1 + l.length
      · have c' : i ≤ k ∧ k < i + (l.length + 1) := by omega
        have : k - i = (k - (i + 1)) + 1 := by omega
        rw [if_pos c, if_pos c', this]; simp
      · have c' : ¬ (i ≤ k ∧ k < i + (l.length + 1)) := by omega
        rw [if_neg c, if_neg c', if_neg e]
theorem TR.enter {args : List AV} {args' : List Value} (ha : VRs φ ρ args args') {n : Nat} (h1 : n ≤ 512) (h2 : args.length ≤ n) : TR φ ρ ⟨mkTm args 0 .e, n⟩ (args'.toArray ++ Array.replicate (n - args'.toArray.size) Go.undef) := by
  have hlen := ha.length
  refine ⟨by simp; omega, h1, fun t => ?_⟩
  unfold Tm.rd
  simp only
  by_cases ht : t < n
  · rw [blt_true.2 ht]
    simp only
    rw [mkTm_get args 0 .e t (by omega) (by omega)]
    by_cases c : t < args.length
    · have : 0 ≤ t ∧ t < 0 + args.length := by omega
      rw [if_pos this]
      have e : args[t - 0]? = some args[t] := by simp [c]
      rw [e]
      obtain ⟨v, hv, hr⟩ := ha.nth (i := t) (a := args[t]) (by rw [nth_eq]; simp [c])
      have : (args'.toArray ++ Array.replicate (n - args'.toArray.size) Go.undef).getD t Go.undef = v := by
        rw [Array.getD_eq_getD_getElem?, Array.getElem?_append_left (by simp; omega)]
        simp [hv]
      rw [this]; simpa using hr
    · have : ¬ (0 ≤ t ∧ t < 0 + args.length) := by omega
      rw [if_neg this]
      have e : (T.e : T AV).get TD t = none := rfl
      rw [e]
      have : (args'.toArray ++ Array.replicate (n - args'.toArray.size) Go.undef).getD t Go.undef = Go.undef := by
        rw [Array.getD_eq_getD_getElem?, Array.getElem?_append_right (by simp; omega)]
        rw [Array.getElem?_replicate]
        split <;> rfl
      rw [this]; exact .undef
  · rw [blt_false.2 ht]
    have : (args'.toArray ++ Array.replicate (n - args'.toArray.size) Go.undef).getD t Go.undef = Go.undef := by
      rw [Array.getD_eq_getD_getElem?, Array.getElem?_eq_none (by simp; omega)]; rfl
    rw [this]; exact .undef
theorem TR.putAll : ∀ {ps : List Nat} {args : List AV} {args' : List Value} {tm : Tm} {tmps : Array Value}, VRs φ ρ args args' → TR φ ρ tm tmps →
    TR φ ρ (putAll ps args tm) ((ps.zip args').foldl (fun t (p, v) => t.setIfInBounds p v) tmps)
  | [], args, args', tm, tmps, _, ht => by cases args <;> simpa [Bly.putAll] using ht
  | p :: ps, _, _, tm, tmps, .nil, ht => by simpa [Bly.putAll] using ht
  | p :: ps, _, _, tm, tmps, .cons hv hvs, ht => by
    simp only [Bly.putAll, List.zip_cons_cons, List.foldl_cons]
    exact TR.putAll hvs (ht.put hv p)

/-! ### A round -/
theorem round_sound (hP : P.follows .mixedOrders = true) (hE : EnvOK P E) (hng : E.ng = ng) (hc : CallerOK P B ng ρ call) {fuel l : Nat} {r : LoopR} {args : List AV} {args' : List Value} {v : AV} {p : Pl}
    (hw : WR B ng φ ρ h w) (ha : VRs φ ρ args args') (hp : φ l = some p) (hl : h.get l = some (.loop r)) (hs : roundA E call fuel l r args h = some (v, h')) :
    ∃ fn tmps assign body, (Instr.yield p.blk args'.toArray).run P w = .ok (.round p.blk fn tmps assign body) w ∧ RoundIn Fence.wide 0 P p.blk fn tmps assign body w (Got B ng φ ρ w h' v) := by
  obtain ⟨p0, hp0, ⟨lr, hlr, hok⟩, _⟩ := hw.obj l _ hl
  rw [hp] at hp0; cases hp0
  unfold roundA at hs
  split at hs
  · rename_i tm1 h1 hlen hs1
    have hlen := Nat.eq_of_beq_eq_true hlen
    have hsz : args'.toArray.size = lr.params.size := by
      have h1 := congrArg List.length hok.params
      rw [Array.length_toList] at h1
      have := ha.length
      simp; omega
    refine ⟨lr.fn, _, lr.assign, lr.body, run_yield hlr hsz, roundIn_of_wpIn trivial ?_⟩
    rw [hok.assign, hok.body]
    have htr : TR φ ρ (putAll r.params args r.tm) ((lr.params.zip args'.toArray).foldl (fun tmps (t, a) => tmps.setIfInBounds t a) lr.tmps) := by
      have := TR.putAll (ps := r.params) ha hok.tm
      rw [← Array.foldl_toList, Array.toList_zip, hok.params]
      simpa using this
    have hctx : Ctx (some p.blk) 0 φ w [] := ⟨trivial, fun l' hl' => by cases hl'; exact ⟨lr, hlr⟩, by omega⟩
    refine code_sound (ro := some p.blk) (s0 := 0) hP hE hng hc r.assign hs1 hw htr hctx ?_
    intro a1 w1 φ1 hst1 hw1 ht1 hx1
    split at hs
    · rename_i r1 hl1
      split at hs
      · rename_i hready
        split at hs
        · rename_i ex tm2 h2 hs2
          have hp1 := hst1.ext _ _ hp
          obtain ⟨p1, hp1', ⟨lr1, hlr1, hok1⟩, _⟩ := hw1.obj l _ hl1
          rw [hp1] at hp1'; cases hp1'
          have hbr := run_beginRound (P := P) hlr1 (by rw [hok1.state]; exact hready)
          obtain ⟨hw2, hst2⟩ := hw1.put hl1 rfl hp1 (ob := .loop { lr1 with state := .busy }) (o' := .loop { r1 with state := .busy })
            ⟨_, World.putObj_heap_same (hw1.lt _ _ hp1), ⟨rfl, hok1.pending, hok1.tm, hok1.params, hok1.assign, hok1.body⟩⟩ (fun _ _ => ⟨_, rfl⟩)
          refine ⟨_, hbr, ?_⟩
          refine code_sound (ro := some p.blk) (s0 := 0) hP hE hng hc r.body hs2 hw2 ht1 (hx1.step hst2) ?_
          intro a3 w3 φ3 hst3 hw3 ht3 hx3
          have hp3 := hst3.ext _ _ hp1
          split at hs
          · rename_i r2 hl2
            obtain ⟨p3, hp3', ⟨lr2, hlr2, hok2⟩, _⟩ := hw3.obj l _ hl2
            rw [hp3] at hp3'; cases hp3'
            have hall := (hst1.trans hst2).trans hst3
            have fin : ∀ (jump : Option AEx) {v : AV} {h' : H}, v = .bool jump.isNone → h' = h2.put l (.loop { r2 with state := if jump.isNone then .ready else .done, pending := jump }) →
                ∃ v' w', (Instr.endRound p.blk (jump.map exCode)).run P w3 = .ok v' w' ∧ Got B ng φ ρ w h' v (.returned v') w' := by
              rintro jump v h' rfl rfl
              obtain ⟨hw4, hst4⟩ := hw3.put hl2 rfl hp3 (ob := .loop { lr2 with state := if (jump.map exCode).isNone then .ready else .done, pending := jump.map exCode }) (o' := .loop { r2 with state := if jump.isNone then .ready else .done, pending := jump })
                ⟨_, World.putObj_heap_same (hw3.lt _ _ hp3), ⟨by cases jump <;> rfl, rfl, hok2.tm, hok2.params, hok2.assign, hok2.body⟩⟩ (fun _ _ => ⟨_, rfl⟩)
              refine ⟨_, _, run_endRound (jump.map exCode) hlr2, _, φ3, rfl, hall.trans hst4, hw4, ?_⟩
              cases jump <;> exact .bool _
            cases ex with
            | normal =>
              simp only [jumpOf, Option.some.injEq, Prod.mk.injEq] at hs
              exact fin none hs.1.symm hs.2.symm
            | exit id =>
              simp only [jumpOf, Option.some.injEq, Prod.mk.injEq] at hs
              exact fin (some (.exit id)) hs.1.symm hs.2.symm
            | goto t =>
              simp only [jumpOf, Option.some.injEq, Prod.mk.injEq] at hs
              exact fin (some (.goto t)) hs.1.symm hs.2.symm
            | ret =>
              simp only [jumpOf, Option.some.injEq, Prod.mk.injEq] at hs
              exact fin (some .ret) hs.1.symm hs.2.symm
          · cases hs
        · cases hs
      · cases hs
    · cases hs
  · cases hs

/-! ### Calls -/
/-- The contracts that stand in for functions are true. -/
def OrcOK (P : Program) (B ng : Nat) (ρ : Nat → UInt8) (orc : Orc) : Prop :=
  ∀ {f args h v h'}, orc f args h = some (some (v, h')) → ∀ {φ w args'}, WR B ng φ ρ h w → VRs φ ρ args args' →
    Enters P f ∧ CallsIn Fence.wide 0 P f args'.toArray w (Got B ng φ ρ w h' v)
theorem noOrc_ok : OrcOK P B ng ρ noOrc := by intro f args h v h' hs; cases hs
def NoNum (P : Program) : Prop := ∀ (f : Nat) (fn : Func), P.funcs[f]? = some fn → (fn.name == "runtime.NumGoroutine") = false
theorem enters_ok {f : Nat} {fn : Func} {c : Code} (hf : P.funcs[f]? = some fn) (hname : (fn.name == "runtime.NumGoroutine") = false) (hb : fn.body = some c) : Enters P f := by
  intro args w
  have h1 : fn.name ≠ "runtime.NumGoroutine" := by simpa using hname
  simp [callFunc, hf, h1, hb, mark]
theorem call_ok (hP : P.follows .mixedOrders = true) (hE : EnvOK P E) (hN : NoNum P) (hng : E.ng = ng) {orc : Orc} (ho : OrcOK P B ng ρ orc) {fuel : Nat} : ∀ n, CallerOK P B ng ρ (callA E orc fuel n) := by
  intro n
  induction n with
  | zero => exact ⟨fun hs => by simp [callA] at hs, fun hs => by simp [callA] at hs⟩
  | succ n ih =>
    refine ⟨?_, ?_⟩
    · intro f c args h v h' hs φ w args' hw ha
      simp only [callA] at hs
      split at hs
      · rename_i r hr
        subst hs
        exact ho hr hw ha
      · split at hs
        · rename_i F hF
          split at hs
          · rename_i cd hbody hle hargs
            have hle := Nat.le_of_ble_eq_true hle
            have hargs := Nat.le_of_ble_eq_true hargs
            have hf := hE.fn _ _ hF
            refine ⟨enters_ok hf (hN _ _ hf) hbody, ?_⟩
            refine callsIn_of_wp_marks hf hbody trivial ?_
            split at hs
            · rename_i ex tm1 h1 hs1
              refine code_sound (ro := none) (s0 := w.heap.size) hP hE hng ih cd hs1 hw (TR.enter ha hle hargs) ⟨trivial, fun l hl => (by cases hl), Nat.le_refl _⟩ ?_
              intro a1 w1 φ1 hst hw1 ht1 hx1
              have fin : ∀ {vs : List AV}, resA E tm1 h1 F.results.toList = some vs → v = oneOf vs → h' = h1 →
                  LeavesInM Fence.wide 0 P F a1.tmps (Got B ng φ ρ w h' v) a1.defers .returning w1 := by
                rintro vs hres rfl rfl
                refine leaves_marks a1.defers hx1.marks ?_
                intro w2 e1 e2 e3 e4
                have hw2 := hw1.foreign (w' := w2) (by omega) e3
                obtain ⟨v', hv1, hv2⟩ := results_ok (P := P) hE hw2 ht1 hres
                refine ⟨v', hv1, v', φ1, rfl, ?_, hw2, hv2⟩
                refine ⟨hst.ext, hst.img, hst.low.trans (e4.mono hw.low), fun k hk hn => (e2 k hk).trans (hst.frame k hk hn), fun k r hr => ?_⟩
                obtain ⟨r', hr'⟩ := hst.loops k r hr
                exact ⟨r', (e2 k (Array.getElem?_eq_some_iff.1 hr).1).trans hr'⟩
              split at hs
              · split at hs
                · rename_i hres
                  cases hs
                  exact fin hres rfl rfl
                · cases hs
              · split at hs
                · rename_i hres
                  cases hs
                  exact fin hres rfl rfl
                · cases hs
              · cases hs
            · cases hs
          · cases hs
        · cases hs
    · intro l args h v h' hs φ w args' hw ha p hp
      simp only [callA] at hs
      split at hs
      · rename_i r hl
        exact round_sound hP hE hng ih hw ha hp hl hs
      · cases hs
end Bly

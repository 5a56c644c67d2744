/- A region, in the list's order. -/
import Derived.Test.YtgafbagehjmipaaBlyV
namespace Bly
open Go Go.RowKit

variable {P : Program} {E : Env} {w : World} {φ : Phi} {ρ : Nat → UInt8} {B ng : Nat} {h h' : H} {call : Caller} {ro : Option Nat}

theorem Tm.rd_put {tm : Tm} (hle : tm.n ≤ 512) (d : Nat) (v : AV) (t : Nat) : (tm.put d v).rd t = if t = d ∧ d < tm.n then v else tm.rd t := by
  unfold Tm.put
  split
  · rename_i hd
    have hd := blt_true.1 hd
    unfold Tm.rd
    simp only
    by_cases ht : t < tm.n
    · rw [blt_true.2 ht]
      simp only
      rw [T.get_set TD _ _ _ _ (by show d < 512; omega) (by show t < 512; omega)]
      by_cases e : t = d
      · simp [e, hd]
      · simp [e]
    · rw [blt_false.2 ht]
      have : ¬ (t = d ∧ d < tm.n) := by omega
      simp [this]
  · rename_i hd
    have hd := blt_false.1 hd
    have : ¬ (t = d ∧ d < tm.n) := by omega
    simp [this]
theorem Tm.put_n {tm : Tm} {d : Nat} {v : AV} : (tm.put d v).n = tm.n := by unfold Tm.put; split <;> rfl
theorem TR.put {tm : Tm} {tmps : Array Value} (ht : TR φ ρ tm tmps) {v : AV} {v' : Value} (hv : VR φ ρ v v') (d : Nat) : TR φ ρ (tm.put d v) (tmps.setIfInBounds d v') := by
  refine ⟨by rw [Tm.put_n]; simpa using ht.size, by rw [Tm.put_n]; exact ht.le, fun t => ?_⟩
  rw [Tm.rd_put ht.le]
  have hs := ht.size
  by_cases e : t = d ∧ d < tm.n
  · rw [if_pos e]
    obtain ⟨rfl, hlt⟩ := e
    have : (tmps.setIfInBounds t v').getD t Go.undef = v' := by
      simp [Array.getD, hs, hlt]
    rw [this]; exact hv
  · rw [if_neg e]
    have : (tmps.setIfInBounds d v').getD t Go.undef = tmps.getD t Go.undef := by
      by_cases e2 : t = d
      · subst e2
        have hge : ¬ t < tmps.size := by omega
        simp [Array.getD, hge]
      · simp only [Array.getD_eq_getD_getElem?]
        rw [Array.getElem?_setIfInBounds_ne (by omega)]
    rw [this]; exact ht.rd t
theorem TR.putO {tm : Tm} {tmps : Array Value} (ht : TR φ ρ tm tmps) {v : AV} {v' : Value} (hv : VR φ ρ v v') (d : Option Nat) {df : List Deferred} :
    TR φ ρ (tm.putO d v) (({ tmps := tmps, defers := df } : Act).put d v').tmps := by
  cases d with
  | none => exact ht
  | some d => exact ht.put hv d
theorem dstOf_eq : ∀ (l : List Oper) (j : Nat), dstOf l j = (l[j]?).bind (·.dst)
  | [], j => by simp [dstOf]
  | o :: l, 0 => by simp [dstOf]
  | o :: l, j+1 => by simp [dstOf, dstOf_eq l j]
theorem wanted_eq {ops : Array Oper} {o : Oper} {tm : Tm} {tmps : Array Value} (ht : TR φ ρ tm tmps) (hg : guardTold ops.toList o tm = true) :
    Region.wanted o (yielded ops tmps) = wantA ops.toList o tm := by
  unfold guardTold at hg
  unfold Region.wanted wantA
  cases ho : o.guard with
  | none => rfl
  | some jw =>
    obtain ⟨j, wt⟩ := jw
    rw [ho] at hg
    simp only at hg ⊢
    have hd := dstOf_eq ops.toList j
    cases hdst : dstOf ops.toList j with
    | none => rw [hdst] at hg; cases hg
    | some t =>
      rw [hdst] at hg hd
      simp only at hg ⊢
      have hd' : (ops[j]?).bind (·.dst) = some t := by rw [hd]; simp
      split at hg
      · rename_i b hlt hb
        have hlt := blt_true.1 hlt
        have hv := ht.rd t
        rw [hb] at hv
        have htt : tmps[t]? = some (tmps.getD t Go.undef) := by
          have : t < tmps.size := by rw [ht.size]; exact hlt
          simp [Array.getD, this]
        cases hq : tmps.getD t Go.undef <;> rw [hq] at hv htt <;> cases hv
        simp only [yielded, hd', Option.bind_some, htt, hb]
        cases b <;> cases wt <;> rfl
      · rename_i vs hlt hb
        have hlt := blt_true.1 hlt
        have hv := ht.rd t
        rw [hb] at hv
        have htt : tmps[t]? = some (tmps.getD t Go.undef) := by
          have : t < tmps.size := by rw [ht.size]; exact hlt
          simp [Array.getD, this]
        cases hq : tmps.getD t Go.undef <;> rw [hq] at hv htt <;> cases hv
        simp only [yielded, hd', Option.bind_some, htt, hb]
        cases wt <;> rfl
      · cases hg
/-- What a walk owes behind a piece of code. -/
def Then (B ng : Nat) (φ : Phi) (ρ : Nat → UInt8) (w : World) (h' : H) (tm' : Tm) (df : List Deferred) (K : Act → World → Prop) : Prop :=
  ∀ a' w' φ', Step B φ w φ' w' → WR B ng φ' ρ h' w' → TR φ' ρ tm' a'.tmps → a'.defers = df → K a' w'
theorem Next.of_then {tm : Tm} {v : AV} {a : Act} {d : Option Nat} {K : Act → World → Prop} (ht : TR φ ρ tm a.tmps) (hk : Then B ng φ ρ w h' (tm.putO d v) a.defers K) : Next B ng φ ρ w h' v a d K := by
  intro v' w' φ' h1 h2 h3
  refine hk _ w' φ' h1 h2 ?_ ?_
  · have := (ht.mono h1.ext).putO h3 d (df := a.defers); exact this
  · cases d <;> rfl
/-- One operation, wanted or not. -/
theorem stepA_sound (hE : EnvOK P E) (hng : E.ng = ng) (hc : CallerOK P B ng ρ call) {ops : Array Oper} {o : Oper} {tm : Tm} {v : AV} {a : Act} {K : Act → World → Prop} {Q : Exit → Act → World → Prop}
    (hw : WR B ng φ ρ h w) (ht : TR φ ρ tm a.tmps) (hs : stepA E call ops.toList o tm h = some (v, h')) (hk : Then B ng φ ρ w h' (tm.putO o.dst v) a.defers K) :
    if Region.wanted o (yielded ops a.tmps) then o.wpIn (Fr ro) 0 P a w K Q else (∀ f, o.about P w a.eval = some f → (Fr ro).fn f) ∧ K (a.put o.dst Go.undef) w := by
  unfold stepA at hs
  split at hs
  · rename_i hg
    rw [wanted_eq ht hg]
    split at hs
    · rename_i hwant
      rw [if_pos hwant]
      exact opA_sound hE hc hw (fun x => rd_ok hng ht hw x) hs (Next.of_then ht hk)
    · rename_i hwant
      rw [if_neg (by rw [hwant]; exact Bool.false_ne_true)]
      cases hs
      exact ⟨fun _ _ => trivial, (Next.of_then ht hk) Go.undef w φ (.refl B φ w) hw .undef⟩
  · cases hs
theorem opsA_sound (hE : EnvOK P E) (hng : E.ng = ng) (hc : CallerOK P B ng ρ call) {ops : Array Oper} {Q : Exit → Act → World → Prop} {tm' : Tm} : ∀ (l : List Oper) (k : Nat) {tm : Tm} {h : H} {w : World} {φ : Phi} {a : Act},
    ops.toList.drop k = l → opsA E call ops.toList l tm h = some (tm', h') → WR B ng φ ρ h w → TR φ ρ tm a.tmps → Then B ng φ ρ w h' tm' a.defers (Q .normal) →
    wpOpsIn (Fr ro) 0 P ops Q (List.range' k l.length) a w
  | [], k, tm, h, w, φ, a, _, hs, hw, ht, hk => by
    simp only [opsA, Option.some.injEq, Prod.mk.injEq] at hs
    obtain ⟨rfl, rfl⟩ := hs
    exact hk a w φ (.refl B φ w) hw ht rfl
  | o :: l, k, tm, h, w, φ, a, hd, hs, hw, ht, hk => by
    simp only [opsA] at hs
    split at hs
    · rename_i v h1 hst
      have ho : ops[k]? = some o := by
        have : (ops.toList.drop k)[0]? = some o := by rw [hd]; rfl
        simpa using this
      have hd' : ops.toList.drop (k+1) = l := by
        have : (ops.toList.drop k).drop 1 = l := by rw [hd]; rfl
        simpa [List.drop_drop] using this
      simp only [List.length_cons, List.range'_succ, wpOpsIn, ho]
      refine stepA_sound hE hng hc hw ht hst ?_
      intro a' w' φ' h1' h2 h3 h4
      refine opsA_sound hE hng hc l (k+1) hd' hs h2 h3 ?_
      intro a'' w'' φ'' g1 g2 g3 g4
      exact hk a'' w'' φ'' (h1'.trans g1) g2 g3 (g4.trans h4)
    · cases hs
theorem region_sound (hE : EnvOK P E) (hng : E.ng = ng) (hc : CallerOK P B ng ρ call) {id : Nat} {ops : Array Oper} {Q : Exit → Act → World → Prop} {tm tm' : Tm} {a : Act}
    (hs : opsA E call ops.toList ops.toList tm h = some (tm', h')) (hw : WR B ng φ ρ h w) (ht : TR φ ρ tm a.tmps) (hk : Then B ng φ ρ w h' tm' a.defers (Q .normal)) :
    (Code.region id ops false).wpIn (Fr ro) 0 P Q a w := by
  refine wpIn_region ?_
  have := opsA_sound (ro := ro) (Q := Q) hE hng hc ops.toList 0 (by simp) hs hw ht hk
  rw [List.range_eq_range']
  simpa using this
end Bly

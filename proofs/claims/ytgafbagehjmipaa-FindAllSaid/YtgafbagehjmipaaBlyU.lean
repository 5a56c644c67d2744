/- The tables of a program; a call with an empty heap. -/
import Derived.Test.YtgafbagehjmipaaBlyZ
import Derived.ProofKit
namespace Bly
open Go Go.RowKit

variable {P : Program} {ρ : Nat → UInt8}

theorem mkT_get {α β} (f : α → Option β) : ∀ (l : List α) (i : Nat) (t : T β) (k : Nat), i + l.length ≤ 4096 → k < 4096 → (mkT f l i t).get 12 k = if i ≤ k ∧ k < i + l.length then (l[k - i]?).bind f else t.get 12 k
  | [], i, t, k, _, _ => by simp only [mkT, List.length_nil]; rw [if_neg (by omega)]
  | a :: l, i, t, k, h, hk => by
    simp only [List.length_cons] at h ⊢
    simp only [mkT]
    rw [mkT_get f l (i+1) _ k (by omega) hk, T.get_set 12 _ _ _ _ (by show i < 4096; omega) (by show k < 4096; omega)]
    by_cases e : k = i
    · subst e
      have h1 : ¬ (k + 1 ≤ k ∧ k < k + 1 + l.length) := by omega
      have h2 : k ≤ k ∧ k < k + (l.length + 1) := by omega
      simp [h1, h2]
    · by_cases c : i + 1 ≤ k ∧ k < i + 1 + l.length
      · have c' : i ≤ k ∧ k < i + (l.length + 1) := by omega
        have : k - i = (k - (i + 1)) + 1 := by omega
        rw [if_pos c, if_pos c', this]; simp
      · have c' : ¬ (i ≤ k ∧ k < i + (l.length + 1)) := by omega
        rw [if_neg c, if_neg c', if_neg e]
theorem env_ok {ng : Nat} (ht : P.types.size ≤ 4096) (hf : P.funcs.size ≤ 4096) : EnvOK P (mkEnv P ng) := by
  refine ⟨fun t ti h => ?_, fun f F h => ?_⟩
  · unfold Env.ti at h
    split at h
    · rename_i hlt
      have hlt := blt_true.1 hlt
      simp only [mkEnv] at h
      rw [mkT_get _ _ 0 _ t (by simpa using ht) hlt] at h
      split at h
      · rename_i c
        have : t < P.types.size := by simpa using c
        simpa [this] using h
      · cases h
    · cases h
  · unfold Env.func at h
    split at h
    · rename_i hlt
      have hlt := blt_true.1 hlt
      simp only [mkEnv] at h
      rw [mkT_get _ _ 0 _ f (by simpa using hf) hlt] at h
      split at h
      · simpa using h
      · cases h
    · cases h
def PhiO : Phi := fun _ => none
theorem WR.empty (ρ : Nat → UInt8) (w : World) : WR w.heap.size 0 PhiO ρ H0 w := by
  have hg : ∀ b, H0.get b = none := fun b => by unfold H.get; split <;> rfl
  refine ⟨fun b o h => ?_, fun b b' o o' p p' h => ?_, fun _ _ => rfl, fun b p h => ?_, Nat.le_refl _, fun g hg => ?_⟩
  · rw [hg] at h; cases h
  · rw [hg] at h; cases h
  · cases h
  · omega
theorem isTrue_inv {r : Res} (h : isTrue r = true) : ∃ h', r = some (.bool true, h') := by
  unfold isTrue at h
  split at h
  · exact ⟨_, rfl⟩
  · cases h
/-- A function without parameters that the evaluator says true of. -/
theorem closed_ok (ht : P.types.size ≤ 4096) (hf : P.funcs.size ≤ 4096) (hP : P.follows .mixedOrders = true) (hN : NoNum P) {orc : Orc} (ρ : Nat → UInt8) (w : World) (ho : OrcOK P w.heap.size 0 ρ orc) {f fuel n : Nat}
    (hrun : isTrue (callA (mkEnv P 0) orc fuel n (.fn f []) [] H0) = true) :
    CallsIn Fence.wide 0 P f #[] w (fun e w' => e = .returned (.bool true) ∧ Below w.heap.size w w') := by
  obtain ⟨h', hr⟩ := isTrue_inv hrun
  have hc := call_ok (B := w.heap.size) (ρ := ρ) hP (env_ok ht hf) hN rfl ho (fuel := fuel) n
  refine CallsIn.mono (hc.fn hr (WR.empty ρ w) .nil).2 ?_
  rintro e w' ⟨v', φ', rfl, hst, _, hv⟩
  cases hv
  exact ⟨rfl, hst.low⟩
open Go.ChangeShapes Go.WideShapes in
/-- What a row asks behind a call that has turned no block that was there. -/
theorem post_of_below {H : Type} {enc : TypeId × Value → H} {f : Func} {s : ChangeSpec} {apart fresh handsOn again : Bool} {W W' : World} {args : Array Value} {v : Value} {ds gs : List (DataW H)} {before pa pv : List MemPlace}
    (hW : DataW.Whole enc P f.params.toList s.vars apart W args.toList ds gs before) (hb : Below W.heap.size W W')
    (hres : ∀ (b : Nat) (sp : Nat → Bool) (hd : Bool), DataW.TrodAll enc P W' b sp hd f.resultTypes.toList (v.resultList f.resultTypes.size) (s.fn H (ds ++ gs)).results [])
    (hargs : ∀ sp : Nat → Bool, (∀ p ∈ before, sp p.block = true) → DataW.TrodAll enc P W' 0 sp true f.params.toList args.toList (s.fn H (ds ++ gs)).args pa)
    (hvars : ∀ sp : Nat → Bool, (∀ p ∈ before, sp p.block = true) → DataW.TrodVars enc P W' sp s.vars (s.fn H (ds ++ gs)).vars pv)
    (hps : before = pa ++ pv)
    (hok : ∀ (j : Nat) (t : TypeId) (r : Value), f.resultTypes[j]? = some t → (v.resultList f.resultTypes.size)[j]? = some r → Value.okWide P W' .any 0 t r) :
    s.post enc P f apart fresh handsOn again W args v W' := by
  have hold : ∀ p ∈ before, (fun b => decide (b < W.heap.size)) p.block = true := fun p hp => by simpa using hW.lt p hp
  refine ⟨ds, gs, before, [], pa, pv, hW, hres _ _ _, hargs _ hold, hvars _ hold, World.keptBut_mono (fun p hp => ⟨hp, ?_⟩) (hb.frame (· ∈ before)), fun _ => ?_⟩
  · rw [hps, List.mem_append] at hp
    exact Or.inr hp
  · have hlt := hW.lt
    obtain ⟨_, _, _, _, _, hz, hn⟩ := hW
    refine ⟨hok, _, _, ([] ++ pa) ++ pv, ⟨[] ++ pa, pv, trodAll_append (hargs _ (fun _ _ => rfl)) (hres _ _ _), hvars _ (fun _ _ => rfl), rfl, ?_, ?_⟩, ?_⟩
    · intro b off hp
      have hp' : MemPlace.cell b off ∈ before := by rw [hps]; simpa using hp
      rw [hb.frozen (hlt _ hp')]
      exact hz b off hp'
    · intro ha
      have := hn ha
      rw [hps] at this
      simpa using this
    · intro p hp _
      rw [hps]
      simpa using hp
end Bly

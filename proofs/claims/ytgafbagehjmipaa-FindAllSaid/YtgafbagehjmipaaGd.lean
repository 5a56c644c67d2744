/- find: the reference's Flag, told by the evaluator. -/
import Derived.Test.YtgafbagehjmipaaGc
namespace Go.Proofs.Ytgafbagehjmipaa
open Bly

theorem fn8 : E0.func 8 = some Try.f8 := by kernel_rfl
/-- Is the first of a type just the byte 1? -/
def flagL (L : List Att) (t : Int) : Bool := match firstAt t L 0 with | some i => (match L[i]? with | some a => decide (a.2 = [1]) | none => false) | none => false
theorem firstAt_lt (t : Int) : ∀ (L : List Att) (i j : Nat), firstAt t L i = some j → i ≤ j ∧ j < i + L.length
  | [], i, j, h => by cases h
  | a :: L, i, j, h => by
    simp only [firstAt] at h
    split at h
    · cases h; simp
    · have := firstAt_lt t L (i+1) j h; simp; omega
theorem refFlag_eq {fuel n : Nat} {h : H} {o : AV} {w wv : Bool} {L : List Att} {vs : List AV} {t : Int} (ho : Ats h o w wv L vs) (hf : L.length < fuel) (hL : L.length < 100000) :
    ∃ v' h', callA E0 O6 fuel (n+2) (.fn 8 []) [o, .int .i64 t] h = some (v', h') ∧ v' = .bool (flagL L t) ∧ h' = h := by
  obtain ⟨g, _, r1, r2, e3⟩ := refGet_eq (fuel := fuel) (n := n) (t := t) ho hf hL
  rw [e3] at r1
  clear e3
  refine s_callO rfl fn8 rfl rfl rfl ?_
  have hle : Try.f8.ntmps ≤ 512 := by decide
  refine sC_seq (sC_region (sO_op hle rfl rfl rfl rfl (sO_nil (sQ_seq ?_))))
  unfold flagL
  cases hfi : firstAt t L 0 with
  | none =>
    rw [hfi] at r2
    have r2 : g = .tup [.nils, .bool false] := r2
    subst r2
    refine sC_seq (sC_region (sO_op hle rfl rfl rfl rfl (sO_op hle rfl rfl rfl rfl (sO_op hle rfl rfl rfl (op_call (f := 19) (cap := []) rfl rfl rfl r1) (sO_op hle rfl rfl rfl rfl (sO_op hle rfl rfl rfl (v := .nils) rfl (sO_op hle rfl rfl rfl (v := .bool false) rfl (sO_op hle rfl rfl rfl rfl (sO_op hle rfl rfl rfl rfl (sO_nil (sQ_seq ?_)))))))))))
    refine sC_seq (sC_region (sO_op hle rfl rfl rfl rfl (sO_op hle rfl rfl rfl rfl (sO_skip hle rfl rfl rfl rfl rfl rfl (sO_skip hle rfl rfl rfl rfl rfl rfl (sO_skip hle rfl rfl rfl rfl rfl rfl (sO_op hle rfl rfl rfl (v := .bool false) rfl (sO_op hle rfl rfl rfl rfl ?_))))))))
    refine sO_skip hle rfl rfl rfl rfl rfl rfl (sO_skip hle rfl rfl rfl rfl rfl rfl (sO_skip hle rfl rfl rfl rfl rfl rfl (sO_skip hle rfl rfl rfl rfl rfl rfl (sO_op hle rfl rfl rfl (v := .bool false) rfl (sO_op hle rfl rfl rfl rfl (sO_nil (sQ_seq (sC_ret ?_))))))))
    exact sQ_end (R := fun v' h' => v' = .bool false ∧ h' = h) (.inr rfl) rfl ⟨rfl, rfl⟩
  | some i =>
    rw [hfi] at r2
    obtain ⟨v, hv, r2⟩ := r2
    subst r2
    have hi : i < L.length := by have := firstAt_lt t L 0 i hfi; omega
    have ha : L[i]? = some L[i] := List.getElem?_eq_getElem hi
    have hav := ho.val i _ _ ha hv
    simp only [ha]
    refine sC_seq (sC_region (sO_op hle rfl rfl rfl rfl (sO_op hle rfl rfl rfl rfl (sO_op hle rfl rfl rfl (op_call (f := 19) (cap := []) rfl rfl rfl r1) (sO_op hle rfl rfl rfl rfl (sO_op hle rfl rfl rfl (v := v) rfl (sO_op hle rfl rfl rfl (v := .bool true) rfl (sO_op hle rfl rfl rfl rfl (sO_op hle rfl rfl rfl rfl (sO_nil (sQ_seq ?_)))))))))))
    refine sC_seq (sC_region (sO_op hle rfl rfl rfl rfl (sO_op hle rfl rfl rfl rfl (sO_do hle rfl rfl rfl rfl rfl rfl rfl (sO_do hle rfl rfl rfl rfl rfl rfl (op_len rfl rfl rfl rfl tkE46 hav.len) ?_)))))
    by_cases h1 : L[i].2.length = 1
    · refine sO_do hle rfl rfl rfl rfl rfl rfl (eq_eq (k := .i64) (a := .ofNat L[i].2.length) (b := 1) (c := true) (decide_eq_true (by rw [h1]; rfl)) rfl rfl rfl) (sO_op hle rfl rfl rfl (v := .bool true) rfl (sO_op hle rfl rfl rfl rfl ?_))
      obtain ⟨b, hb⟩ : ∃ b, L[i].2 = [b] := List.length_eq_one_iff.1 h1
      rw [hb] at hav
      obtain ⟨bb, off, g1, g2⟩ := hav.idx (e := 5) (eb := 1) (z := some [.int .u8 0]) (i := 0) (k := .i64) (by simp)
      have x0 := g2 0 (by decide) (ti := ⟨1, false, some [.int .u8 0], 1, .int .u8⟩) rfl (x := byteV b) rfl
      refine sO_do hle rfl rfl rfl rfl rfl rfl rfl (sO_do hle rfl rfl rfl rfl rfl rfl (op_indexAddr (v := .ptr bb off) rfl (by rw [tkE46]; exact g1)) (sO_do hle rfl rfl rfl rfl rfl rfl (op_load rfl ti5 x0) ?_))
      refine sO_do hle rfl rfl rfl rfl rfl rfl (eq_eq (k := .u8) (a := .ofNat b.toNat) (b := 1) (c := decide (L[i].2 = [1])) ?_ rfl rfl rfl) (sO_op hle rfl rfl rfl (v := .bool (decide (L[i].2 = [1]))) rfl (sO_op hle rfl rfl rfl rfl (sO_nil (sQ_seq (sC_ret ?_)))))
      · rw [hb]
        have : (Int.ofNat b.toNat = 1) ↔ ([b] = [(1 : UInt8)]) := by
          constructor
          · intro h
            have : b.toNat = 1 := Int.ofNat.inj h
            have : b = 1 := UInt8.toNat_inj.1 this
            rw [this]
          · intro h; cases h; rfl
        simp only [this]
      · exact sQ_end (R := fun v' h' => v' = .bool (decide (L[i].2 = [1])) ∧ h' = h) (.inr rfl) rfl ⟨rfl, rfl⟩
    · refine sO_do hle rfl rfl rfl rfl rfl rfl (eq_eq (k := .i64) (a := .ofNat L[i].2.length) (b := 1) (c := false) (decide_eq_false (by simp; omega)) rfl rfl rfl) (sO_op hle rfl rfl rfl (v := .bool false) rfl (sO_op hle rfl rfl rfl rfl ?_))
      refine sO_skip hle rfl rfl rfl rfl rfl rfl (sO_skip hle rfl rfl rfl rfl rfl rfl (sO_skip hle rfl rfl rfl rfl rfl rfl (sO_skip hle rfl rfl rfl rfl rfl rfl (sO_op hle rfl rfl rfl (v := .bool false) rfl (sO_op hle rfl rfl rfl rfl (sO_nil (sQ_seq (sC_ret ?_))))))))
      have : decide (L[i].2 = [1]) = false := decide_eq_false fun e => h1 (by rw [e]; rfl)
      rw [this]
      exact sQ_end (R := fun v' h' => v' = .bool false ∧ h' = h) (.inr rfl) rfl ⟨rfl, rfl⟩
end Go.Proofs.Ytgafbagehjmipaa

/- find: bytes.Clone, told by the evaluator. -/
import Derived.Test.YtgafbagehjmipaaGa
namespace Go.Proofs.Ytgafbagehjmipaa
open Bly

theorem fn27 : E0.func 27 = some Try.f27 := by kernel_rfl
/-- Clone. -/
theorem clone_eq {fuel n : Nat} {h : H} {v : AV} {w : Bool} {cs : List AV} {m : Nat} (hv : Ar h v w 1 m cs) (hlt : h.next + 2 ≤ HM) (hm : m ≤ 100000) :
    ∃ v' h', callA E0 O6 fuel (n+1) (.fn 27 []) [v] h = some (v', h') ∧ Ar h' v' true 1 m cs ∧ h.next ≤ h'.next ∧ h'.next ≤ h.next + 2 ∧ (∀ b, b < h.next → h'.get b = h.get b) ∧ ∀ b, blk v' = some b → h.next ≤ b := by
  refine s_callO rfl fn27 rfl rfl rfl ?_
  have hle : Try.f27.ntmps ≤ 512 := by decide
  refine sC_seq (sC_region (sO_op hle rfl rfl rfl rfl (sO_nil (sQ_seq ?_))))
  refine sC_seq (sC_seq (sC_region (sO_op hle rfl rfl rfl rfl ?_)))
  rcases hv with ⟨rfl, rfl, rfl⟩ | ⟨b0, hat⟩
  · refine sO_op hle rfl rfl rfl (op_bin (v := .bool true) rfl (by rw [tkE46]; rfl)) (sO_nil (sQ_seq ?_))
    refine sC_true rfl rfl (sC_seq (sC_region (sO_op hle rfl rfl rfl rfl (sO_nil (sQ_seq (sC_ret ?_))))))
    exact sQ_end (R := fun v' h' => Ar h' v' true 1 0 [] ∧ h.next ≤ h'.next ∧ h'.next ≤ h.next + 2 ∧ (∀ b, b < h.next → h'.get b = h.get b) ∧ ∀ b, blk v' = some b → h.next ≤ b) (.inr rfl) rfl ⟨Ar.nil, Nat.le_refl _, by omega, fun _ _ => rfl, fun b hb => by cases hb⟩
  · have hv : Ar h v w 1 m cs := .inr ⟨b0, hat⟩
    have heq : binA (E0.tk 46) .eql v .nils = some (.bool false) := by
      obtain ⟨⟨off, ds, mm, rfl, _⟩, _⟩ := hat
      rw [tkE46]; rfl
    have hlt1 : h.next < HM := by omega
    obtain ⟨h1, e1⟩ : ∃ h1, h1 = h.alc (.cells [] (0 * 1) true) := ⟨_, rfl⟩
    have g1 : ∀ b, b < h.next → h1.get b = h.get b := fun b hb => by rw [e1, get_alc hlt1, if_neg (by omega)]
    have n1 : h1.next = h.next + 1 := by rw [e1]; rfl
    have a1 : Ar h1 (.slice h.next 0 0 1) true 1 0 [] := .inr ⟨h.next, ⟨0, [], 0, rfl, by rw [e1, get_alc hlt1, if_pos rfl], by simp, rfl, rfl⟩, by omega⟩
    have a2 : Ar h1 v w 1 m cs := hv.frame (fun b hb => g1 b (hv.blk_lt hb)) (by omega)
    obtain ⟨o, h2, q1, q2, q3, q4, q5, q6⟩ := a1.append (e := 5) (eb := 1) (zs := [.int .u8 0]) a2 (by omega) (by omega) (by decide) (by decide) rfl
    rw [Nat.zero_add, List.nil_append] at q2
    refine sO_op hle rfl rfl rfl (op_bin rfl heq) (sO_nil (sQ_seq ?_))
    refine sC_false rfl rfl (sC_skip (sQ_seq ?_))
    refine sC_seq (sC_region (sO_op hle rfl rfl rfl (v := .slice h.next 0 0 1) (h' := h1) (by rw [e1]; exact op_buildSlice rfl tkE46 rfl rfl rfl rfl hlt1) (sO_op hle rfl rfl rfl rfl ?_)))
    refine sO_op hle rfl rfl rfl (v := o) (h' := h2) (op_append rfl rfl rfl rfl (by rw [tkE46]; exact q1)) (sO_op hle rfl rfl rfl rfl (sO_nil (sQ_seq (sC_ret ?_))))
    refine sQ_end (R := fun v' h' => Ar h' v' true 1 m cs ∧ h.next ≤ h'.next ∧ h'.next ≤ h.next + 2 ∧ (∀ b, b < h.next → h'.get b = h.get b) ∧ ∀ b, blk v' = some b → h.next ≤ b) (.inr rfl) rfl ⟨q2, by omega, by omega, fun b hb => ?_, fun b (hb : blk o = some b) => ?_⟩
    · rw [q5 b (by omega) (fun e => by cases e; omega)]; exact g1 b hb
    · rcases q6 with e | e
      · rw [e] at hb; cases hb; exact Nat.le_refl _
      · rw [e] at hb; cases hb; omega
end Go.Proofs.Ytgafbagehjmipaa

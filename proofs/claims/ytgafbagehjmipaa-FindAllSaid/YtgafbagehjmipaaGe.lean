/- find: attrs.Flag and find.Seen, told by the evaluator. -/
import Derived.Test.YtgafbagehjmipaaGd
namespace Go.Proofs.Ytgafbagehjmipaa
open Bly

theorem fn20 : E0.func 20 = some Try.f20 := by kernel_rfl
theorem byte_one (b : UInt8) (bs : List UInt8) (hb : bs = [b]) : decide (Int.ofNat b.toNat = 1) = decide (bs = [1]) := by
  rw [hb]
  have : (Int.ofNat b.toNat = 1) ↔ ([b] = [(1 : UInt8)]) := by
    constructor
    · intro h
      have : b.toNat = 1 := Int.ofNat.inj h
      have : b = 1 := UInt8.toNat_inj.1 this
      rw [this]
    · intro h; cases h; rfl
  simp only [this]
theorem flag_eq {fuel n : Nat} {h : H} {o : AV} {w wv : Bool} {L : List Att} {vs : List AV} {t : Int} (ho : Ats h o w wv L vs) (hf : L.length < fuel) (hL : L.length < 1000) (hb : ∀ a ∈ L, a.2.length ≤ 100000) (hlt : h.next + 2000 ≤ HM) :
    ∃ v' h', callA E0 O6 fuel (n+3) (.fn 20 []) [o, .int .i64 t] h = some (v', h') ∧ v' = .bool (flagL L t) ∧ h.next ≤ h'.next ∧ h'.next ≤ h.next + L.length + 2 ∧ ∀ b, b < h.next → h'.get b = h.get b := by
  obtain ⟨g, h1, r1, r2, q1, q2, q3⟩ := get_eq (fuel := fuel) (n := n) (t := t) ho hf hL hb hlt
  refine s_callO rfl fn20 rfl rfl rfl ?_
  have hle : Try.f20.ntmps ≤ 512 := by decide
  refine sC_seq (sC_region (sO_op hle rfl rfl rfl rfl (sO_nil (sQ_seq ?_))))
  unfold flagL
  cases hfi : firstAt t L 0 with
  | none =>
    rw [hfi] at r2
    have r2 : g = .tup [.nils, .bool false] := r2
    subst r2
    refine sC_seq (sC_region (sO_op hle rfl rfl rfl rfl (sO_op hle rfl rfl rfl rfl (sO_op hle rfl rfl rfl (op_call (f := 25) (cap := []) rfl rfl rfl r1) (sO_op hle rfl rfl rfl rfl (sO_op hle rfl rfl rfl (v := .nils) rfl (sO_op hle rfl rfl rfl (v := .bool false) rfl (sO_op hle rfl rfl rfl rfl (sO_op hle rfl rfl rfl rfl (sO_nil (sQ_seq ?_)))))))))))
    refine sC_seq (sC_region (sO_op hle rfl rfl rfl rfl (sO_op hle rfl rfl rfl (op_len (v := .int .i64 0) rfl rfl rfl rfl tkE46 rfl) (sO_op hle rfl rfl rfl (eq_eq (k := .i64) (a := 0) (b := 1) (c := false) rfl rfl rfl rfl) (sO_op hle rfl rfl rfl rfl ?_)))))
    refine sO_skip hle rfl rfl rfl rfl rfl rfl (sO_skip hle rfl rfl rfl rfl rfl rfl (sO_skip hle rfl rfl rfl rfl rfl rfl (sO_skip hle rfl rfl rfl rfl rfl rfl (sO_op hle rfl rfl rfl (v := .bool false) rfl (sO_op hle rfl rfl rfl rfl (sO_nil (sQ_seq (sC_ret ?_))))))))
    exact sQ_end (R := fun v' h' => v' = .bool false ∧ h.next ≤ h'.next ∧ h'.next ≤ h.next + L.length + 2 ∧ ∀ b, b < h.next → h'.get b = h.get b) (.inr rfl) rfl ⟨rfl, q1, q2, q3⟩
  | some i =>
    rw [hfi] at r2
    obtain ⟨a, v, ha, r2, hav, _⟩ := r2
    subst r2
    simp only [ha]
    refine sC_seq (sC_region (sO_op hle rfl rfl rfl rfl (sO_op hle rfl rfl rfl rfl (sO_op hle rfl rfl rfl (op_call (f := 25) (cap := []) rfl rfl rfl r1) (sO_op hle rfl rfl rfl rfl (sO_op hle rfl rfl rfl (v := v) rfl (sO_op hle rfl rfl rfl (v := .bool true) rfl (sO_op hle rfl rfl rfl rfl (sO_op hle rfl rfl rfl rfl (sO_nil (sQ_seq ?_)))))))))))
    refine sC_seq (sC_region (sO_op hle rfl rfl rfl rfl (sO_op hle rfl rfl rfl (op_len rfl rfl rfl rfl tkE46 hav.len) ?_)))
    by_cases hl : a.2.length = 1
    · refine sO_op hle rfl rfl rfl (eq_eq (k := .i64) (a := .ofNat a.2.length) (b := 1) (c := true) (decide_eq_true (by rw [hl]; rfl)) rfl rfl rfl) (sO_op hle rfl rfl rfl rfl ?_)
      obtain ⟨b, hbb⟩ : ∃ b, a.2 = [b] := List.length_eq_one_iff.1 hl
      have hav' := hav
      rw [hbb] at hav'
      obtain ⟨bb, off, g1, g2⟩ := hav'.idx (e := 5) (eb := 1) (z := some [.int .u8 0]) (i := 0) (k := .i64) (by simp)
      have x0 := g2 0 (by decide) (ti := ⟨1, false, some [.int .u8 0], 1, .int .u8⟩) rfl (x := byteV b) rfl
      refine sO_do hle rfl rfl rfl rfl rfl rfl rfl (sO_do hle rfl rfl rfl rfl rfl rfl (op_indexAddr (v := .ptr bb off) rfl (by rw [tkE46]; exact g1)) (sO_do hle rfl rfl rfl rfl rfl rfl (op_load rfl ti5 x0) ?_))
      refine sO_do hle rfl rfl rfl rfl rfl rfl (eq_eq (k := .u8) (a := .ofNat b.toNat) (b := 1) (c := decide (a.2 = [1])) (byte_one b a.2 hbb) rfl rfl rfl) (sO_op hle rfl rfl rfl (v := .bool (decide (a.2 = [1]))) rfl (sO_op hle rfl rfl rfl rfl (sO_nil (sQ_seq (sC_ret ?_)))))
      exact sQ_end (R := fun v' h' => v' = .bool (decide (a.2 = [1])) ∧ h.next ≤ h'.next ∧ h'.next ≤ h.next + L.length + 2 ∧ ∀ b, b < h.next → h'.get b = h.get b) (.inr rfl) rfl ⟨rfl, q1, q2, q3⟩
    · refine sO_op hle rfl rfl rfl (eq_eq (k := .i64) (a := .ofNat a.2.length) (b := 1) (c := false) (decide_eq_false (by simp; omega)) rfl rfl rfl) (sO_op hle rfl rfl rfl rfl ?_)
      refine sO_skip hle rfl rfl rfl rfl rfl rfl (sO_skip hle rfl rfl rfl rfl rfl rfl (sO_skip hle rfl rfl rfl rfl rfl rfl (sO_skip hle rfl rfl rfl rfl rfl rfl (sO_op hle rfl rfl rfl (v := .bool false) rfl (sO_op hle rfl rfl rfl rfl (sO_nil (sQ_seq (sC_ret ?_))))))))
      have : decide (a.2 = [1]) = false := decide_eq_false fun e => hl (by rw [e]; rfl)
      rw [this]
      exact sQ_end (R := fun v' h' => v' = .bool false ∧ h.next ≤ h'.next ∧ h'.next ≤ h.next + L.length + 2 ∧ ∀ b, b < h.next → h'.get b = h.get b) (.inr rfl) rfl ⟨rfl, q1, q2, q3⟩
theorem fn9 : E0.func 9 = some Try.f9 := by kernel_rfl
/-- Seen. -/
theorem seen_eq {fuel n : Nat} {h : H} {o : AV} {w wv user : Bool} {L : List Att} {vs : List AV} (ho : Ats h o w wv L vs) (hf : L.length < fuel) (hL : L.length < 1000) (hb : ∀ a ∈ L, a.2.length ≤ 100000) (hlt : h.next + 2000 ≤ HM) :
    ∃ v' h', callA E0 O6 fuel (n+4) (.fn 9 []) [o, .bool user] h = some (v', h') ∧ v' = .bool (user || !flagL L 2) ∧ h.next ≤ h'.next ∧ h'.next ≤ h.next + L.length + 2 ∧ ∀ b, b < h.next → h'.get b = h.get b := by
  refine s_callO rfl fn9 rfl rfl rfl ?_
  have hle : Try.f9.ntmps ≤ 512 := by decide
  refine sC_seq (sC_region (sO_op hle rfl rfl rfl rfl (sO_nil (sQ_seq ?_))))
  refine sC_seq (sC_region (sO_op hle rfl rfl rfl rfl (sO_op hle rfl rfl rfl rfl ?_)))
  cases user with
  | true =>
    refine sO_skip hle rfl rfl rfl rfl rfl rfl (sO_skip hle rfl rfl rfl rfl rfl rfl (sO_skip hle rfl rfl rfl rfl rfl rfl (sO_op hle rfl rfl rfl (v := .bool true) rfl (sO_op hle rfl rfl rfl rfl (sO_nil (sQ_seq (sC_ret ?_)))))))
    exact sQ_end (R := fun v' h' => v' = .bool (true || !flagL L 2) ∧ h.next ≤ h'.next ∧ h'.next ≤ h.next + L.length + 2 ∧ ∀ b, b < h.next → h'.get b = h.get b) (.inr rfl) rfl ⟨rfl, Nat.le_refl _, by omega, fun _ _ => rfl⟩
  | false =>
    obtain ⟨g, h1, r1, r2, q1, q2, q3⟩ := flag_eq (fuel := fuel) (n := n) (t := 2) ho hf hL hb hlt
    rw [r2] at r1
    refine sO_do hle rfl rfl rfl rfl rfl rfl rfl (sO_do hle rfl rfl rfl rfl rfl rfl (op_call (f := 20) (cap := []) rfl rfl rfl r1) (sO_do hle rfl rfl rfl rfl rfl rfl (v := .bool (!flagL L 2)) rfl (sO_op hle rfl rfl rfl (v := .bool (!flagL L 2)) rfl (sO_op hle rfl rfl rfl rfl (sO_nil (sQ_seq (sC_ret ?_)))))))
    exact sQ_end (R := fun v' h' => v' = .bool (false || !flagL L 2) ∧ h.next ≤ h'.next ∧ h'.next ≤ h.next + L.length + 2 ∧ ∀ b, b < h.next → h'.get b = h.get b) (.inr rfl) rfl ⟨rfl, q1, q2, q3⟩
end Go.Proofs.Ytgafbagehjmipaa

/- 'baileylaw23.FindNone': the law answers true at every call. No condition. -/
import Derived.Test.YtgafbagehjmipaaRows
import Derived.ProofKit
import Derived.Test.YtgafbagehjmipaaBlyU
namespace Go.Proofs.Ytgafbagehjmipaa
open Go.ChangeShapes Go.WideShapes Go.ChangeAt Go.RowKit

theorem Try.own : ownKnob Try.prog.godebug = none := by kernel_rfl
theorem Try.mixed : Try.prog.follows .mixedOrders = true := by kernel_rfl
theorem Try.noNumB : (Try.prog.funcs.toList.all fun fn => !(fn.name == "runtime.NumGoroutine")) = true := by kernel_rfl
theorem Try.noNum : Bly.NoNum Try.prog := fun f fn hf => by
  have := List.all_eq_true.1 Try.noNumB fn (by have := Array.mem_of_getElem? hf; simpa using this)
  simpa using this
theorem Try.types4096 : Try.prog.types.size ≤ 4096 := of_decide_eq_true (by kernel_rfl)
theorem Try.funcs4096 : Try.prog.funcs.size ≤ 4096 := of_decide_eq_true (by kernel_rfl)
set_option maxRecDepth 100000 in
theorem findNone_run : Bly.isTrue (Bly.callA (Bly.mkEnv Try.prog 0) Bly.noOrc 10000 100 (.fn 5 []) [] Bly.H0) = true := by kernel_rfl
theorem findNone_any (w : World) : Calls Try.prog 5 #[] w fun e w' => e = .returned (.bool true) ∧ Below w.heap.size w w' :=
  callsIn_wide.1 (Bly.closed_ok Try.types4096 Try.funcs4096 Try.mixed Try.noNum (fun _ => 0) w Bly.noOrc_ok findNone_run)
set_option maxRecDepth 100000 in
theorem findNone_lifted (os : Os) (started : os.Started) (H : Type) (enc : TypeId × Value → H) :
    ReturnsInHanded {} Try.checked os 5 .any (Rows.findNoneSpec.pre6 enc Try.prog Try.f5 Rows.findNoneRow.domain false) (Rows.findNoneSpec.post enc Try.prog Try.f5 false true false false) := by
  refine returnsInHanded_of_change (C := Try.checked) Try.own started (by kernel_rfl) Try.func5
    (ChangeSpec.witness6 (enc := enc) (C := Try.checked) false ⟨#[], #[], []⟩ 8 (by kernel_rfl) (by kernel_rfl) (by kernel_rfl) (by kernel_rfl)) ?_
  intro W base args ds gs before hval0 hW hcnd _
  have hW' := hW
  obtain ⟨p, q, hA0, hV, rfl, hfz, hnd⟩ := hW
  have hA : DataW.TrodAll enc Try.prog W 0 (fun _ => true) true Try.f5.params.toList args.toList ds p := hA0
  rw [Try.params5] at hA
  obtain ⟨rfl, rfl, rfl⟩ := trodAll_none hA
  obtain ⟨rfl, rfl⟩ := trodVars_none hV
  clear hA0 hval0
  simp only [List.append_nil] at hW'
  refine (findNone_any W).mono fun e W' ⟨he, hb⟩ => ?_
  subst he
  exact ⟨_, rfl, Bly.post_of_below (pa := []) (pv := []) hW' hb (fun _ _ _ => trodAll_mk1 (shut_bool Try.underlying4 true)) (fun sp _ => trodAll_mk0) (fun _ _ => rfl) rfl
    (ok_one (by kernel_rfl) rfl (okWide_bool_mk Try.underlying4 true))⟩
theorem findNone_holds : Rows.FindNoneSaid :=
  OpenClaim.holds_of_wide 5 Try.f5 rfl rfl rfl rfl rfl rfl rfl ⟨rfl, rfl, rfl, rfl, rfl⟩ rfl rfl rfl rfl rfl (by kernel_rfl) Try.func5 (by kernel_rfl)
    (of_decide_eq_true (by kernel_rfl)) (by unfold Func.isWrapper; first | (rw [if_pos (by decide +kernel)]; kernel_rfl) | (rw [if_neg (by decide +kernel)]; exact ⟨rfl, rfl⟩))
    (fun os started H enc _ => findNone_lifted os started H enc)
#print axioms findNone_holds
end Go.Proofs.Ytgafbagehjmipaa

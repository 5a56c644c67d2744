/- find: FindNext, told by the evaluator. -/
import Derived.Test.YtgafbagehjmipaaFc
namespace Go.Proofs.Ytgafbagehjmipaa
open Bly

theorem fn4 : E0.func 4 = some Try.f4 := by kernel_rfl
/-- The heap at the start: what the two arguments lie in. -/
def H2 (o0 o1 : Option AObj) : H := ⟨T.set HD (T.set HD .e 0 o0) 1 o1, 2⟩
def begunB : Res → Option (Option AObj × Option AObj × Nat)
  | some (.bool true, h) => some (h.get 0, h.get 1, h.next)
  | _ => none
set_option maxRecDepth 100000 in
theorem begun_run0 : begunB (callA E0 noOrc 10000 20 (.fn 6 []) [] (H2 none none)) = some (none, none, 25) := by kernel_rfl
set_option maxRecDepth 100000 in
theorem begun_run1 (a : AObj) : begunB (callA E0 noOrc 10000 20 (.fn 6 []) [] (H2 (some a) none)) = some (some a, none, 25) := by kernel_rfl
set_option maxRecDepth 100000 in
theorem begun_run2 (a : AObj) : begunB (callA E0 noOrc 10000 20 (.fn 6 []) [] (H2 none (some a))) = some (none, some a, 25) := by kernel_rfl
set_option maxRecDepth 100000 in
theorem begun_run3 (a b : AObj) : begunB (callA E0 noOrc 10000 20 (.fn 6 []) [] (H2 (some a) (some b))) = some (some a, some b, 25) := by kernel_rfl
theorem begun_run (o0 o1 : Option AObj) : begunB (callA E0 noOrc 10000 20 (.fn 6 []) [] (H2 o0 o1)) = some (o0, o1, 25) :=
  match o0, o1 with
  | none, none => begun_run0
  | some a, none => begun_run1 a
  | none, some a => begun_run2 a
  | some a, some b => begun_run3 a b
end Go.Proofs.Ytgafbagehjmipaa

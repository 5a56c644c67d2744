/-
  No cell of these rows narrows 'for every input' (looked for: loops, veiled, ifaces, maps, wideKeys, modest, calm, conditions, laid).
  DERIVED. THE GIVEN ROWS OF THIS SEAT. 3 by the template 'for every input the law returns true; each argument reads behind the call as it read before'; 0 by the template 'total and deterministic' (their statements: YtgafbagehjmipaaTotals.lean).
  GIVEN WITH THE SEED: the statements are not yours to turn. If you find one false, say at which input.
  Laid BY PROGRAM, IN A SANDBOX (cutbox-rows.mjs): the forced cells as the released guide's own fill.sh prints them over the translation 4d1a3b19861c124c… (all of the seat's roots in one cut). By AI agents, Wed Nov 11 2026. No macro, syntax, notation, axiom, sorry.
-/
import Derived.Test.YtgafbagehjmipaaChecked
import GoSem.Claim
import GoSem.ClaimJoined
import GoSem.ClaimMapViews
import Derived.JoinedTies
import Derived.KernelRfl
namespace Go.Proofs.Ytgafbagehjmipaa
/- THE CELL 'sum', in the pinned program and in every row, IS THE sha256 OF THE DUMP (.gsa) THAT YtgafbagehjmipaaProg.lean LOADS. Nothing in Lean hashes anything: it is a label: what it is worth is what the hold of that sum in a sandbox is worth. -/
noncomputable def Try.pinned : Pinned := { name := "ytgafbagehjmipaa", sum := "4d1a3b19861c124c373ee78489e37be2e6985568db495f3299864727986755df", checked := Try.checked }
namespace Rows
def none {H : Type} : Left H := { results := [], args := [] }

/-- 'baileylaw23.FindAll': WHATEVER THE INPUT: true; the input reads as it did. -/
def findAllSpec : ChangeSpec := { name := "findAll", fn := fun _ => fun
  | [d1, d2, d3, d4, d5] => { results := [.lit (.bool true)], args := [d1, d2, d3, d4, d5] }
  | _ => none }
def findAllRow : OpenClaim := { program := "ytgafbagehjmipaa", sum := "4d1a3b19861c124c373ee78489e37be2e6985568db495f3299864727986755df", func := "bailey/baileylaw23.FindAll", spec := "findAll", unfollowed := true, recurses := true, apart := false }
def FindAllSaid : Prop := findAllRow.holds Try.pinned (OpenSpec.ofChange findAllSpec)

/-- ITS FALSE NEIGHBOUR: 'it returns false'. Refute it at one input. -/
def findAllWrong : ChangeSpec := { name := "findAll", fn := fun _ => fun
  | [d1, d2, d3, d4, d5] => { results := [.lit (.bool false)], args := [d1, d2, d3, d4, d5] }
  | _ => none }
def FindAllWrongFalsely : Prop := findAllRow.holds Try.pinned (OpenSpec.ofChange findAllWrong)

/-- 'baileylaw23.FindNext': WHATEVER THE INPUT: true; the input reads as it did. -/
def findNextSpec : ChangeSpec := { name := "findNext", fn := fun _ => fun
  | [d1, d2] => { results := [.lit (.bool true)], args := [d1, d2] }
  | _ => none }
def findNextRow : OpenClaim := { program := "ytgafbagehjmipaa", sum := "4d1a3b19861c124c373ee78489e37be2e6985568db495f3299864727986755df", func := "bailey/baileylaw23.FindNext", spec := "findNext", unfollowed := true, recurses := true, apart := false }
def FindNextSaid : Prop := findNextRow.holds Try.pinned (OpenSpec.ofChange findNextSpec)

/-- ITS FALSE NEIGHBOUR: 'it returns false'. Refute it at one input. -/
def findNextWrong : ChangeSpec := { name := "findNext", fn := fun _ => fun
  | [d1, d2] => { results := [.lit (.bool false)], args := [d1, d2] }
  | _ => none }
def FindNextWrongFalsely : Prop := findNextRow.holds Try.pinned (OpenSpec.ofChange findNextWrong)

/-- 'baileylaw23.FindNone': WHATEVER THE INPUT: true; the input reads as it did. -/
def findNoneSpec : ChangeSpec := { name := "findNone", fn := fun _ => fun
  | [] => { results := [.lit (.bool true)], args := [] }
  | _ => none }
def findNoneRow : OpenClaim := { program := "ytgafbagehjmipaa", sum := "4d1a3b19861c124c373ee78489e37be2e6985568db495f3299864727986755df", func := "bailey/baileylaw23.FindNone", spec := "findNone", unfollowed := true, recurses := true, apart := false }
def FindNoneSaid : Prop := findNoneRow.holds Try.pinned (OpenSpec.ofChange findNoneSpec)

/-- ITS FALSE NEIGHBOUR: 'it returns false'. Refute it at one input. -/
def findNoneWrong : ChangeSpec := { name := "findNone", fn := fun _ => fun
  | [] => { results := [.lit (.bool false)], args := [] }
  | _ => none }
def FindNoneWrongFalsely : Prop := findNoneRow.holds Try.pinned (OpenSpec.ofChange findNoneWrong)

/- THE SECOND FORM. 'bulk': how many values and letters a reading holds, each counted each time it is reached (what is shared counts as often as it is met; a slice's spare places count too). A statement '..UptoSaid' is the law's where the arguments, and the package variables that the reading takes, are together of bulk at most 1048576: NARROWER than '..Said'. Prove '..Said' where nothing that the law and all that it calls make is longer than what came in: it says more and counts as full. Else prove '..UptoSaid'. A law counts once. -/
mutual
def uptoBulk {H : Type} : DataW H → Nat
  | .lit (.string bytes) => bytes.length + 1
  | .lit _ => 1
  | .nil => 1
  | .ptr d => uptoBulk d + 1
  | .slice elems spare => uptoBulkAll elems + uptoBulkAll spare + 1
  | .agg parts => uptoBulkAll parts + 1
  | .iface _ d => uptoBulk d + 1
  | .map entries => uptoBulkEntries entries + 1
  | .held _ => 1
def uptoBulkAll {H : Type} : List (DataW H) → Nat
  | [] => 0
  | d :: r => uptoBulk d + uptoBulkAll r
def uptoBulkEntries {H : Type} : List (Lit × DataW H) → Nat
  | [] => 0
  | x :: r => uptoBulkEntry x + uptoBulkEntries r
def uptoBulkEntry {H : Type} : Lit × DataW H → Nat
  | (.string bytes, d) => bytes.length + uptoBulk d + 1
  | (_, d) => uptoBulk d + 1
 end
def uptoSmall : (H : Type) → List (DataW H) → Bool := fun _ ds => decide (uptoBulkAll ds ≤ 1048576)
def OpenSpec.upto (s : _root_.Go.ChangeSpec) : _root_.Go.OpenSpec := { _root_.Go.OpenSpec.ofChange s with cond := some uptoSmall }

/-- 'baileylaw23.FindAll', WHERE WHAT IT READS IS OF BULK AT MOST 1048576: true; the input reads as it did. -/
def findAllUptoRow : OpenClaim := { program := "ytgafbagehjmipaa", sum := "4d1a3b19861c124c373ee78489e37be2e6985568db495f3299864727986755df", func := "bailey/baileylaw23.FindAll", spec := "findAll", unfollowed := true, recurses := true, apart := false, narrowed := true }
def FindAllUptoSaid : Prop := findAllUptoRow.holds Try.pinned (OpenSpec.upto findAllSpec)

/-- 'baileylaw23.FindNext', WHERE WHAT IT READS IS OF BULK AT MOST 1048576: true; the input reads as it did. -/
def findNextUptoRow : OpenClaim := { program := "ytgafbagehjmipaa", sum := "4d1a3b19861c124c373ee78489e37be2e6985568db495f3299864727986755df", func := "bailey/baileylaw23.FindNext", spec := "findNext", unfollowed := true, recurses := true, apart := false, narrowed := true }
def FindNextUptoSaid : Prop := findNextUptoRow.holds Try.pinned (OpenSpec.upto findNextSpec)

/-- 'baileylaw23.FindNone', WHERE WHAT IT READS IS OF BULK AT MOST 1048576: true; the input reads as it did. -/
def findNoneUptoRow : OpenClaim := { program := "ytgafbagehjmipaa", sum := "4d1a3b19861c124c373ee78489e37be2e6985568db495f3299864727986755df", func := "bailey/baileylaw23.FindNone", spec := "findNone", unfollowed := true, recurses := true, apart := false, narrowed := true }
def FindNoneUptoSaid : Prop := findNoneUptoRow.holds Try.pinned (OpenSpec.upto findNoneSpec)

end Rows
end Go.Proofs.Ytgafbagehjmipaa

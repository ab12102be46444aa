/-
  No cell of these rows narrows 'for every input' (looked for: loops, veiled, ifaces, maps, wideKeys, modest, calm, conditions, laid).
  DERIVED. THE GIVEN ROWS OF THIS SEAT. 4 by the template 'for every input the law returns true; each argument reads behind the call as it read before'; 0 by the template 'total and deterministic' (their statements: YtblhbkpagombiaaTotals.lean).
  GIVEN WITH THE SEED: the statements are not yours to turn. If you find one false, say at which input.
  Laid BY PROGRAM, IN A SANDBOX (cutbox-rows.mjs): the forced cells as the released guide's own fill.sh prints them over the translation 59f830a964c6ef03… (all of the seat's roots in one cut). By AI agents, Wed Nov 11 2026. No macro, syntax, notation, axiom, sorry.
-/
import Derived.Test.YtblhbkpagombiaaChecked
import GoSem.Claim
import GoSem.ClaimJoined
import GoSem.ClaimMapViews
import Derived.JoinedTies
import Derived.KernelRfl
namespace Go.Proofs.Ytblhbkpagombiaa
/- THE CELL 'sum', in the pinned program and in every row, IS THE sha256 OF THE DUMP (.gsa) THAT YtblhbkpagombiaaProg.lean LOADS. Nothing in Lean hashes anything: it is a label: what it is worth is what the hold of that sum in a sandbox is worth. -/
noncomputable def Try.pinned : Pinned := { name := "ytblhbkpagombiaa", sum := "59f830a964c6ef0377e112971560e0b28bdd7874c7a4c326013473aa2bcd9056", checked := Try.checked }
namespace Rows
def none {H : Type} : Left H := { results := [], args := [] }

/-- 'starlinglaw7.SpotForms': WHATEVER THE INPUT: true; the input reads as it did. -/
def spotFormsSpec : ChangeSpec := { name := "spotForms", fn := fun _ => fun
  | [d] => { results := [.lit (.bool true)], args := [d] }
  | _ => none }
def spotFormsRow : OpenClaim := { program := "ytblhbkpagombiaa", sum := "59f830a964c6ef0377e112971560e0b28bdd7874c7a4c326013473aa2bcd9056", func := "starling/starlinglaw7.SpotForms", spec := "spotForms", apart := false }
def SpotFormsSaid : Prop := spotFormsRow.holds Try.pinned (OpenSpec.ofChange spotFormsSpec)

/-- ITS FALSE NEIGHBOUR: 'it returns false'. Refute it at one input. -/
def spotFormsWrong : ChangeSpec := { name := "spotForms", fn := fun _ => fun
  | [d] => { results := [.lit (.bool false)], args := [d] }
  | _ => none }
def SpotFormsWrongFalsely : Prop := spotFormsRow.holds Try.pinned (OpenSpec.ofChange spotFormsWrong)

/-- 'starlinglaw7.SpotBounds': WHATEVER THE INPUT: true; the input reads as it did. -/
def spotBoundsSpec : ChangeSpec := { name := "spotBounds", fn := fun _ => fun
  | [d1, d2] => { results := [.lit (.bool true)], args := [d1, d2] }
  | _ => none }
def spotBoundsRow : OpenClaim := { program := "ytblhbkpagombiaa", sum := "59f830a964c6ef0377e112971560e0b28bdd7874c7a4c326013473aa2bcd9056", func := "starling/starlinglaw7.SpotBounds", spec := "spotBounds", apart := false }
def SpotBoundsSaid : Prop := spotBoundsRow.holds Try.pinned (OpenSpec.ofChange spotBoundsSpec)

/-- ITS FALSE NEIGHBOUR: 'it returns false'. Refute it at one input. -/
def spotBoundsWrong : ChangeSpec := { name := "spotBounds", fn := fun _ => fun
  | [d1, d2] => { results := [.lit (.bool false)], args := [d1, d2] }
  | _ => none }
def SpotBoundsWrongFalsely : Prop := spotBoundsRow.holds Try.pinned (OpenSpec.ofChange spotBoundsWrong)

/-- 'starlinglaw7.SpotSteps': WHATEVER THE INPUT: true; the input reads as it did. -/
def spotStepsSpec : ChangeSpec := { name := "spotSteps", fn := fun _ => fun
  | [d1, d2] => { results := [.lit (.bool true)], args := [d1, d2] }
  | _ => none }
def spotStepsRow : OpenClaim := { program := "ytblhbkpagombiaa", sum := "59f830a964c6ef0377e112971560e0b28bdd7874c7a4c326013473aa2bcd9056", func := "starling/starlinglaw7.SpotSteps", spec := "spotSteps", apart := false }
def SpotStepsSaid : Prop := spotStepsRow.holds Try.pinned (OpenSpec.ofChange spotStepsSpec)

/-- ITS FALSE NEIGHBOUR: 'it returns false'. Refute it at one input. -/
def spotStepsWrong : ChangeSpec := { name := "spotSteps", fn := fun _ => fun
  | [d1, d2] => { results := [.lit (.bool false)], args := [d1, d2] }
  | _ => none }
def SpotStepsWrongFalsely : Prop := spotStepsRow.holds Try.pinned (OpenSpec.ofChange spotStepsWrong)

/-- 'starlinglaw7.SpotLengths': WHATEVER THE INPUT: true; the input reads as it did. -/
def spotLengthsSpec : ChangeSpec := { name := "spotLengths", fn := fun _ => fun
  | [d1, d2, d3] => { results := [.lit (.bool true)], args := [d1, d2, d3] }
  | _ => none }
def spotLengthsRow : OpenClaim := { program := "ytblhbkpagombiaa", sum := "59f830a964c6ef0377e112971560e0b28bdd7874c7a4c326013473aa2bcd9056", func := "starling/starlinglaw7.SpotLengths", spec := "spotLengths", apart := false }
def SpotLengthsSaid : Prop := spotLengthsRow.holds Try.pinned (OpenSpec.ofChange spotLengthsSpec)

/-- ITS FALSE NEIGHBOUR: 'it returns false'. Refute it at one input. -/
def spotLengthsWrong : ChangeSpec := { name := "spotLengths", fn := fun _ => fun
  | [d1, d2, d3] => { results := [.lit (.bool false)], args := [d1, d2, d3] }
  | _ => none }
def SpotLengthsWrongFalsely : Prop := spotLengthsRow.holds Try.pinned (OpenSpec.ofChange spotLengthsWrong)

/- THE SECOND FORM. 'bulk': how many values and letters a reading holds, each counted each time it is reached (what is shared counts as often as it is met; a slice's spare places count too). A statement '..UptoSaid' is the law's where the arguments, and the package variables that the reading takes, are together of bulk at most 1048576: NARROWER than '..Said'. Prove '..Said' where nothing that the law and all that it calls make is longer than what came in: it says more and counts as full. Else prove '..UptoSaid'. A law counts once. -/
mutual
def uptoBulk {H : Type} : DataW H → Nat
  | .lit (.string bytes) => bytes.length + 1
  | .lit _ => 1
  | .nil => 1
  | .ptr d => uptoBulk d + 1
  | .slice elems spare => uptoBulkAll elems + uptoBulkAll spare + 1
  | .agg parts => uptoBulkAll parts + 1
  | .iface _ d => uptoBulk d + 1
  | .map entries => uptoBulkEntries entries + 1
  | .held _ => 1
def uptoBulkAll {H : Type} : List (DataW H) → Nat
  | [] => 0
  | d :: r => uptoBulk d + uptoBulkAll r
def uptoBulkEntries {H : Type} : List (Lit × DataW H) → Nat
  | [] => 0
  | x :: r => uptoBulkEntry x + uptoBulkEntries r
def uptoBulkEntry {H : Type} : Lit × DataW H → Nat
  | (.string bytes, d) => bytes.length + uptoBulk d + 1
  | (_, d) => uptoBulk d + 1
 end
def uptoSmall : (H : Type) → List (DataW H) → Bool := fun _ ds => decide (uptoBulkAll ds ≤ 1048576)
def OpenSpec.upto (s : _root_.Go.ChangeSpec) : _root_.Go.OpenSpec := { _root_.Go.OpenSpec.ofChange s with cond := some uptoSmall }

/-- 'starlinglaw7.SpotForms', WHERE WHAT IT READS IS OF BULK AT MOST 1048576: true; the input reads as it did. -/
def spotFormsUptoRow : OpenClaim := { program := "ytblhbkpagombiaa", sum := "59f830a964c6ef0377e112971560e0b28bdd7874c7a4c326013473aa2bcd9056", func := "starling/starlinglaw7.SpotForms", spec := "spotForms", apart := false, narrowed := true }
def SpotFormsUptoSaid : Prop := spotFormsUptoRow.holds Try.pinned (OpenSpec.upto spotFormsSpec)

/-- 'starlinglaw7.SpotBounds', WHERE WHAT IT READS IS OF BULK AT MOST 1048576: true; the input reads as it did. -/
def spotBoundsUptoRow : OpenClaim := { program := "ytblhbkpagombiaa", sum := "59f830a964c6ef0377e112971560e0b28bdd7874c7a4c326013473aa2bcd9056", func := "starling/starlinglaw7.SpotBounds", spec := "spotBounds", apart := false, narrowed := true }
def SpotBoundsUptoSaid : Prop := spotBoundsUptoRow.holds Try.pinned (OpenSpec.upto spotBoundsSpec)

/-- 'starlinglaw7.SpotSteps', WHERE WHAT IT READS IS OF BULK AT MOST 1048576: true; the input reads as it did. -/
def spotStepsUptoRow : OpenClaim := { program := "ytblhbkpagombiaa", sum := "59f830a964c6ef0377e112971560e0b28bdd7874c7a4c326013473aa2bcd9056", func := "starling/starlinglaw7.SpotSteps", spec := "spotSteps", apart := false, narrowed := true }
def SpotStepsUptoSaid : Prop := spotStepsUptoRow.holds Try.pinned (OpenSpec.upto spotStepsSpec)

/-- 'starlinglaw7.SpotLengths', WHERE WHAT IT READS IS OF BULK AT MOST 1048576: true; the input reads as it did. -/
def spotLengthsUptoRow : OpenClaim := { program := "ytblhbkpagombiaa", sum := "59f830a964c6ef0377e112971560e0b28bdd7874c7a4c326013473aa2bcd9056", func := "starling/starlinglaw7.SpotLengths", spec := "spotLengths", apart := false, narrowed := true }
def SpotLengthsUptoSaid : Prop := spotLengthsUptoRow.holds Try.pinned (OpenSpec.upto spotLengthsSpec)

end Rows
end Go.Proofs.Ytblhbkpagombiaa

/-
  No cell of these rows narrows 'for every input' (looked for: loops, veiled, ifaces, maps, wideKeys, modest, calm, conditions, laid).
  DERIVED. THE GIVEN ROWS OF THIS SEAT. 4 by the template 'for every input the law returns true; each argument reads behind the call as it read before'; 0 by the template 'total and deterministic' (their statements: YtdbgebbofpgjmaaTotals.lean).
  GIVEN WITH THE SEED: the statements are not yours to turn. If you find one false, say at which input.
  Laid BY PROGRAM, IN A SANDBOX (cutbox-rows.mjs): the forced cells as the released guide's own fill.sh prints them over the translation 65945cee7869bb00… (all of the seat's roots in one cut). By AI agents, Wed Nov 11 2026. No macro, syntax, notation, axiom, sorry.
-/
import Derived.Test.YtdbgebbofpgjmaaChecked
import GoSem.Claim
import GoSem.ClaimJoined
import GoSem.ClaimMapViews
import Derived.JoinedTies
import Derived.KernelRfl
namespace Go.Proofs.Ytdbgebbofpgjmaa
/- THE CELL 'sum', in the pinned program and in every row, IS THE sha256 OF THE DUMP (.gsa) THAT YtdbgebbofpgjmaaProg.lean LOADS. Nothing in Lean hashes anything: it is a label: what it is worth is what the hold of that sum in a sandbox is worth. -/
noncomputable def Try.pinned : Pinned := { name := "ytdbgebbofpgjmaa", sum := "65945cee7869bb0074598ba8899dfecab78622de732ca056aa02895c50b7ec64", checked := Try.checked }
namespace Rows
def none {H : Type} : Left H := { results := [], args := [] }

/-- 'starlinglaw17.LedgerNil': WHATEVER THE INPUT: true; the input reads as it did. -/
def ledgerNilSpec : ChangeSpec := { name := "ledgerNil", fn := fun _ => fun
  | [d] => { results := [.lit (.bool true)], args := [d] }
  | _ => none }
def ledgerNilRow : OpenClaim := { program := "ytdbgebbofpgjmaa", sum := "65945cee7869bb0074598ba8899dfecab78622de732ca056aa02895c50b7ec64", func := "starling/starlinglaw17.LedgerNil", spec := "ledgerNil", unfollowed := true, recurses := true, apart := false }
def LedgerNilSaid : Prop := ledgerNilRow.holds Try.pinned (OpenSpec.ofChange ledgerNilSpec)

/-- ITS FALSE NEIGHBOUR: 'it returns false'. Refute it at one input. -/
def ledgerNilWrong : ChangeSpec := { name := "ledgerNil", fn := fun _ => fun
  | [d] => { results := [.lit (.bool false)], args := [d] }
  | _ => none }
def LedgerNilWrongFalsely : Prop := ledgerNilRow.holds Try.pinned (OpenSpec.ofChange ledgerNilWrong)

/-- 'starlinglaw22.DeskNil': WHATEVER THE INPUT: true; the input reads as it did. -/
def deskNilSpec : ChangeSpec := { name := "deskNil", fn := fun _ => fun
  | [d] => { results := [.lit (.bool true)], args := [d] }
  | _ => none }
def deskNilRow : OpenClaim := { program := "ytdbgebbofpgjmaa", sum := "65945cee7869bb0074598ba8899dfecab78622de732ca056aa02895c50b7ec64", func := "starling/starlinglaw22.DeskNil", spec := "deskNil", inPlace := ["slices.overlaps[starling/api.Value]"], unfollowed := true, recurses := true, apart := false }
def DeskNilSaid : Prop := deskNilRow.holds Try.pinned (OpenSpec.ofChange deskNilSpec)

/-- ITS FALSE NEIGHBOUR: 'it returns false'. Refute it at one input. -/
def deskNilWrong : ChangeSpec := { name := "deskNil", fn := fun _ => fun
  | [d] => { results := [.lit (.bool false)], args := [d] }
  | _ => none }
def DeskNilWrongFalsely : Prop := deskNilRow.holds Try.pinned (OpenSpec.ofChange deskNilWrong)

/-- 'starlinglaw21.TakeNil': WHATEVER THE INPUT: true; the input reads as it did. -/
def takeNilSpec : ChangeSpec := { name := "takeNil", fn := fun _ => fun
  | [d1, d2] => { results := [.lit (.bool true)], args := [d1, d2] }
  | _ => none }
def takeNilRow : OpenClaim := { program := "ytdbgebbofpgjmaa", sum := "65945cee7869bb0074598ba8899dfecab78622de732ca056aa02895c50b7ec64", func := "starling/starlinglaw21.TakeNil", spec := "takeNil", inPlace := ["slices.overlaps[starling/api.Value]"], unfollowed := true, recurses := true, apart := false }
def TakeNilSaid : Prop := takeNilRow.holds Try.pinned (OpenSpec.ofChange takeNilSpec)

/-- ITS FALSE NEIGHBOUR: 'it returns false'. Refute it at one input. -/
def takeNilWrong : ChangeSpec := { name := "takeNil", fn := fun _ => fun
  | [d1, d2] => { results := [.lit (.bool false)], args := [d1, d2] }
  | _ => none }
def TakeNilWrongFalsely : Prop := takeNilRow.holds Try.pinned (OpenSpec.ofChange takeNilWrong)

/-- 'starlinglaw26.ModelNil': WHATEVER THE INPUT: true; the input reads as it did. -/
def modelNilSpec : ChangeSpec := { name := "modelNil", fn := fun _ => fun
  | [d1, d2] => { results := [.lit (.bool true)], args := [d1, d2] }
  | _ => none }
def modelNilRow : OpenClaim := { program := "ytdbgebbofpgjmaa", sum := "65945cee7869bb0074598ba8899dfecab78622de732ca056aa02895c50b7ec64", func := "starling/starlinglaw26.ModelNil", spec := "modelNil", inPlace := ["slices.overlaps[starling/model.write]", "slices.overlaps[starling/api.Value]"], unfollowed := true, recurses := true, apart := false }
def ModelNilSaid : Prop := modelNilRow.holds Try.pinned (OpenSpec.ofChange modelNilSpec)

/-- ITS FALSE NEIGHBOUR: 'it returns false'. Refute it at one input. -/
def modelNilWrong : ChangeSpec := { name := "modelNil", fn := fun _ => fun
  | [d1, d2] => { results := [.lit (.bool false)], args := [d1, d2] }
  | _ => none }
def ModelNilWrongFalsely : Prop := modelNilRow.holds Try.pinned (OpenSpec.ofChange modelNilWrong)

/- THE SECOND FORM. 'bulk': how many values and letters a reading holds, each counted each time it is reached (what is shared counts as often as it is met; a slice's spare places count too). A statement '..UptoSaid' is the law's where the arguments, and the package variables that the reading takes, are together of bulk at most 1048576: NARROWER than '..Said'. Prove '..Said' where nothing that the law and all that it calls make is longer than what came in: it says more and counts as full. Else prove '..UptoSaid'. A law counts once. -/
mutual
def uptoBulk {H : Type} : DataW H → Nat
  | .lit (.string bytes) => bytes.length + 1
  | .lit _ => 1
  | .nil => 1
  | .ptr d => uptoBulk d + 1
  | .slice elems spare => uptoBulkAll elems + uptoBulkAll spare + 1
  | .agg parts => uptoBulkAll parts + 1
  | .iface _ d => uptoBulk d + 1
  | .map entries => uptoBulkEntries entries + 1
  | .held _ => 1
def uptoBulkAll {H : Type} : List (DataW H) → Nat
  | [] => 0
  | d :: r => uptoBulk d + uptoBulkAll r
def uptoBulkEntries {H : Type} : List (Lit × DataW H) → Nat
  | [] => 0
  | x :: r => uptoBulkEntry x + uptoBulkEntries r
def uptoBulkEntry {H : Type} : Lit × DataW H → Nat
  | (.string bytes, d) => bytes.length + uptoBulk d + 1
  | (_, d) => uptoBulk d + 1
 end
def uptoSmall : (H : Type) → List (DataW H) → Bool := fun _ ds => decide (uptoBulkAll ds ≤ 1048576)
def OpenSpec.upto (s : _root_.Go.ChangeSpec) : _root_.Go.OpenSpec := { _root_.Go.OpenSpec.ofChange s with cond := some uptoSmall }

/-- 'starlinglaw17.LedgerNil', WHERE WHAT IT READS IS OF BULK AT MOST 1048576: true; the input reads as it did. -/
def ledgerNilUptoRow : OpenClaim := { program := "ytdbgebbofpgjmaa", sum := "65945cee7869bb0074598ba8899dfecab78622de732ca056aa02895c50b7ec64", func := "starling/starlinglaw17.LedgerNil", spec := "ledgerNil", unfollowed := true, recurses := true, apart := false, narrowed := true }
def LedgerNilUptoSaid : Prop := ledgerNilUptoRow.holds Try.pinned (OpenSpec.upto ledgerNilSpec)

/-- 'starlinglaw22.DeskNil', WHERE WHAT IT READS IS OF BULK AT MOST 1048576: true; the input reads as it did. -/
def deskNilUptoRow : OpenClaim := { program := "ytdbgebbofpgjmaa", sum := "65945cee7869bb0074598ba8899dfecab78622de732ca056aa02895c50b7ec64", func := "starling/starlinglaw22.DeskNil", spec := "deskNil", inPlace := ["slices.overlaps[starling/api.Value]"], unfollowed := true, recurses := true, apart := false, narrowed := true }
def DeskNilUptoSaid : Prop := deskNilUptoRow.holds Try.pinned (OpenSpec.upto deskNilSpec)

/-- 'starlinglaw21.TakeNil', WHERE WHAT IT READS IS OF BULK AT MOST 1048576: true; the input reads as it did. -/
def takeNilUptoRow : OpenClaim := { program := "ytdbgebbofpgjmaa", sum := "65945cee7869bb0074598ba8899dfecab78622de732ca056aa02895c50b7ec64", func := "starling/starlinglaw21.TakeNil", spec := "takeNil", inPlace := ["slices.overlaps[starling/api.Value]"], unfollowed := true, recurses := true, apart := false, narrowed := true }
def TakeNilUptoSaid : Prop := takeNilUptoRow.holds Try.pinned (OpenSpec.upto takeNilSpec)

/-- 'starlinglaw26.ModelNil', WHERE WHAT IT READS IS OF BULK AT MOST 1048576: true; the input reads as it did. -/
def modelNilUptoRow : OpenClaim := { program := "ytdbgebbofpgjmaa", sum := "65945cee7869bb0074598ba8899dfecab78622de732ca056aa02895c50b7ec64", func := "starling/starlinglaw26.ModelNil", spec := "modelNil", inPlace := ["slices.overlaps[starling/model.write]", "slices.overlaps[starling/api.Value]"], unfollowed := true, recurses := true, apart := false, narrowed := true }
def ModelNilUptoSaid : Prop := modelNilUptoRow.holds Try.pinned (OpenSpec.upto modelNilSpec)

end Rows
end Go.Proofs.Ytdbgebbofpgjmaa

/-
  No cell of these rows narrows 'for every input' (looked for: loops, veiled, ifaces, maps, wideKeys, modest, calm, conditions, laid).
  DERIVED. THE GIVEN ROWS OF THIS SEAT. 5 by the template 'for every input the law returns true; each argument reads behind the call as it read before'; 0 by the template 'total and deterministic' (their statements: YtdbgebbofpgjmaaGreatTotals.lean).
  GIVEN WITH THE SEED: the statements are not yours to turn. If you find one false, say at which input.
  Laid BY PROGRAM, IN A SANDBOX (cutbox-rows.mjs): the forced cells as the released guide's own fill.sh prints them over the translation 0098eab86d6aab68… (all of the seat's roots in one cut). By AI agents, Wed Nov 11 2026. No macro, syntax, notation, axiom, sorry.
-/
import Derived.Test.YtdbgebbofpgjmaaGreatChecked
import GoSem.Claim
import GoSem.ClaimJoined
import GoSem.ClaimMapViews
import Derived.JoinedTies
import Derived.KernelRfl
namespace Go.Proofs.YtdbgebbofpgjmaaGreat
/- THE CELL 'sum', in the pinned program and in every row, IS THE sha256 OF THE DUMP (.gsa) THAT YtdbgebbofpgjmaaGreatProg.lean LOADS. Nothing in Lean hashes anything: it is a label: what it is worth is what the hold of that sum in a sandbox is worth. -/
noncomputable def Tryz.pinned : Pinned := { name := "ytdbgebbofpgjmaagreat", sum := "0098eab86d6aab68d050213ba087ed7a9cfa81d8475ce22a7ad395ef8e6f9aa9", checked := Tryz.checked }
namespace Rows
def none {H : Type} : Left H := { results := [], args := [] }

/-- 'starlinglaw18.VaultNil': WHATEVER THE INPUT: true; the input reads as it did. -/
def vaultNilSpec : ChangeSpec := { name := "vaultNil", fn := fun _ => fun
  | [d] => { results := [.lit (.bool true)], args := [d] }
  | _ => none }
def vaultNilRow : OpenClaim := { program := "ytdbgebbofpgjmaagreat", sum := "0098eab86d6aab68d050213ba087ed7a9cfa81d8475ce22a7ad395ef8e6f9aa9", func := "starling/starlinglaw18.VaultNil", spec := "vaultNil", inPlace := ["slices.overlaps[starling/api.Value]"], unfollowed := true, recurses := true, apart := false }
def VaultNilSaid : Prop := vaultNilRow.holds Tryz.pinned (OpenSpec.ofChange vaultNilSpec)

/-- ITS FALSE NEIGHBOUR: 'it returns false'. Refute it at one input. -/
def vaultNilWrong : ChangeSpec := { name := "vaultNil", fn := fun _ => fun
  | [d] => { results := [.lit (.bool false)], args := [d] }
  | _ => none }
def VaultNilWrongFalsely : Prop := vaultNilRow.holds Tryz.pinned (OpenSpec.ofChange vaultNilWrong)

/-- 'starlinglaw19.FoldNil': WHATEVER THE INPUT: true; the input reads as it did. -/
def foldNilSpec : ChangeSpec := { name := "foldNil", fn := fun _ => fun
  | [d1, d2] => { results := [.lit (.bool true)], args := [d1, d2] }
  | _ => none }
def foldNilRow : OpenClaim := { program := "ytdbgebbofpgjmaagreat", sum := "0098eab86d6aab68d050213ba087ed7a9cfa81d8475ce22a7ad395ef8e6f9aa9", func := "starling/starlinglaw19.FoldNil", spec := "foldNil", inPlace := ["slices.overlaps[starling/api.Value]"], unfollowed := true, recurses := true, apart := false }
def FoldNilSaid : Prop := foldNilRow.holds Tryz.pinned (OpenSpec.ofChange foldNilSpec)

/-- ITS FALSE NEIGHBOUR: 'it returns false'. Refute it at one input. -/
def foldNilWrong : ChangeSpec := { name := "foldNil", fn := fun _ => fun
  | [d1, d2] => { results := [.lit (.bool false)], args := [d1, d2] }
  | _ => none }
def FoldNilWrongFalsely : Prop := foldNilRow.holds Tryz.pinned (OpenSpec.ofChange foldNilWrong)

/-- 'starlinglaw20.GiveNil': WHATEVER THE INPUT: true; the input reads as it did. -/
def giveNilSpec : ChangeSpec := { name := "giveNil", fn := fun _ => fun
  | [d1, d2] => { results := [.lit (.bool true)], args := [d1, d2] }
  | _ => none }
def giveNilRow : OpenClaim := { program := "ytdbgebbofpgjmaagreat", sum := "0098eab86d6aab68d050213ba087ed7a9cfa81d8475ce22a7ad395ef8e6f9aa9", func := "starling/starlinglaw20.GiveNil", spec := "giveNil", unfollowed := true, recurses := true, apart := false }
def GiveNilSaid : Prop := giveNilRow.holds Tryz.pinned (OpenSpec.ofChange giveNilSpec)

/-- ITS FALSE NEIGHBOUR: 'it returns false'. Refute it at one input. -/
def giveNilWrong : ChangeSpec := { name := "giveNil", fn := fun _ => fun
  | [d1, d2] => { results := [.lit (.bool false)], args := [d1, d2] }
  | _ => none }
def GiveNilWrongFalsely : Prop := giveNilRow.holds Tryz.pinned (OpenSpec.ofChange giveNilWrong)

/-- 'starlinglaw23.NodeNil': WHATEVER THE INPUT: true; the input reads as it did. -/
def nodeNilSpec : ChangeSpec := { name := "nodeNil", fn := fun _ => fun
  | [d] => { results := [.lit (.bool true)], args := [d] }
  | _ => none }
def nodeNilRow : OpenClaim := { program := "ytdbgebbofpgjmaagreat", sum := "0098eab86d6aab68d050213ba087ed7a9cfa81d8475ce22a7ad395ef8e6f9aa9", func := "starling/starlinglaw23.NodeNil", spec := "nodeNil", inPlace := ["slices.overlaps[starling/api.Value]"], unfollowed := true, recurses := true, apart := false }
def NodeNilSaid : Prop := nodeNilRow.holds Tryz.pinned (OpenSpec.ofChange nodeNilSpec)

/-- ITS FALSE NEIGHBOUR: 'it returns false'. Refute it at one input. -/
def nodeNilWrong : ChangeSpec := { name := "nodeNil", fn := fun _ => fun
  | [d] => { results := [.lit (.bool false)], args := [d] }
  | _ => none }
def NodeNilWrongFalsely : Prop := nodeNilRow.holds Tryz.pinned (OpenSpec.ofChange nodeNilWrong)

/-- 'starlinglaw25.FlockNil': WHATEVER THE INPUT: true; the input reads as it did. -/
def flockNilSpec : ChangeSpec := { name := "flockNil", fn := fun _ => fun
  | [d1, d2] => { results := [.lit (.bool true)], args := [d1, d2] }
  | _ => none }
def flockNilRow : OpenClaim := { program := "ytdbgebbofpgjmaagreat", sum := "0098eab86d6aab68d050213ba087ed7a9cfa81d8475ce22a7ad395ef8e6f9aa9", func := "starling/starlinglaw25.FlockNil", spec := "flockNil", inPlace := ["slices.overlaps[starling/api.Value]"], unfollowed := true, recurses := true, apart := false }
def FlockNilSaid : Prop := flockNilRow.holds Tryz.pinned (OpenSpec.ofChange flockNilSpec)

/-- ITS FALSE NEIGHBOUR: 'it returns false'. Refute it at one input. -/
def flockNilWrong : ChangeSpec := { name := "flockNil", fn := fun _ => fun
  | [d1, d2] => { results := [.lit (.bool false)], args := [d1, d2] }
  | _ => none }
def FlockNilWrongFalsely : Prop := flockNilRow.holds Tryz.pinned (OpenSpec.ofChange flockNilWrong)

/- THE SECOND FORM. 'bulk': how many values and letters a reading holds, each counted each time it is reached (what is shared counts as often as it is met; a slice's spare places count too). A statement '..UptoSaid' is the law's where the arguments, and the package variables that the reading takes, are together of bulk at most 1048576: NARROWER than '..Said'. Prove '..Said' where nothing that the law and all that it calls make is longer than what came in: it says more and counts as full. Else prove '..UptoSaid'. A law counts once. -/
mutual
def uptoBulk {H : Type} : DataW H → Nat
  | .lit (.string bytes) => bytes.length + 1
  | .lit _ => 1
  | .nil => 1
  | .ptr d => uptoBulk d + 1
  | .slice elems spare => uptoBulkAll elems + uptoBulkAll spare + 1
  | .agg parts => uptoBulkAll parts + 1
  | .iface _ d => uptoBulk d + 1
  | .map entries => uptoBulkEntries entries + 1
  | .held _ => 1
def uptoBulkAll {H : Type} : List (DataW H) → Nat
  | [] => 0
  | d :: r => uptoBulk d + uptoBulkAll r
def uptoBulkEntries {H : Type} : List (Lit × DataW H) → Nat
  | [] => 0
  | x :: r => uptoBulkEntry x + uptoBulkEntries r
def uptoBulkEntry {H : Type} : Lit × DataW H → Nat
  | (.string bytes, d) => bytes.length + uptoBulk d + 1
  | (_, d) => uptoBulk d + 1
 end
def uptoSmall : (H : Type) → List (DataW H) → Bool := fun _ ds => decide (uptoBulkAll ds ≤ 1048576)
def OpenSpec.upto (s : _root_.Go.ChangeSpec) : _root_.Go.OpenSpec := { _root_.Go.OpenSpec.ofChange s with cond := some uptoSmall }

/-- 'starlinglaw18.VaultNil', WHERE WHAT IT READS IS OF BULK AT MOST 1048576: true; the input reads as it did. -/
def vaultNilUptoRow : OpenClaim := { program := "ytdbgebbofpgjmaagreat", sum := "0098eab86d6aab68d050213ba087ed7a9cfa81d8475ce22a7ad395ef8e6f9aa9", func := "starling/starlinglaw18.VaultNil", spec := "vaultNil", inPlace := ["slices.overlaps[starling/api.Value]"], unfollowed := true, recurses := true, apart := false, narrowed := true }
def VaultNilUptoSaid : Prop := vaultNilUptoRow.holds Tryz.pinned (OpenSpec.upto vaultNilSpec)

/-- 'starlinglaw19.FoldNil', WHERE WHAT IT READS IS OF BULK AT MOST 1048576: true; the input reads as it did. -/
def foldNilUptoRow : OpenClaim := { program := "ytdbgebbofpgjmaagreat", sum := "0098eab86d6aab68d050213ba087ed7a9cfa81d8475ce22a7ad395ef8e6f9aa9", func := "starling/starlinglaw19.FoldNil", spec := "foldNil", inPlace := ["slices.overlaps[starling/api.Value]"], unfollowed := true, recurses := true, apart := false, narrowed := true }
def FoldNilUptoSaid : Prop := foldNilUptoRow.holds Tryz.pinned (OpenSpec.upto foldNilSpec)

/-- 'starlinglaw20.GiveNil', WHERE WHAT IT READS IS OF BULK AT MOST 1048576: true; the input reads as it did. -/
def giveNilUptoRow : OpenClaim := { program := "ytdbgebbofpgjmaagreat", sum := "0098eab86d6aab68d050213ba087ed7a9cfa81d8475ce22a7ad395ef8e6f9aa9", func := "starling/starlinglaw20.GiveNil", spec := "giveNil", unfollowed := true, recurses := true, apart := false, narrowed := true }
def GiveNilUptoSaid : Prop := giveNilUptoRow.holds Tryz.pinned (OpenSpec.upto giveNilSpec)

/-- 'starlinglaw23.NodeNil', WHERE WHAT IT READS IS OF BULK AT MOST 1048576: true; the input reads as it did. -/
def nodeNilUptoRow : OpenClaim := { program := "ytdbgebbofpgjmaagreat", sum := "0098eab86d6aab68d050213ba087ed7a9cfa81d8475ce22a7ad395ef8e6f9aa9", func := "starling/starlinglaw23.NodeNil", spec := "nodeNil", inPlace := ["slices.overlaps[starling/api.Value]"], unfollowed := true, recurses := true, apart := false, narrowed := true }
def NodeNilUptoSaid : Prop := nodeNilUptoRow.holds Tryz.pinned (OpenSpec.upto nodeNilSpec)

/-- 'starlinglaw25.FlockNil', WHERE WHAT IT READS IS OF BULK AT MOST 1048576: true; the input reads as it did. -/
def flockNilUptoRow : OpenClaim := { program := "ytdbgebbofpgjmaagreat", sum := "0098eab86d6aab68d050213ba087ed7a9cfa81d8475ce22a7ad395ef8e6f9aa9", func := "starling/starlinglaw25.FlockNil", spec := "flockNil", inPlace := ["slices.overlaps[starling/api.Value]"], unfollowed := true, recurses := true, apart := false, narrowed := true }
def FlockNilUptoSaid : Prop := flockNilUptoRow.holds Tryz.pinned (OpenSpec.upto flockNilSpec)

end Rows
end Go.Proofs.YtdbgebbofpgjmaaGreat

/-
  No cell of these rows narrows 'for every input' (looked for: loops, veiled, ifaces, maps, wideKeys, modest, calm, conditions, laid).
  DERIVED. THE GIVEN ROWS OF THIS SEAT. 8 by the template 'for every input the law returns true; each argument reads behind the call as it read before'; 0 by the template 'total and deterministic' (their statements: YtflgfiieaoeknaaTotals.lean).
  GIVEN WITH THE SEED: the statements are not yours to turn. If you find one false, say at which input.
  Laid BY PROGRAM, IN A SANDBOX (cutbox-rows.mjs): the forced cells as the released guide's own fill.sh prints them over the translation 31490c1e4dc6e178… (all of the seat's roots in one cut). By AI agents, Wed Nov 11 2026. No macro, syntax, notation, axiom, sorry.
-/
import Derived.Test.YtflgfiieaoeknaaChecked
import GoSem.Claim
import GoSem.ClaimJoined
import GoSem.ClaimMapViews
import Derived.JoinedTies
import Derived.KernelRfl
namespace Go.Proofs.Ytflgfiieaoeknaa
/- THE CELL 'sum', in the pinned program and in every row, IS THE sha256 OF THE DUMP (.gsa) THAT YtflgfiieaoeknaaProg.lean LOADS. Nothing in Lean hashes anything: it is a label: what it is worth is what the hold of that sum in a sandbox is worth. -/
noncomputable def Try.pinned : Pinned := { name := "ytflgfiieaoeknaa", sum := "31490c1e4dc6e178a36ea908fd3cb5d37e52888010d44b88a13868be4a340f81", checked := Try.checked }
namespace Rows
def none {H : Type} : Left H := { results := [], args := [] }

/-- 'starlinglaw18.VaultMerges': WHATEVER THE INPUT: true; the input reads as it did. -/
def vaultMergesSpec : ChangeSpec := { name := "vaultMerges", fn := fun _ => fun
  | [d1, d2] => { results := [.lit (.bool true)], args := [d1, d2] }
  | _ => none }
def vaultMergesRow : OpenClaim := { program := "ytflgfiieaoeknaa", sum := "31490c1e4dc6e178a36ea908fd3cb5d37e52888010d44b88a13868be4a340f81", func := "starling/starlinglaw18.VaultMerges", spec := "vaultMerges", inPlace := ["slices.overlaps[starling/api.Value]"], unfollowed := true, recurses := true, apart := false }
def VaultMergesSaid : Prop := vaultMergesRow.holds Try.pinned (OpenSpec.ofChange vaultMergesSpec)

/-- ITS FALSE NEIGHBOUR: 'it returns false'. Refute it at one input. -/
def vaultMergesWrong : ChangeSpec := { name := "vaultMerges", fn := fun _ => fun
  | [d1, d2] => { results := [.lit (.bool false)], args := [d1, d2] }
  | _ => none }
def VaultMergesWrongFalsely : Prop := vaultMergesRow.holds Try.pinned (OpenSpec.ofChange vaultMergesWrong)

/-- 'starlinglaw22.DeskOwners': WHATEVER THE INPUT: true; the input reads as it did. -/
def deskOwnersSpec : ChangeSpec := { name := "deskOwners", fn := fun _ => fun
  | [d1, d2, d3] => { results := [.lit (.bool true)], args := [d1, d2, d3] }
  | _ => none }
def deskOwnersRow : OpenClaim := { program := "ytflgfiieaoeknaa", sum := "31490c1e4dc6e178a36ea908fd3cb5d37e52888010d44b88a13868be4a340f81", func := "starling/starlinglaw22.DeskOwners", spec := "deskOwners", inPlace := ["slices.overlaps[starling/api.Value]"], unfollowed := true, recurses := true, apart := false }
def DeskOwnersSaid : Prop := deskOwnersRow.holds Try.pinned (OpenSpec.ofChange deskOwnersSpec)

/-- ITS FALSE NEIGHBOUR: 'it returns false'. Refute it at one input. -/
def deskOwnersWrong : ChangeSpec := { name := "deskOwners", fn := fun _ => fun
  | [d1, d2, d3] => { results := [.lit (.bool false)], args := [d1, d2, d3] }
  | _ => none }
def DeskOwnersWrongFalsely : Prop := deskOwnersRow.holds Try.pinned (OpenSpec.ofChange deskOwnersWrong)

/-- 'starlinglaw22.DeskBeside': WHATEVER THE INPUT: true; the input reads as it did. -/
def deskBesideSpec : ChangeSpec := { name := "deskBeside", fn := fun _ => fun
  | [d1, d2] => { results := [.lit (.bool true)], args := [d1, d2] }
  | _ => none }
def deskBesideRow : OpenClaim := { program := "ytflgfiieaoeknaa", sum := "31490c1e4dc6e178a36ea908fd3cb5d37e52888010d44b88a13868be4a340f81", func := "starling/starlinglaw22.DeskBeside", spec := "deskBeside", inPlace := ["slices.overlaps[starling/api.Value]"], unfollowed := true, recurses := true, apart := false }
def DeskBesideSaid : Prop := deskBesideRow.holds Try.pinned (OpenSpec.ofChange deskBesideSpec)

/-- ITS FALSE NEIGHBOUR: 'it returns false'. Refute it at one input. -/
def deskBesideWrong : ChangeSpec := { name := "deskBeside", fn := fun _ => fun
  | [d1, d2] => { results := [.lit (.bool false)], args := [d1, d2] }
  | _ => none }
def DeskBesideWrongFalsely : Prop := deskBesideRow.holds Try.pinned (OpenSpec.ofChange deskBesideWrong)

/-- 'starlinglaw22.DeskSure': WHATEVER THE INPUT: true; the input reads as it did. -/
def deskSureSpec : ChangeSpec := { name := "deskSure", fn := fun _ => fun
  | [d1, d2] => { results := [.lit (.bool true)], args := [d1, d2] }
  | _ => none }
def deskSureRow : OpenClaim := { program := "ytflgfiieaoeknaa", sum := "31490c1e4dc6e178a36ea908fd3cb5d37e52888010d44b88a13868be4a340f81", func := "starling/starlinglaw22.DeskSure", spec := "deskSure", inPlace := ["slices.overlaps[starling/api.Value]"], unfollowed := true, recurses := true, apart := false }
def DeskSureSaid : Prop := deskSureRow.holds Try.pinned (OpenSpec.ofChange deskSureSpec)

/-- ITS FALSE NEIGHBOUR: 'it returns false'. Refute it at one input. -/
def deskSureWrong : ChangeSpec := { name := "deskSure", fn := fun _ => fun
  | [d1, d2] => { results := [.lit (.bool false)], args := [d1, d2] }
  | _ => none }
def DeskSureWrongFalsely : Prop := deskSureRow.holds Try.pinned (OpenSpec.ofChange deskSureWrong)

/-- 'starlinglaw21.TakeNil': WHATEVER THE INPUT: true; the input reads as it did. -/
def takeNilSpec : ChangeSpec := { name := "takeNil", fn := fun _ => fun
  | [d1, d2] => { results := [.lit (.bool true)], args := [d1, d2] }
  | _ => none }
def takeNilRow : OpenClaim := { program := "ytflgfiieaoeknaa", sum := "31490c1e4dc6e178a36ea908fd3cb5d37e52888010d44b88a13868be4a340f81", func := "starling/starlinglaw21.TakeNil", spec := "takeNil", inPlace := ["slices.overlaps[starling/api.Value]"], unfollowed := true, recurses := true, apart := false }
def TakeNilSaid : Prop := takeNilRow.holds Try.pinned (OpenSpec.ofChange takeNilSpec)

/-- ITS FALSE NEIGHBOUR: 'it returns false'. Refute it at one input. -/
def takeNilWrong : ChangeSpec := { name := "takeNil", fn := fun _ => fun
  | [d1, d2] => { results := [.lit (.bool false)], args := [d1, d2] }
  | _ => none }
def TakeNilWrongFalsely : Prop := takeNilRow.holds Try.pinned (OpenSpec.ofChange takeNilWrong)

/-- 'starlinglaw21.TakeEpochs': WHATEVER THE INPUT: true; the input reads as it did. -/
def takeEpochsSpec : ChangeSpec := { name := "takeEpochs", fn := fun _ => fun
  | [d1, d2, d3, d4, d5] => { results := [.lit (.bool true)], args := [d1, d2, d3, d4, d5] }
  | _ => none }
def takeEpochsRow : OpenClaim := { program := "ytflgfiieaoeknaa", sum := "31490c1e4dc6e178a36ea908fd3cb5d37e52888010d44b88a13868be4a340f81", func := "starling/starlinglaw21.TakeEpochs", spec := "takeEpochs", inPlace := ["slices.overlaps[starling/api.Value]"], unfollowed := true, recurses := true, apart := false }
def TakeEpochsSaid : Prop := takeEpochsRow.holds Try.pinned (OpenSpec.ofChange takeEpochsSpec)

/-- ITS FALSE NEIGHBOUR: 'it returns false'. Refute it at one input. -/
def takeEpochsWrong : ChangeSpec := { name := "takeEpochs", fn := fun _ => fun
  | [d1, d2, d3, d4, d5] => { results := [.lit (.bool false)], args := [d1, d2, d3, d4, d5] }
  | _ => none }
def TakeEpochsWrongFalsely : Prop := takeEpochsRow.holds Try.pinned (OpenSpec.ofChange takeEpochsWrong)

/-- 'starlinglaw18.VaultKeys': WHATEVER THE INPUT: true; the input reads as it did. -/
def vaultKeysSpec : ChangeSpec := { name := "vaultKeys", fn := fun _ => fun
  | [d1, d2] => { results := [.lit (.bool true)], args := [d1, d2] }
  | _ => none }
def vaultKeysRow : OpenClaim := { program := "ytflgfiieaoeknaa", sum := "31490c1e4dc6e178a36ea908fd3cb5d37e52888010d44b88a13868be4a340f81", func := "starling/starlinglaw18.VaultKeys", spec := "vaultKeys", inPlace := ["slices.overlaps[starling/api.Value]"], unfollowed := true, recurses := true, apart := false }
def VaultKeysSaid : Prop := vaultKeysRow.holds Try.pinned (OpenSpec.ofChange vaultKeysSpec)

/-- ITS FALSE NEIGHBOUR: 'it returns false'. Refute it at one input. -/
def vaultKeysWrong : ChangeSpec := { name := "vaultKeys", fn := fun _ => fun
  | [d1, d2] => { results := [.lit (.bool false)], args := [d1, d2] }
  | _ => none }
def VaultKeysWrongFalsely : Prop := vaultKeysRow.holds Try.pinned (OpenSpec.ofChange vaultKeysWrong)

/-- 'starlinglaw18.VaultFull': WHATEVER THE INPUT: true; the input reads as it did. -/
def vaultFullSpec : ChangeSpec := { name := "vaultFull", fn := fun _ => fun
  | [d1, d2] => { results := [.lit (.bool true)], args := [d1, d2] }
  | _ => none }
def vaultFullRow : OpenClaim := { program := "ytflgfiieaoeknaa", sum := "31490c1e4dc6e178a36ea908fd3cb5d37e52888010d44b88a13868be4a340f81", func := "starling/starlinglaw18.VaultFull", spec := "vaultFull", inPlace := ["slices.overlaps[starling/api.Value]"], unfollowed := true, recurses := true, apart := false }
def VaultFullSaid : Prop := vaultFullRow.holds Try.pinned (OpenSpec.ofChange vaultFullSpec)

/-- ITS FALSE NEIGHBOUR: 'it returns false'. Refute it at one input. -/
def vaultFullWrong : ChangeSpec := { name := "vaultFull", fn := fun _ => fun
  | [d1, d2] => { results := [.lit (.bool false)], args := [d1, d2] }
  | _ => none }
def VaultFullWrongFalsely : Prop := vaultFullRow.holds Try.pinned (OpenSpec.ofChange vaultFullWrong)

/- THE SECOND FORM. 'bulk': how many values and letters a reading holds, each counted each time it is reached (what is shared counts as often as it is met; a slice's spare places count too). A statement '..UptoSaid' is the law's where the arguments, and the package variables that the reading takes, are together of bulk at most 1048576: NARROWER than '..Said'. Prove '..Said' where nothing that the law and all that it calls make is longer than what came in: it says more and counts as full. Else prove '..UptoSaid'. A law counts once. -/
mutual
def uptoBulk {H : Type} : DataW H → Nat
  | .lit (.string bytes) => bytes.length + 1
  | .lit _ => 1
  | .nil => 1
  | .ptr d => uptoBulk d + 1
  | .slice elems spare => uptoBulkAll elems + uptoBulkAll spare + 1
  | .agg parts => uptoBulkAll parts + 1
  | .iface _ d => uptoBulk d + 1
  | .map entries => uptoBulkEntries entries + 1
  | .held _ => 1
def uptoBulkAll {H : Type} : List (DataW H) → Nat
  | [] => 0
  | d :: r => uptoBulk d + uptoBulkAll r
def uptoBulkEntries {H : Type} : List (Lit × DataW H) → Nat
  | [] => 0
  | x :: r => uptoBulkEntry x + uptoBulkEntries r
def uptoBulkEntry {H : Type} : Lit × DataW H → Nat
  | (.string bytes, d) => bytes.length + uptoBulk d + 1
  | (_, d) => uptoBulk d + 1
 end
def uptoSmall : (H : Type) → List (DataW H) → Bool := fun _ ds => decide (uptoBulkAll ds ≤ 1048576)
def OpenSpec.upto (s : _root_.Go.ChangeSpec) : _root_.Go.OpenSpec := { _root_.Go.OpenSpec.ofChange s with cond := some uptoSmall }

/-- 'starlinglaw18.VaultMerges', WHERE WHAT IT READS IS OF BULK AT MOST 1048576: true; the input reads as it did. -/
def vaultMergesUptoRow : OpenClaim := { program := "ytflgfiieaoeknaa", sum := "31490c1e4dc6e178a36ea908fd3cb5d37e52888010d44b88a13868be4a340f81", func := "starling/starlinglaw18.VaultMerges", spec := "vaultMerges", inPlace := ["slices.overlaps[starling/api.Value]"], unfollowed := true, recurses := true, apart := false, narrowed := true }
def VaultMergesUptoSaid : Prop := vaultMergesUptoRow.holds Try.pinned (OpenSpec.upto vaultMergesSpec)

/-- 'starlinglaw22.DeskOwners', WHERE WHAT IT READS IS OF BULK AT MOST 1048576: true; the input reads as it did. -/
def deskOwnersUptoRow : OpenClaim := { program := "ytflgfiieaoeknaa", sum := "31490c1e4dc6e178a36ea908fd3cb5d37e52888010d44b88a13868be4a340f81", func := "starling/starlinglaw22.DeskOwners", spec := "deskOwners", inPlace := ["slices.overlaps[starling/api.Value]"], unfollowed := true, recurses := true, apart := false, narrowed := true }
def DeskOwnersUptoSaid : Prop := deskOwnersUptoRow.holds Try.pinned (OpenSpec.upto deskOwnersSpec)

/-- 'starlinglaw22.DeskBeside', WHERE WHAT IT READS IS OF BULK AT MOST 1048576: true; the input reads as it did. -/
def deskBesideUptoRow : OpenClaim := { program := "ytflgfiieaoeknaa", sum := "31490c1e4dc6e178a36ea908fd3cb5d37e52888010d44b88a13868be4a340f81", func := "starling/starlinglaw22.DeskBeside", spec := "deskBeside", inPlace := ["slices.overlaps[starling/api.Value]"], unfollowed := true, recurses := true, apart := false, narrowed := true }
def DeskBesideUptoSaid : Prop := deskBesideUptoRow.holds Try.pinned (OpenSpec.upto deskBesideSpec)

/-- 'starlinglaw22.DeskSure', WHERE WHAT IT READS IS OF BULK AT MOST 1048576: true; the input reads as it did. -/
def deskSureUptoRow : OpenClaim := { program := "ytflgfiieaoeknaa", sum := "31490c1e4dc6e178a36ea908fd3cb5d37e52888010d44b88a13868be4a340f81", func := "starling/starlinglaw22.DeskSure", spec := "deskSure", inPlace := ["slices.overlaps[starling/api.Value]"], unfollowed := true, recurses := true, apart := false, narrowed := true }
def DeskSureUptoSaid : Prop := deskSureUptoRow.holds Try.pinned (OpenSpec.upto deskSureSpec)

/-- 'starlinglaw21.TakeNil', WHERE WHAT IT READS IS OF BULK AT MOST 1048576: true; the input reads as it did. -/
def takeNilUptoRow : OpenClaim := { program := "ytflgfiieaoeknaa", sum := "31490c1e4dc6e178a36ea908fd3cb5d37e52888010d44b88a13868be4a340f81", func := "starling/starlinglaw21.TakeNil", spec := "takeNil", inPlace := ["slices.overlaps[starling/api.Value]"], unfollowed := true, recurses := true, apart := false, narrowed := true }
def TakeNilUptoSaid : Prop := takeNilUptoRow.holds Try.pinned (OpenSpec.upto takeNilSpec)

/-- 'starlinglaw21.TakeEpochs', WHERE WHAT IT READS IS OF BULK AT MOST 1048576: true; the input reads as it did. -/
def takeEpochsUptoRow : OpenClaim := { program := "ytflgfiieaoeknaa", sum := "31490c1e4dc6e178a36ea908fd3cb5d37e52888010d44b88a13868be4a340f81", func := "starling/starlinglaw21.TakeEpochs", spec := "takeEpochs", inPlace := ["slices.overlaps[starling/api.Value]"], unfollowed := true, recurses := true, apart := false, narrowed := true }
def TakeEpochsUptoSaid : Prop := takeEpochsUptoRow.holds Try.pinned (OpenSpec.upto takeEpochsSpec)

/-- 'starlinglaw18.VaultKeys', WHERE WHAT IT READS IS OF BULK AT MOST 1048576: true; the input reads as it did. -/
def vaultKeysUptoRow : OpenClaim := { program := "ytflgfiieaoeknaa", sum := "31490c1e4dc6e178a36ea908fd3cb5d37e52888010d44b88a13868be4a340f81", func := "starling/starlinglaw18.VaultKeys", spec := "vaultKeys", inPlace := ["slices.overlaps[starling/api.Value]"], unfollowed := true, recurses := true, apart := false, narrowed := true }
def VaultKeysUptoSaid : Prop := vaultKeysUptoRow.holds Try.pinned (OpenSpec.upto vaultKeysSpec)

/-- 'starlinglaw18.VaultFull', WHERE WHAT IT READS IS OF BULK AT MOST 1048576: true; the input reads as it did. -/
def vaultFullUptoRow : OpenClaim := { program := "ytflgfiieaoeknaa", sum := "31490c1e4dc6e178a36ea908fd3cb5d37e52888010d44b88a13868be4a340f81", func := "starling/starlinglaw18.VaultFull", spec := "vaultFull", inPlace := ["slices.overlaps[starling/api.Value]"], unfollowed := true, recurses := true, apart := false, narrowed := true }
def VaultFullUptoSaid : Prop := vaultFullUptoRow.holds Try.pinned (OpenSpec.upto vaultFullSpec)

end Rows
end Go.Proofs.Ytflgfiieaoeknaa

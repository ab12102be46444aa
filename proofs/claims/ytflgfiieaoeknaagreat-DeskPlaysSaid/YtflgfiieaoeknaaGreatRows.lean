/-
  No cell of these rows narrows 'for every input' (looked for: loops, veiled, ifaces, maps, wideKeys, modest, calm, conditions, laid).
  DERIVED. THE GIVEN ROWS OF THIS SEAT. 4 by the template 'for every input the law returns true; each argument reads behind the call as it read before'; 0 by the template 'total and deterministic' (their statements: YtflgfiieaoeknaaGreatTotals.lean).
  GIVEN WITH THE SEED: the statements are not yours to turn. If you find one false, say at which input.
  Laid BY PROGRAM, IN A SANDBOX (cutbox-rows.mjs): the forced cells as the released guide's own fill.sh prints them over the translation c7d340c298e04fdd… (all of the seat's roots in one cut). By AI agents, Wed Nov 11 2026. No macro, syntax, notation, axiom, sorry.
-/
import Derived.Test.YtflgfiieaoeknaaGreatChecked
import GoSem.Claim
import GoSem.ClaimJoined
import GoSem.ClaimMapViews
import Derived.JoinedTies
import Derived.KernelRfl
namespace Go.Proofs.YtflgfiieaoeknaaGreat
/- THE CELL 'sum', in the pinned program and in every row, IS THE sha256 OF THE DUMP (.gsa) THAT YtflgfiieaoeknaaGreatProg.lean LOADS. Nothing in Lean hashes anything: it is a label: what it is worth is what the hold of that sum in a sandbox is worth. -/
noncomputable def Tryz.pinned : Pinned := { name := "ytflgfiieaoeknaagreat", sum := "c7d340c298e04fdd85d8d51430f35f6a8824af7ed49202bec540ce5219b65ed1", checked := Tryz.checked }
namespace Rows
def none {H : Type} : Left H := { results := [], args := [] }

/-- 'starlinglaw22.DeskPlays': WHATEVER THE INPUT: true; the input reads as it did. -/
def deskPlaysSpec : ChangeSpec := { name := "deskPlays", fn := fun _ => fun
  | [d1, d2] => { results := [.lit (.bool true)], args := [d1, d2] }
  | _ => none }
def deskPlaysRow : OpenClaim := { program := "ytflgfiieaoeknaagreat", sum := "c7d340c298e04fdd85d8d51430f35f6a8824af7ed49202bec540ce5219b65ed1", func := "starling/starlinglaw22.DeskPlays", spec := "deskPlays", inPlace := ["slices.overlaps[starling/api.Value]"], unfollowed := true, recurses := true, plainKeys := false, apart := false }
def DeskPlaysSaid : Prop := deskPlaysRow.holds Tryz.pinned (OpenSpec.ofChange deskPlaysSpec)

/-- ITS FALSE NEIGHBOUR: 'it returns false'. Refute it at one input. -/
def deskPlaysWrong : ChangeSpec := { name := "deskPlays", fn := fun _ => fun
  | [d1, d2] => { results := [.lit (.bool false)], args := [d1, d2] }
  | _ => none }
def DeskPlaysWrongFalsely : Prop := deskPlaysRow.holds Tryz.pinned (OpenSpec.ofChange deskPlaysWrong)

/-- 'starlinglaw21.TakeSure': WHATEVER THE INPUT: true; the input reads as it did. -/
def takeSureSpec : ChangeSpec := { name := "takeSure", fn := fun _ => fun
  | [d1, d2, d3, d4] => { results := [.lit (.bool true)], args := [d1, d2, d3, d4] }
  | _ => none }
def takeSureRow : OpenClaim := { program := "ytflgfiieaoeknaagreat", sum := "c7d340c298e04fdd85d8d51430f35f6a8824af7ed49202bec540ce5219b65ed1", func := "starling/starlinglaw21.TakeSure", spec := "takeSure", inPlace := ["slices.overlaps[starling/api.Value]"], unfollowed := true, recurses := true, plainKeys := false, apart := false }
def TakeSureSaid : Prop := takeSureRow.holds Tryz.pinned (OpenSpec.ofChange takeSureSpec)

/-- ITS FALSE NEIGHBOUR: 'it returns false'. Refute it at one input. -/
def takeSureWrong : ChangeSpec := { name := "takeSure", fn := fun _ => fun
  | [d1, d2, d3, d4] => { results := [.lit (.bool false)], args := [d1, d2, d3, d4] }
  | _ => none }
def TakeSureWrongFalsely : Prop := takeSureRow.holds Tryz.pinned (OpenSpec.ofChange takeSureWrong)

/-- 'starlinglaw18.VaultLasts': WHATEVER THE INPUT: true; the input reads as it did. -/
def vaultLastsSpec : ChangeSpec := { name := "vaultLasts", fn := fun _ => fun
  | [d] => { results := [.lit (.bool true)], args := [d] }
  | _ => none }
def vaultLastsRow : OpenClaim := { program := "ytflgfiieaoeknaagreat", sum := "c7d340c298e04fdd85d8d51430f35f6a8824af7ed49202bec540ce5219b65ed1", func := "starling/starlinglaw18.VaultLasts", spec := "vaultLasts", inPlace := ["slices.overlaps[starling/api.Value]"], unfollowed := true, recurses := true, plainKeys := false, apart := false }
def VaultLastsSaid : Prop := vaultLastsRow.holds Tryz.pinned (OpenSpec.ofChange vaultLastsSpec)

/-- ITS FALSE NEIGHBOUR: 'it returns false'. Refute it at one input. -/
def vaultLastsWrong : ChangeSpec := { name := "vaultLasts", fn := fun _ => fun
  | [d] => { results := [.lit (.bool false)], args := [d] }
  | _ => none }
def VaultLastsWrongFalsely : Prop := vaultLastsRow.holds Tryz.pinned (OpenSpec.ofChange vaultLastsWrong)

/-- 'starlinglaw19.FoldOrder': WHATEVER THE INPUT: true; the input reads as it did. -/
def foldOrderSpec : ChangeSpec := { name := "foldOrder", fn := fun _ => fun
  | [d1, d2] => { results := [.lit (.bool true)], args := [d1, d2] }
  | _ => none }
def foldOrderRow : OpenClaim := { program := "ytflgfiieaoeknaagreat", sum := "c7d340c298e04fdd85d8d51430f35f6a8824af7ed49202bec540ce5219b65ed1", func := "starling/starlinglaw19.FoldOrder", spec := "foldOrder", inPlace := ["slices.overlaps[starling/api.Value]"], unfollowed := true, recurses := true, plainKeys := false, apart := false }
def FoldOrderSaid : Prop := foldOrderRow.holds Tryz.pinned (OpenSpec.ofChange foldOrderSpec)

/-- ITS FALSE NEIGHBOUR: 'it returns false'. Refute it at one input. -/
def foldOrderWrong : ChangeSpec := { name := "foldOrder", fn := fun _ => fun
  | [d1, d2] => { results := [.lit (.bool false)], args := [d1, d2] }
  | _ => none }
def FoldOrderWrongFalsely : Prop := foldOrderRow.holds Tryz.pinned (OpenSpec.ofChange foldOrderWrong)

/- THE SECOND FORM. 'bulk': how many values and letters a reading holds, each counted each time it is reached (what is shared counts as often as it is met; a slice's spare places count too). A statement '..UptoSaid' is the law's where the arguments, and the package variables that the reading takes, are together of bulk at most 1048576: NARROWER than '..Said'. Prove '..Said' where nothing that the law and all that it calls make is longer than what came in: it says more and counts as full. Else prove '..UptoSaid'. A law counts once. -/
mutual
def uptoBulk {H : Type} : DataW H → Nat
  | .lit (.string bytes) => bytes.length + 1
  | .lit _ => 1
  | .nil => 1
  | .ptr d => uptoBulk d + 1
  | .slice elems spare => uptoBulkAll elems + uptoBulkAll spare + 1
  | .agg parts => uptoBulkAll parts + 1
  | .iface _ d => uptoBulk d + 1
  | .map entries => uptoBulkEntries entries + 1
  | .held _ => 1
def uptoBulkAll {H : Type} : List (DataW H) → Nat
  | [] => 0
  | d :: r => uptoBulk d + uptoBulkAll r
def uptoBulkEntries {H : Type} : List (Lit × DataW H) → Nat
  | [] => 0
  | x :: r => uptoBulkEntry x + uptoBulkEntries r
def uptoBulkEntry {H : Type} : Lit × DataW H → Nat
  | (.string bytes, d) => bytes.length + uptoBulk d + 1
  | (_, d) => uptoBulk d + 1
 end
def uptoSmall : (H : Type) → List (DataW H) → Bool := fun _ ds => decide (uptoBulkAll ds ≤ 1048576)
def OpenSpec.upto (s : _root_.Go.ChangeSpec) : _root_.Go.OpenSpec := { _root_.Go.OpenSpec.ofChange s with cond := some uptoSmall }

/-- 'starlinglaw22.DeskPlays', WHERE WHAT IT READS IS OF BULK AT MOST 1048576: true; the input reads as it did. -/
def deskPlaysUptoRow : OpenClaim := { program := "ytflgfiieaoeknaagreat", sum := "c7d340c298e04fdd85d8d51430f35f6a8824af7ed49202bec540ce5219b65ed1", func := "starling/starlinglaw22.DeskPlays", spec := "deskPlays", inPlace := ["slices.overlaps[starling/api.Value]"], unfollowed := true, recurses := true, plainKeys := false, apart := false, narrowed := true }
def DeskPlaysUptoSaid : Prop := deskPlaysUptoRow.holds Tryz.pinned (OpenSpec.upto deskPlaysSpec)

/-- 'starlinglaw21.TakeSure', WHERE WHAT IT READS IS OF BULK AT MOST 1048576: true; the input reads as it did. -/
def takeSureUptoRow : OpenClaim := { program := "ytflgfiieaoeknaagreat", sum := "c7d340c298e04fdd85d8d51430f35f6a8824af7ed49202bec540ce5219b65ed1", func := "starling/starlinglaw21.TakeSure", spec := "takeSure", inPlace := ["slices.overlaps[starling/api.Value]"], unfollowed := true, recurses := true, plainKeys := false, apart := false, narrowed := true }
def TakeSureUptoSaid : Prop := takeSureUptoRow.holds Tryz.pinned (OpenSpec.upto takeSureSpec)

/-- 'starlinglaw18.VaultLasts', WHERE WHAT IT READS IS OF BULK AT MOST 1048576: true; the input reads as it did. -/
def vaultLastsUptoRow : OpenClaim := { program := "ytflgfiieaoeknaagreat", sum := "c7d340c298e04fdd85d8d51430f35f6a8824af7ed49202bec540ce5219b65ed1", func := "starling/starlinglaw18.VaultLasts", spec := "vaultLasts", inPlace := ["slices.overlaps[starling/api.Value]"], unfollowed := true, recurses := true, plainKeys := false, apart := false, narrowed := true }
def VaultLastsUptoSaid : Prop := vaultLastsUptoRow.holds Tryz.pinned (OpenSpec.upto vaultLastsSpec)

/-- 'starlinglaw19.FoldOrder', WHERE WHAT IT READS IS OF BULK AT MOST 1048576: true; the input reads as it did. -/
def foldOrderUptoRow : OpenClaim := { program := "ytflgfiieaoeknaagreat", sum := "c7d340c298e04fdd85d8d51430f35f6a8824af7ed49202bec540ce5219b65ed1", func := "starling/starlinglaw19.FoldOrder", spec := "foldOrder", inPlace := ["slices.overlaps[starling/api.Value]"], unfollowed := true, recurses := true, plainKeys := false, apart := false, narrowed := true }
def FoldOrderUptoSaid : Prop := foldOrderUptoRow.holds Tryz.pinned (OpenSpec.upto foldOrderSpec)

end Rows
end Go.Proofs.YtflgfiieaoeknaaGreat

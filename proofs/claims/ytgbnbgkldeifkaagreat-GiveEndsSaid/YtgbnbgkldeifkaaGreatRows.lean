/-
  No cell of these rows narrows 'for every input' (looked for: loops, veiled, ifaces, maps, wideKeys, modest, calm, conditions, laid).
  DERIVED. THE GIVEN ROWS OF THIS SEAT. 10 by the template 'for every input the law returns true; each argument reads behind the call as it read before'; 0 by the template 'total and deterministic' (their statements: YtgbnbgkldeifkaaGreatTotals.lean).
  GIVEN WITH THE SEED: the statements are not yours to turn. If you find one false, say at which input.
  Laid BY PROGRAM, IN A SANDBOX (cutbox-rows.mjs): the forced cells as the released guide's own fill.sh prints them over the translation e48f0e21ba54a2c1… (all of the seat's roots in one cut). By AI agents, Wed Nov 11 2026. No macro, syntax, notation, axiom, sorry.
-/
import Derived.Test.YtgbnbgkldeifkaaGreatChecked
import GoSem.Claim
import GoSem.ClaimJoined
import GoSem.ClaimMapViews
import Derived.JoinedTies
import Derived.KernelRfl
namespace Go.Proofs.YtgbnbgkldeifkaaGreat
/- THE CELL 'sum', in the pinned program and in every row, IS THE sha256 OF THE DUMP (.gsa) THAT YtgbnbgkldeifkaaGreatProg.lean LOADS. Nothing in Lean hashes anything: it is a label: what it is worth is what the hold of that sum in a sandbox is worth. -/
noncomputable def Tryz.pinned : Pinned := { name := "ytgbnbgkldeifkaagreat", sum := "e48f0e21ba54a2c108f17b9d3453fd2ef63739e80b8a41f9c404d7635faf1a37", checked := Tryz.checked }
namespace Rows
def none {H : Type} : Left H := { results := [], args := [] }

/-- 'starlinglaw18.VaultLasts': WHATEVER THE INPUT: true; the input reads as it did. -/
def vaultLastsSpec : ChangeSpec := { name := "vaultLasts", fn := fun _ => fun
  | [d] => { results := [.lit (.bool true)], args := [d] }
  | _ => none }
def vaultLastsRow : OpenClaim := { program := "ytgbnbgkldeifkaagreat", sum := "e48f0e21ba54a2c108f17b9d3453fd2ef63739e80b8a41f9c404d7635faf1a37", func := "starling/starlinglaw18.VaultLasts", spec := "vaultLasts", inPlace := ["slices.overlaps[starling/api.Value]"], unfollowed := true, recurses := true, plainKeys := false, apart := false }
def VaultLastsSaid : Prop := vaultLastsRow.holds Tryz.pinned (OpenSpec.ofChange vaultLastsSpec)

/-- ITS FALSE NEIGHBOUR: 'it returns false'. Refute it at one input. -/
def vaultLastsWrong : ChangeSpec := { name := "vaultLasts", fn := fun _ => fun
  | [d] => { results := [.lit (.bool false)], args := [d] }
  | _ => none }
def VaultLastsWrongFalsely : Prop := vaultLastsRow.holds Tryz.pinned (OpenSpec.ofChange vaultLastsWrong)

/-- 'starlinglaw19.FoldAll': WHATEVER THE INPUT: true; the input reads as it did. -/
def foldAllSpec : ChangeSpec := { name := "foldAll", fn := fun _ => fun
  | [d1, d2] => { results := [.lit (.bool true)], args := [d1, d2] }
  | _ => none }
def foldAllRow : OpenClaim := { program := "ytgbnbgkldeifkaagreat", sum := "e48f0e21ba54a2c108f17b9d3453fd2ef63739e80b8a41f9c404d7635faf1a37", func := "starling/starlinglaw19.FoldAll", spec := "foldAll", inPlace := ["slices.overlaps[starling/api.Value]"], unfollowed := true, recurses := true, plainKeys := false, apart := false }
def FoldAllSaid : Prop := foldAllRow.holds Tryz.pinned (OpenSpec.ofChange foldAllSpec)

/-- ITS FALSE NEIGHBOUR: 'it returns false'. Refute it at one input. -/
def foldAllWrong : ChangeSpec := { name := "foldAll", fn := fun _ => fun
  | [d1, d2] => { results := [.lit (.bool false)], args := [d1, d2] }
  | _ => none }
def FoldAllWrongFalsely : Prop := foldAllRow.holds Tryz.pinned (OpenSpec.ofChange foldAllWrong)

/-- 'starlinglaw19.FoldOrder': WHATEVER THE INPUT: true; the input reads as it did. -/
def foldOrderSpec : ChangeSpec := { name := "foldOrder", fn := fun _ => fun
  | [d1, d2] => { results := [.lit (.bool true)], args := [d1, d2] }
  | _ => none }
def foldOrderRow : OpenClaim := { program := "ytgbnbgkldeifkaagreat", sum := "e48f0e21ba54a2c108f17b9d3453fd2ef63739e80b8a41f9c404d7635faf1a37", func := "starling/starlinglaw19.FoldOrder", spec := "foldOrder", inPlace := ["slices.overlaps[starling/api.Value]"], unfollowed := true, recurses := true, plainKeys := false, apart := false }
def FoldOrderSaid : Prop := foldOrderRow.holds Tryz.pinned (OpenSpec.ofChange foldOrderSpec)

/-- ITS FALSE NEIGHBOUR: 'it returns false'. Refute it at one input. -/
def foldOrderWrong : ChangeSpec := { name := "foldOrder", fn := fun _ => fun
  | [d1, d2] => { results := [.lit (.bool false)], args := [d1, d2] }
  | _ => none }
def FoldOrderWrongFalsely : Prop := foldOrderRow.holds Tryz.pinned (OpenSpec.ofChange foldOrderWrong)

/-- 'starlinglaw19.FoldPlays': WHATEVER THE INPUT: true; the input reads as it did. -/
def foldPlaysSpec : ChangeSpec := { name := "foldPlays", fn := fun _ => fun
  | [d1, d2] => { results := [.lit (.bool true)], args := [d1, d2] }
  | _ => none }
def foldPlaysRow : OpenClaim := { program := "ytgbnbgkldeifkaagreat", sum := "e48f0e21ba54a2c108f17b9d3453fd2ef63739e80b8a41f9c404d7635faf1a37", func := "starling/starlinglaw19.FoldPlays", spec := "foldPlays", inPlace := ["slices.overlaps[starling/api.Value]"], unfollowed := true, recurses := true, plainKeys := false, apart := false }
def FoldPlaysSaid : Prop := foldPlaysRow.holds Tryz.pinned (OpenSpec.ofChange foldPlaysSpec)

/-- ITS FALSE NEIGHBOUR: 'it returns false'. Refute it at one input. -/
def foldPlaysWrong : ChangeSpec := { name := "foldPlays", fn := fun _ => fun
  | [d1, d2] => { results := [.lit (.bool false)], args := [d1, d2] }
  | _ => none }
def FoldPlaysWrongFalsely : Prop := foldPlaysRow.holds Tryz.pinned (OpenSpec.ofChange foldPlaysWrong)

/-- 'starlinglaw19.FoldDrops': WHATEVER THE INPUT: true; the input reads as it did. -/
def foldDropsSpec : ChangeSpec := { name := "foldDrops", fn := fun _ => fun
  | [d1, d2] => { results := [.lit (.bool true)], args := [d1, d2] }
  | _ => none }
def foldDropsRow : OpenClaim := { program := "ytgbnbgkldeifkaagreat", sum := "e48f0e21ba54a2c108f17b9d3453fd2ef63739e80b8a41f9c404d7635faf1a37", func := "starling/starlinglaw19.FoldDrops", spec := "foldDrops", inPlace := ["slices.overlaps[starling/api.Value]"], unfollowed := true, recurses := true, plainKeys := false, apart := false }
def FoldDropsSaid : Prop := foldDropsRow.holds Tryz.pinned (OpenSpec.ofChange foldDropsSpec)

/-- ITS FALSE NEIGHBOUR: 'it returns false'. Refute it at one input. -/
def foldDropsWrong : ChangeSpec := { name := "foldDrops", fn := fun _ => fun
  | [d1, d2] => { results := [.lit (.bool false)], args := [d1, d2] }
  | _ => none }
def FoldDropsWrongFalsely : Prop := foldDropsRow.holds Tryz.pinned (OpenSpec.ofChange foldDropsWrong)

/-- 'starlinglaw20.GiveAgain': WHATEVER THE INPUT: true; the input reads as it did. -/
def giveAgainSpec : ChangeSpec := { name := "giveAgain", fn := fun _ => fun
  | [d1, d2] => { results := [.lit (.bool true)], args := [d1, d2] }
  | _ => none }
def giveAgainRow : OpenClaim := { program := "ytgbnbgkldeifkaagreat", sum := "e48f0e21ba54a2c108f17b9d3453fd2ef63739e80b8a41f9c404d7635faf1a37", func := "starling/starlinglaw20.GiveAgain", spec := "giveAgain", inPlace := ["slices.overlaps[starling/api.Value]"], unfollowed := true, recurses := true, plainKeys := false, apart := false }
def GiveAgainSaid : Prop := giveAgainRow.holds Tryz.pinned (OpenSpec.ofChange giveAgainSpec)

/-- ITS FALSE NEIGHBOUR: 'it returns false'. Refute it at one input. -/
def giveAgainWrong : ChangeSpec := { name := "giveAgain", fn := fun _ => fun
  | [d1, d2] => { results := [.lit (.bool false)], args := [d1, d2] }
  | _ => none }
def GiveAgainWrongFalsely : Prop := giveAgainRow.holds Tryz.pinned (OpenSpec.ofChange giveAgainWrong)

/-- 'starlinglaw20.GiveOnce': WHATEVER THE INPUT: true; the input reads as it did. -/
def giveOnceSpec : ChangeSpec := { name := "giveOnce", fn := fun _ => fun
  | [d1, d2, d3] => { results := [.lit (.bool true)], args := [d1, d2, d3] }
  | _ => none }
def giveOnceRow : OpenClaim := { program := "ytgbnbgkldeifkaagreat", sum := "e48f0e21ba54a2c108f17b9d3453fd2ef63739e80b8a41f9c404d7635faf1a37", func := "starling/starlinglaw20.GiveOnce", spec := "giveOnce", inPlace := ["slices.overlaps[starling/api.Value]"], unfollowed := true, recurses := true, plainKeys := false, apart := false }
def GiveOnceSaid : Prop := giveOnceRow.holds Tryz.pinned (OpenSpec.ofChange giveOnceSpec)

/-- ITS FALSE NEIGHBOUR: 'it returns false'. Refute it at one input. -/
def giveOnceWrong : ChangeSpec := { name := "giveOnce", fn := fun _ => fun
  | [d1, d2, d3] => { results := [.lit (.bool false)], args := [d1, d2, d3] }
  | _ => none }
def GiveOnceWrongFalsely : Prop := giveOnceRow.holds Tryz.pinned (OpenSpec.ofChange giveOnceWrong)

/-- 'starlinglaw20.GiveEnds': WHATEVER THE INPUT: true; the input reads as it did. -/
def giveEndsSpec : ChangeSpec := { name := "giveEnds", fn := fun _ => fun
  | [d1, d2] => { results := [.lit (.bool true)], args := [d1, d2] }
  | _ => none }
def giveEndsRow : OpenClaim := { program := "ytgbnbgkldeifkaagreat", sum := "e48f0e21ba54a2c108f17b9d3453fd2ef63739e80b8a41f9c404d7635faf1a37", func := "starling/starlinglaw20.GiveEnds", spec := "giveEnds", inPlace := ["slices.overlaps[starling/api.Value]"], unfollowed := true, recurses := true, plainKeys := false, apart := false }
def GiveEndsSaid : Prop := giveEndsRow.holds Tryz.pinned (OpenSpec.ofChange giveEndsSpec)

/-- ITS FALSE NEIGHBOUR: 'it returns false'. Refute it at one input. -/
def giveEndsWrong : ChangeSpec := { name := "giveEnds", fn := fun _ => fun
  | [d1, d2] => { results := [.lit (.bool false)], args := [d1, d2] }
  | _ => none }
def GiveEndsWrongFalsely : Prop := giveEndsRow.holds Tryz.pinned (OpenSpec.ofChange giveEndsWrong)

/-- 'starlinglaw20.GivePlays': WHATEVER THE INPUT: true; the input reads as it did. -/
def givePlaysSpec : ChangeSpec := { name := "givePlays", fn := fun _ => fun
  | [d1, d2, d3, d4, d5] => { results := [.lit (.bool true)], args := [d1, d2, d3, d4, d5] }
  | _ => none }
def givePlaysRow : OpenClaim := { program := "ytgbnbgkldeifkaagreat", sum := "e48f0e21ba54a2c108f17b9d3453fd2ef63739e80b8a41f9c404d7635faf1a37", func := "starling/starlinglaw20.GivePlays", spec := "givePlays", inPlace := ["slices.overlaps[starling/api.Value]"], unfollowed := true, recurses := true, plainKeys := false, apart := false }
def GivePlaysSaid : Prop := givePlaysRow.holds Tryz.pinned (OpenSpec.ofChange givePlaysSpec)

/-- ITS FALSE NEIGHBOUR: 'it returns false'. Refute it at one input. -/
def givePlaysWrong : ChangeSpec := { name := "givePlays", fn := fun _ => fun
  | [d1, d2, d3, d4, d5] => { results := [.lit (.bool false)], args := [d1, d2, d3, d4, d5] }
  | _ => none }
def GivePlaysWrongFalsely : Prop := givePlaysRow.holds Tryz.pinned (OpenSpec.ofChange givePlaysWrong)

/-- 'starlinglaw20.GiveAll': WHATEVER THE INPUT: true; the input reads as it did. -/
def giveAllSpec : ChangeSpec := { name := "giveAll", fn := fun _ => fun
  | [d1, d2] => { results := [.lit (.bool true)], args := [d1, d2] }
  | _ => none }
def giveAllRow : OpenClaim := { program := "ytgbnbgkldeifkaagreat", sum := "e48f0e21ba54a2c108f17b9d3453fd2ef63739e80b8a41f9c404d7635faf1a37", func := "starling/starlinglaw20.GiveAll", spec := "giveAll", inPlace := ["slices.overlaps[starling/api.Value]"], unfollowed := true, recurses := true, plainKeys := false, apart := false }
def GiveAllSaid : Prop := giveAllRow.holds Tryz.pinned (OpenSpec.ofChange giveAllSpec)

/-- ITS FALSE NEIGHBOUR: 'it returns false'. Refute it at one input. -/
def giveAllWrong : ChangeSpec := { name := "giveAll", fn := fun _ => fun
  | [d1, d2] => { results := [.lit (.bool false)], args := [d1, d2] }
  | _ => none }
def GiveAllWrongFalsely : Prop := giveAllRow.holds Tryz.pinned (OpenSpec.ofChange giveAllWrong)

/- THE SECOND FORM. 'bulk': how many values and letters a reading holds, each counted each time it is reached (what is shared counts as often as it is met; a slice's spare places count too). A statement '..UptoSaid' is the law's where the arguments, and the package variables that the reading takes, are together of bulk at most 1048576: NARROWER than '..Said'. Prove '..Said' where nothing that the law and all that it calls make is longer than what came in: it says more and counts as full. Else prove '..UptoSaid'. A law counts once. -/
mutual
def uptoBulk {H : Type} : DataW H → Nat
  | .lit (.string bytes) => bytes.length + 1
  | .lit _ => 1
  | .nil => 1
  | .ptr d => uptoBulk d + 1
  | .slice elems spare => uptoBulkAll elems + uptoBulkAll spare + 1
  | .agg parts => uptoBulkAll parts + 1
  | .iface _ d => uptoBulk d + 1
  | .map entries => uptoBulkEntries entries + 1
  | .held _ => 1
def uptoBulkAll {H : Type} : List (DataW H) → Nat
  | [] => 0
  | d :: r => uptoBulk d + uptoBulkAll r
def uptoBulkEntries {H : Type} : List (Lit × DataW H) → Nat
  | [] => 0
  | x :: r => uptoBulkEntry x + uptoBulkEntries r
def uptoBulkEntry {H : Type} : Lit × DataW H → Nat
  | (.string bytes, d) => bytes.length + uptoBulk d + 1
  | (_, d) => uptoBulk d + 1
 end
def uptoSmall : (H : Type) → List (DataW H) → Bool := fun _ ds => decide (uptoBulkAll ds ≤ 1048576)
def OpenSpec.upto (s : _root_.Go.ChangeSpec) : _root_.Go.OpenSpec := { _root_.Go.OpenSpec.ofChange s with cond := some uptoSmall }

/-- 'starlinglaw18.VaultLasts', WHERE WHAT IT READS IS OF BULK AT MOST 1048576: true; the input reads as it did. -/
def vaultLastsUptoRow : OpenClaim := { program := "ytgbnbgkldeifkaagreat", sum := "e48f0e21ba54a2c108f17b9d3453fd2ef63739e80b8a41f9c404d7635faf1a37", func := "starling/starlinglaw18.VaultLasts", spec := "vaultLasts", inPlace := ["slices.overlaps[starling/api.Value]"], unfollowed := true, recurses := true, plainKeys := false, apart := false, narrowed := true }
def VaultLastsUptoSaid : Prop := vaultLastsUptoRow.holds Tryz.pinned (OpenSpec.upto vaultLastsSpec)

/-- 'starlinglaw19.FoldAll', WHERE WHAT IT READS IS OF BULK AT MOST 1048576: true; the input reads as it did. -/
def foldAllUptoRow : OpenClaim := { program := "ytgbnbgkldeifkaagreat", sum := "e48f0e21ba54a2c108f17b9d3453fd2ef63739e80b8a41f9c404d7635faf1a37", func := "starling/starlinglaw19.FoldAll", spec := "foldAll", inPlace := ["slices.overlaps[starling/api.Value]"], unfollowed := true, recurses := true, plainKeys := false, apart := false, narrowed := true }
def FoldAllUptoSaid : Prop := foldAllUptoRow.holds Tryz.pinned (OpenSpec.upto foldAllSpec)

/-- 'starlinglaw19.FoldOrder', WHERE WHAT IT READS IS OF BULK AT MOST 1048576: true; the input reads as it did. -/
def foldOrderUptoRow : OpenClaim := { program := "ytgbnbgkldeifkaagreat", sum := "e48f0e21ba54a2c108f17b9d3453fd2ef63739e80b8a41f9c404d7635faf1a37", func := "starling/starlinglaw19.FoldOrder", spec := "foldOrder", inPlace := ["slices.overlaps[starling/api.Value]"], unfollowed := true, recurses := true, plainKeys := false, apart := false, narrowed := true }
def FoldOrderUptoSaid : Prop := foldOrderUptoRow.holds Tryz.pinned (OpenSpec.upto foldOrderSpec)

/-- 'starlinglaw19.FoldPlays', WHERE WHAT IT READS IS OF BULK AT MOST 1048576: true; the input reads as it did. -/
def foldPlaysUptoRow : OpenClaim := { program := "ytgbnbgkldeifkaagreat", sum := "e48f0e21ba54a2c108f17b9d3453fd2ef63739e80b8a41f9c404d7635faf1a37", func := "starling/starlinglaw19.FoldPlays", spec := "foldPlays", inPlace := ["slices.overlaps[starling/api.Value]"], unfollowed := true, recurses := true, plainKeys := false, apart := false, narrowed := true }
def FoldPlaysUptoSaid : Prop := foldPlaysUptoRow.holds Tryz.pinned (OpenSpec.upto foldPlaysSpec)

/-- 'starlinglaw19.FoldDrops', WHERE WHAT IT READS IS OF BULK AT MOST 1048576: true; the input reads as it did. -/
def foldDropsUptoRow : OpenClaim := { program := "ytgbnbgkldeifkaagreat", sum := "e48f0e21ba54a2c108f17b9d3453fd2ef63739e80b8a41f9c404d7635faf1a37", func := "starling/starlinglaw19.FoldDrops", spec := "foldDrops", inPlace := ["slices.overlaps[starling/api.Value]"], unfollowed := true, recurses := true, plainKeys := false, apart := false, narrowed := true }
def FoldDropsUptoSaid : Prop := foldDropsUptoRow.holds Tryz.pinned (OpenSpec.upto foldDropsSpec)

/-- 'starlinglaw20.GiveAgain', WHERE WHAT IT READS IS OF BULK AT MOST 1048576: true; the input reads as it did. -/
def giveAgainUptoRow : OpenClaim := { program := "ytgbnbgkldeifkaagreat", sum := "e48f0e21ba54a2c108f17b9d3453fd2ef63739e80b8a41f9c404d7635faf1a37", func := "starling/starlinglaw20.GiveAgain", spec := "giveAgain", inPlace := ["slices.overlaps[starling/api.Value]"], unfollowed := true, recurses := true, plainKeys := false, apart := false, narrowed := true }
def GiveAgainUptoSaid : Prop := giveAgainUptoRow.holds Tryz.pinned (OpenSpec.upto giveAgainSpec)

/-- 'starlinglaw20.GiveOnce', WHERE WHAT IT READS IS OF BULK AT MOST 1048576: true; the input reads as it did. -/
def giveOnceUptoRow : OpenClaim := { program := "ytgbnbgkldeifkaagreat", sum := "e48f0e21ba54a2c108f17b9d3453fd2ef63739e80b8a41f9c404d7635faf1a37", func := "starling/starlinglaw20.GiveOnce", spec := "giveOnce", inPlace := ["slices.overlaps[starling/api.Value]"], unfollowed := true, recurses := true, plainKeys := false, apart := false, narrowed := true }
def GiveOnceUptoSaid : Prop := giveOnceUptoRow.holds Tryz.pinned (OpenSpec.upto giveOnceSpec)

/-- 'starlinglaw20.GiveEnds', WHERE WHAT IT READS IS OF BULK AT MOST 1048576: true; the input reads as it did. -/
def giveEndsUptoRow : OpenClaim := { program := "ytgbnbgkldeifkaagreat", sum := "e48f0e21ba54a2c108f17b9d3453fd2ef63739e80b8a41f9c404d7635faf1a37", func := "starling/starlinglaw20.GiveEnds", spec := "giveEnds", inPlace := ["slices.overlaps[starling/api.Value]"], unfollowed := true, recurses := true, plainKeys := false, apart := false, narrowed := true }
def GiveEndsUptoSaid : Prop := giveEndsUptoRow.holds Tryz.pinned (OpenSpec.upto giveEndsSpec)

/-- 'starlinglaw20.GivePlays', WHERE WHAT IT READS IS OF BULK AT MOST 1048576: true; the input reads as it did. -/
def givePlaysUptoRow : OpenClaim := { program := "ytgbnbgkldeifkaagreat", sum := "e48f0e21ba54a2c108f17b9d3453fd2ef63739e80b8a41f9c404d7635faf1a37", func := "starling/starlinglaw20.GivePlays", spec := "givePlays", inPlace := ["slices.overlaps[starling/api.Value]"], unfollowed := true, recurses := true, plainKeys := false, apart := false, narrowed := true }
def GivePlaysUptoSaid : Prop := givePlaysUptoRow.holds Tryz.pinned (OpenSpec.upto givePlaysSpec)

/-- 'starlinglaw20.GiveAll', WHERE WHAT IT READS IS OF BULK AT MOST 1048576: true; the input reads as it did. -/
def giveAllUptoRow : OpenClaim := { program := "ytgbnbgkldeifkaagreat", sum := "e48f0e21ba54a2c108f17b9d3453fd2ef63739e80b8a41f9c404d7635faf1a37", func := "starling/starlinglaw20.GiveAll", spec := "giveAll", inPlace := ["slices.overlaps[starling/api.Value]"], unfollowed := true, recurses := true, plainKeys := false, apart := false, narrowed := true }
def GiveAllUptoSaid : Prop := giveAllUptoRow.holds Tryz.pinned (OpenSpec.upto giveAllSpec)

end Rows
end Go.Proofs.YtgbnbgkldeifkaaGreat

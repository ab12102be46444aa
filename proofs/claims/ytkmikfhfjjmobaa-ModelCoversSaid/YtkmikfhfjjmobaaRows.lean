/-
  No cell of these rows narrows 'for every input' (looked for: loops, veiled, ifaces, maps, wideKeys, modest, calm, conditions, laid).
  DERIVED. THE GIVEN ROWS OF THIS SEAT. 12 by the template 'for every input the law returns true; each argument reads behind the call as it read before'; 0 by the template 'total and deterministic' (their statements: YtkmikfhfjjmobaaTotals.lean).
  GIVEN WITH THE SEED: the statements are not yours to turn. If you find one false, say at which input.
  Laid BY PROGRAM, IN A SANDBOX (cutbox-rows.mjs): the forced cells as the released guide's own fill.sh prints them over the translation 47cb15b78ef34d1d… (all of the seat's roots in one cut). By AI agents, Wed Nov 11 2026. No macro, syntax, notation, axiom, sorry.
-/
import Derived.Test.YtkmikfhfjjmobaaChecked
import GoSem.Claim
import GoSem.ClaimJoined
import GoSem.ClaimMapViews
import Derived.JoinedTies
import Derived.KernelRfl
namespace Go.Proofs.Ytkmikfhfjjmobaa
/- THE CELL 'sum', in the pinned program and in every row, IS THE sha256 OF THE DUMP (.gsa) THAT YtkmikfhfjjmobaaProg.lean LOADS. Nothing in Lean hashes anything: it is a label: what it is worth is what the hold of that sum in a sandbox is worth. -/
noncomputable def Try.pinned : Pinned := { name := "ytkmikfhfjjmobaa", sum := "47cb15b78ef34d1d6e7a9384030c27bed72ff97bc89bb27f993a7721ac3875e1", checked := Try.checked }
namespace Rows
def none {H : Type} : Left H := { results := [], args := [] }

/-- 'starlinglaw14.BagPuts': WHATEVER THE INPUT: true; the input reads as it did. -/
def bagPutsSpec : ChangeSpec := { name := "bagPuts", fn := fun _ => fun
  | [d1, d2, d3, d4] => { results := [.lit (.bool true)], args := [d1, d2, d3, d4] }
  | _ => none }
def bagPutsRow : OpenClaim := { program := "ytkmikfhfjjmobaa", sum := "47cb15b78ef34d1d6e7a9384030c27bed72ff97bc89bb27f993a7721ac3875e1", func := "starling/starlinglaw14.BagPuts", spec := "bagPuts", inPlace := ["slices.overlaps[starling/api.Value]"], unfollowed := true, recurses := true, apart := false }
def BagPutsSaid : Prop := bagPutsRow.holds Try.pinned (OpenSpec.ofChange bagPutsSpec)

/-- ITS FALSE NEIGHBOUR: 'it returns false'. Refute it at one input. -/
def bagPutsWrong : ChangeSpec := { name := "bagPuts", fn := fun _ => fun
  | [d1, d2, d3, d4] => { results := [.lit (.bool false)], args := [d1, d2, d3, d4] }
  | _ => none }
def BagPutsWrongFalsely : Prop := bagPutsRow.holds Try.pinned (OpenSpec.ofChange bagPutsWrong)

/-- 'starlinglaw17.LedgerPlays': WHATEVER THE INPUT: true; the input reads as it did. -/
def ledgerPlaysSpec : ChangeSpec := { name := "ledgerPlays", fn := fun _ => fun
  | [d1, d2] => { results := [.lit (.bool true)], args := [d1, d2] }
  | _ => none }
def ledgerPlaysRow : OpenClaim := { program := "ytkmikfhfjjmobaa", sum := "47cb15b78ef34d1d6e7a9384030c27bed72ff97bc89bb27f993a7721ac3875e1", func := "starling/starlinglaw17.LedgerPlays", spec := "ledgerPlays", unfollowed := true, recurses := true, apart := false }
def LedgerPlaysSaid : Prop := ledgerPlaysRow.holds Try.pinned (OpenSpec.ofChange ledgerPlaysSpec)

/-- ITS FALSE NEIGHBOUR: 'it returns false'. Refute it at one input. -/
def ledgerPlaysWrong : ChangeSpec := { name := "ledgerPlays", fn := fun _ => fun
  | [d1, d2] => { results := [.lit (.bool false)], args := [d1, d2] }
  | _ => none }
def LedgerPlaysWrongFalsely : Prop := ledgerPlaysRow.holds Try.pinned (OpenSpec.ofChange ledgerPlaysWrong)

/-- 'starlinglaw17.LedgerSure': WHATEVER THE INPUT: true; the input reads as it did. -/
def ledgerSureSpec : ChangeSpec := { name := "ledgerSure", fn := fun _ => fun
  | [d] => { results := [.lit (.bool true)], args := [d] }
  | _ => none }
def ledgerSureRow : OpenClaim := { program := "ytkmikfhfjjmobaa", sum := "47cb15b78ef34d1d6e7a9384030c27bed72ff97bc89bb27f993a7721ac3875e1", func := "starling/starlinglaw17.LedgerSure", spec := "ledgerSure", unfollowed := true, recurses := true, apart := false }
def LedgerSureSaid : Prop := ledgerSureRow.holds Try.pinned (OpenSpec.ofChange ledgerSureSpec)

/-- ITS FALSE NEIGHBOUR: 'it returns false'. Refute it at one input. -/
def ledgerSureWrong : ChangeSpec := { name := "ledgerSure", fn := fun _ => fun
  | [d] => { results := [.lit (.bool false)], args := [d] }
  | _ => none }
def LedgerSureWrongFalsely : Prop := ledgerSureRow.holds Try.pinned (OpenSpec.ofChange ledgerSureWrong)

/-- 'starlinglaw17.LedgerRoom': WHATEVER THE INPUT: true; the input reads as it did. -/
def ledgerRoomSpec : ChangeSpec := { name := "ledgerRoom", fn := fun _ => fun
  | [d1, d2] => { results := [.lit (.bool true)], args := [d1, d2] }
  | _ => none }
def ledgerRoomRow : OpenClaim := { program := "ytkmikfhfjjmobaa", sum := "47cb15b78ef34d1d6e7a9384030c27bed72ff97bc89bb27f993a7721ac3875e1", func := "starling/starlinglaw17.LedgerRoom", spec := "ledgerRoom", unfollowed := true, recurses := true, apart := false }
def LedgerRoomSaid : Prop := ledgerRoomRow.holds Try.pinned (OpenSpec.ofChange ledgerRoomSpec)

/-- ITS FALSE NEIGHBOUR: 'it returns false'. Refute it at one input. -/
def ledgerRoomWrong : ChangeSpec := { name := "ledgerRoom", fn := fun _ => fun
  | [d1, d2] => { results := [.lit (.bool false)], args := [d1, d2] }
  | _ => none }
def LedgerRoomWrongFalsely : Prop := ledgerRoomRow.holds Try.pinned (OpenSpec.ofChange ledgerRoomWrong)

/-- 'starlinglaw17.LedgerOwn': WHATEVER THE INPUT: true; the input reads as it did. -/
def ledgerOwnSpec : ChangeSpec := { name := "ledgerOwn", fn := fun _ => fun
  | [d1, d2] => { results := [.lit (.bool true)], args := [d1, d2] }
  | _ => none }
def ledgerOwnRow : OpenClaim := { program := "ytkmikfhfjjmobaa", sum := "47cb15b78ef34d1d6e7a9384030c27bed72ff97bc89bb27f993a7721ac3875e1", func := "starling/starlinglaw17.LedgerOwn", spec := "ledgerOwn", unfollowed := true, recurses := true, apart := false }
def LedgerOwnSaid : Prop := ledgerOwnRow.holds Try.pinned (OpenSpec.ofChange ledgerOwnSpec)

/-- ITS FALSE NEIGHBOUR: 'it returns false'. Refute it at one input. -/
def ledgerOwnWrong : ChangeSpec := { name := "ledgerOwn", fn := fun _ => fun
  | [d1, d2] => { results := [.lit (.bool false)], args := [d1, d2] }
  | _ => none }
def LedgerOwnWrongFalsely : Prop := ledgerOwnRow.holds Try.pinned (OpenSpec.ofChange ledgerOwnWrong)

/-- 'starlinglaw14.BagTexts': WHATEVER THE INPUT: true; the input reads as it did. -/
def bagTextsSpec : ChangeSpec := { name := "bagTexts", fn := fun _ => fun
  | [d] => { results := [.lit (.bool true)], args := [d] }
  | _ => none }
def bagTextsRow : OpenClaim := { program := "ytkmikfhfjjmobaa", sum := "47cb15b78ef34d1d6e7a9384030c27bed72ff97bc89bb27f993a7721ac3875e1", func := "starling/starlinglaw14.BagTexts", spec := "bagTexts", inPlace := ["slices.overlaps[starling/api.Value]"], unfollowed := true, recurses := true, apart := false }
def BagTextsSaid : Prop := bagTextsRow.holds Try.pinned (OpenSpec.ofChange bagTextsSpec)

/-- ITS FALSE NEIGHBOUR: 'it returns false'. Refute it at one input. -/
def bagTextsWrong : ChangeSpec := { name := "bagTexts", fn := fun _ => fun
  | [d] => { results := [.lit (.bool false)], args := [d] }
  | _ => none }
def BagTextsWrongFalsely : Prop := bagTextsRow.holds Try.pinned (OpenSpec.ofChange bagTextsWrong)

/-- 'starlinglaw14.BagTwice': WHATEVER THE INPUT: true; the input reads as it did. -/
def bagTwiceSpec : ChangeSpec := { name := "bagTwice", fn := fun _ => fun
  | [d1, d2] => { results := [.lit (.bool true)], args := [d1, d2] }
  | _ => none }
def bagTwiceRow : OpenClaim := { program := "ytkmikfhfjjmobaa", sum := "47cb15b78ef34d1d6e7a9384030c27bed72ff97bc89bb27f993a7721ac3875e1", func := "starling/starlinglaw14.BagTwice", spec := "bagTwice", inPlace := ["slices.overlaps[starling/api.Value]"], unfollowed := true, recurses := true, apart := false }
def BagTwiceSaid : Prop := bagTwiceRow.holds Try.pinned (OpenSpec.ofChange bagTwiceSpec)

/-- ITS FALSE NEIGHBOUR: 'it returns false'. Refute it at one input. -/
def bagTwiceWrong : ChangeSpec := { name := "bagTwice", fn := fun _ => fun
  | [d1, d2] => { results := [.lit (.bool false)], args := [d1, d2] }
  | _ => none }
def BagTwiceWrongFalsely : Prop := bagTwiceRow.holds Try.pinned (OpenSpec.ofChange bagTwiceWrong)

/-- 'starlinglaw14.BagJoins': WHATEVER THE INPUT: true; the input reads as it did. -/
def bagJoinsSpec : ChangeSpec := { name := "bagJoins", fn := fun _ => fun
  | [d] => { results := [.lit (.bool true)], args := [d] }
  | _ => none }
def bagJoinsRow : OpenClaim := { program := "ytkmikfhfjjmobaa", sum := "47cb15b78ef34d1d6e7a9384030c27bed72ff97bc89bb27f993a7721ac3875e1", func := "starling/starlinglaw14.BagJoins", spec := "bagJoins", inPlace := ["slices.overlaps[starling/api.Value]"], unfollowed := true, recurses := true, apart := false }
def BagJoinsSaid : Prop := bagJoinsRow.holds Try.pinned (OpenSpec.ofChange bagJoinsSpec)

/-- ITS FALSE NEIGHBOUR: 'it returns false'. Refute it at one input. -/
def bagJoinsWrong : ChangeSpec := { name := "bagJoins", fn := fun _ => fun
  | [d] => { results := [.lit (.bool false)], args := [d] }
  | _ => none }
def BagJoinsWrongFalsely : Prop := bagJoinsRow.holds Try.pinned (OpenSpec.ofChange bagJoinsWrong)

/-- 'starlinglaw26.ModelLess': WHATEVER THE INPUT: true; the input reads as it did. -/
def modelLessSpec : ChangeSpec := { name := "modelLess", fn := fun _ => fun
  | [d1, d2] => { results := [.lit (.bool true)], args := [d1, d2] }
  | _ => none }
def modelLessRow : OpenClaim := { program := "ytkmikfhfjjmobaa", sum := "47cb15b78ef34d1d6e7a9384030c27bed72ff97bc89bb27f993a7721ac3875e1", func := "starling/starlinglaw26.ModelLess", spec := "modelLess", inPlace := ["slices.overlaps[starling/api.Value]", "slices.overlaps[starling/model.write]"], unfollowed := true, recurses := true, apart := false }
def ModelLessSaid : Prop := modelLessRow.holds Try.pinned (OpenSpec.ofChange modelLessSpec)

/-- ITS FALSE NEIGHBOUR: 'it returns false'. Refute it at one input. -/
def modelLessWrong : ChangeSpec := { name := "modelLess", fn := fun _ => fun
  | [d1, d2] => { results := [.lit (.bool false)], args := [d1, d2] }
  | _ => none }
def ModelLessWrongFalsely : Prop := modelLessRow.holds Try.pinned (OpenSpec.ofChange modelLessWrong)

/-- 'starlinglaw26.ModelCovers': WHATEVER THE INPUT: true; the input reads as it did. -/
def modelCoversSpec : ChangeSpec := { name := "modelCovers", fn := fun _ => fun
  | [d] => { results := [.lit (.bool true)], args := [d] }
  | _ => none }
def modelCoversRow : OpenClaim := { program := "ytkmikfhfjjmobaa", sum := "47cb15b78ef34d1d6e7a9384030c27bed72ff97bc89bb27f993a7721ac3875e1", func := "starling/starlinglaw26.ModelCovers", spec := "modelCovers", inPlace := ["slices.overlaps[starling/model.write]", "slices.overlaps[starling/api.Value]"], unfollowed := true, recurses := true, apart := false }
def ModelCoversSaid : Prop := modelCoversRow.holds Try.pinned (OpenSpec.ofChange modelCoversSpec)

/-- ITS FALSE NEIGHBOUR: 'it returns false'. Refute it at one input. -/
def modelCoversWrong : ChangeSpec := { name := "modelCovers", fn := fun _ => fun
  | [d] => { results := [.lit (.bool false)], args := [d] }
  | _ => none }
def ModelCoversWrongFalsely : Prop := modelCoversRow.holds Try.pinned (OpenSpec.ofChange modelCoversWrong)

/-- 'starlinglaw26.ModelPlays': WHATEVER THE INPUT: true; the input reads as it did. -/
def modelPlaysSpec : ChangeSpec := { name := "modelPlays", fn := fun _ => fun
  | [d1, d2, d3] => { results := [.lit (.bool true)], args := [d1, d2, d3] }
  | _ => none }
def modelPlaysRow : OpenClaim := { program := "ytkmikfhfjjmobaa", sum := "47cb15b78ef34d1d6e7a9384030c27bed72ff97bc89bb27f993a7721ac3875e1", func := "starling/starlinglaw26.ModelPlays", spec := "modelPlays", inPlace := ["slices.overlaps[starling/model.write]", "slices.overlaps[starling/api.Value]"], unfollowed := true, recurses := true, apart := false }
def ModelPlaysSaid : Prop := modelPlaysRow.holds Try.pinned (OpenSpec.ofChange modelPlaysSpec)

/-- ITS FALSE NEIGHBOUR: 'it returns false'. Refute it at one input. -/
def modelPlaysWrong : ChangeSpec := { name := "modelPlays", fn := fun _ => fun
  | [d1, d2, d3] => { results := [.lit (.bool false)], args := [d1, d2, d3] }
  | _ => none }
def ModelPlaysWrongFalsely : Prop := modelPlaysRow.holds Try.pinned (OpenSpec.ofChange modelPlaysWrong)

/-- 'starlinglaw26.ModelNewest': WHATEVER THE INPUT: true; the input reads as it did. -/
def modelNewestSpec : ChangeSpec := { name := "modelNewest", fn := fun _ => fun
  | [d] => { results := [.lit (.bool true)], args := [d] }
  | _ => none }
def modelNewestRow : OpenClaim := { program := "ytkmikfhfjjmobaa", sum := "47cb15b78ef34d1d6e7a9384030c27bed72ff97bc89bb27f993a7721ac3875e1", func := "starling/starlinglaw26.ModelNewest", spec := "modelNewest", inPlace := ["slices.overlaps[starling/model.write]", "slices.overlaps[starling/api.Value]"], unfollowed := true, recurses := true, apart := false }
def ModelNewestSaid : Prop := modelNewestRow.holds Try.pinned (OpenSpec.ofChange modelNewestSpec)

/-- ITS FALSE NEIGHBOUR: 'it returns false'. Refute it at one input. -/
def modelNewestWrong : ChangeSpec := { name := "modelNewest", fn := fun _ => fun
  | [d] => { results := [.lit (.bool false)], args := [d] }
  | _ => none }
def ModelNewestWrongFalsely : Prop := modelNewestRow.holds Try.pinned (OpenSpec.ofChange modelNewestWrong)

/- THE SECOND FORM. 'bulk': how many values and letters a reading holds, each counted each time it is reached (what is shared counts as often as it is met; a slice's spare places count too). A statement '..UptoSaid' is the law's where the arguments, and the package variables that the reading takes, are together of bulk at most 1048576: NARROWER than '..Said'. Prove '..Said' where nothing that the law and all that it calls make is longer than what came in: it says more and counts as full. Else prove '..UptoSaid'. A law counts once. -/
mutual
def uptoBulk {H : Type} : DataW H → Nat
  | .lit (.string bytes) => bytes.length + 1
  | .lit _ => 1
  | .nil => 1
  | .ptr d => uptoBulk d + 1
  | .slice elems spare => uptoBulkAll elems + uptoBulkAll spare + 1
  | .agg parts => uptoBulkAll parts + 1
  | .iface _ d => uptoBulk d + 1
  | .map entries => uptoBulkEntries entries + 1
  | .held _ => 1
def uptoBulkAll {H : Type} : List (DataW H) → Nat
  | [] => 0
  | d :: r => uptoBulk d + uptoBulkAll r
def uptoBulkEntries {H : Type} : List (Lit × DataW H) → Nat
  | [] => 0
  | x :: r => uptoBulkEntry x + uptoBulkEntries r
def uptoBulkEntry {H : Type} : Lit × DataW H → Nat
  | (.string bytes, d) => bytes.length + uptoBulk d + 1
  | (_, d) => uptoBulk d + 1
 end
def uptoSmall : (H : Type) → List (DataW H) → Bool := fun _ ds => decide (uptoBulkAll ds ≤ 1048576)
def OpenSpec.upto (s : _root_.Go.ChangeSpec) : _root_.Go.OpenSpec := { _root_.Go.OpenSpec.ofChange s with cond := some uptoSmall }

/-- 'starlinglaw14.BagPuts', WHERE WHAT IT READS IS OF BULK AT MOST 1048576: true; the input reads as it did. -/
def bagPutsUptoRow : OpenClaim := { program := "ytkmikfhfjjmobaa", sum := "47cb15b78ef34d1d6e7a9384030c27bed72ff97bc89bb27f993a7721ac3875e1", func := "starling/starlinglaw14.BagPuts", spec := "bagPuts", inPlace := ["slices.overlaps[starling/api.Value]"], unfollowed := true, recurses := true, apart := false, narrowed := true }
def BagPutsUptoSaid : Prop := bagPutsUptoRow.holds Try.pinned (OpenSpec.upto bagPutsSpec)

/-- 'starlinglaw17.LedgerPlays', WHERE WHAT IT READS IS OF BULK AT MOST 1048576: true; the input reads as it did. -/
def ledgerPlaysUptoRow : OpenClaim := { program := "ytkmikfhfjjmobaa", sum := "47cb15b78ef34d1d6e7a9384030c27bed72ff97bc89bb27f993a7721ac3875e1", func := "starling/starlinglaw17.LedgerPlays", spec := "ledgerPlays", unfollowed := true, recurses := true, apart := false, narrowed := true }
def LedgerPlaysUptoSaid : Prop := ledgerPlaysUptoRow.holds Try.pinned (OpenSpec.upto ledgerPlaysSpec)

/-- 'starlinglaw17.LedgerSure', WHERE WHAT IT READS IS OF BULK AT MOST 1048576: true; the input reads as it did. -/
def ledgerSureUptoRow : OpenClaim := { program := "ytkmikfhfjjmobaa", sum := "47cb15b78ef34d1d6e7a9384030c27bed72ff97bc89bb27f993a7721ac3875e1", func := "starling/starlinglaw17.LedgerSure", spec := "ledgerSure", unfollowed := true, recurses := true, apart := false, narrowed := true }
def LedgerSureUptoSaid : Prop := ledgerSureUptoRow.holds Try.pinned (OpenSpec.upto ledgerSureSpec)

/-- 'starlinglaw17.LedgerRoom', WHERE WHAT IT READS IS OF BULK AT MOST 1048576: true; the input reads as it did. -/
def ledgerRoomUptoRow : OpenClaim := { program := "ytkmikfhfjjmobaa", sum := "47cb15b78ef34d1d6e7a9384030c27bed72ff97bc89bb27f993a7721ac3875e1", func := "starling/starlinglaw17.LedgerRoom", spec := "ledgerRoom", unfollowed := true, recurses := true, apart := false, narrowed := true }
def LedgerRoomUptoSaid : Prop := ledgerRoomUptoRow.holds Try.pinned (OpenSpec.upto ledgerRoomSpec)

/-- 'starlinglaw17.LedgerOwn', WHERE WHAT IT READS IS OF BULK AT MOST 1048576: true; the input reads as it did. -/
def ledgerOwnUptoRow : OpenClaim := { program := "ytkmikfhfjjmobaa", sum := "47cb15b78ef34d1d6e7a9384030c27bed72ff97bc89bb27f993a7721ac3875e1", func := "starling/starlinglaw17.LedgerOwn", spec := "ledgerOwn", unfollowed := true, recurses := true, apart := false, narrowed := true }
def LedgerOwnUptoSaid : Prop := ledgerOwnUptoRow.holds Try.pinned (OpenSpec.upto ledgerOwnSpec)

/-- 'starlinglaw14.BagTexts', WHERE WHAT IT READS IS OF BULK AT MOST 1048576: true; the input reads as it did. -/
def bagTextsUptoRow : OpenClaim := { program := "ytkmikfhfjjmobaa", sum := "47cb15b78ef34d1d6e7a9384030c27bed72ff97bc89bb27f993a7721ac3875e1", func := "starling/starlinglaw14.BagTexts", spec := "bagTexts", inPlace := ["slices.overlaps[starling/api.Value]"], unfollowed := true, recurses := true, apart := false, narrowed := true }
def BagTextsUptoSaid : Prop := bagTextsUptoRow.holds Try.pinned (OpenSpec.upto bagTextsSpec)

/-- 'starlinglaw14.BagTwice', WHERE WHAT IT READS IS OF BULK AT MOST 1048576: true; the input reads as it did. -/
def bagTwiceUptoRow : OpenClaim := { program := "ytkmikfhfjjmobaa", sum := "47cb15b78ef34d1d6e7a9384030c27bed72ff97bc89bb27f993a7721ac3875e1", func := "starling/starlinglaw14.BagTwice", spec := "bagTwice", inPlace := ["slices.overlaps[starling/api.Value]"], unfollowed := true, recurses := true, apart := false, narrowed := true }
def BagTwiceUptoSaid : Prop := bagTwiceUptoRow.holds Try.pinned (OpenSpec.upto bagTwiceSpec)

/-- 'starlinglaw14.BagJoins', WHERE WHAT IT READS IS OF BULK AT MOST 1048576: true; the input reads as it did. -/
def bagJoinsUptoRow : OpenClaim := { program := "ytkmikfhfjjmobaa", sum := "47cb15b78ef34d1d6e7a9384030c27bed72ff97bc89bb27f993a7721ac3875e1", func := "starling/starlinglaw14.BagJoins", spec := "bagJoins", inPlace := ["slices.overlaps[starling/api.Value]"], unfollowed := true, recurses := true, apart := false, narrowed := true }
def BagJoinsUptoSaid : Prop := bagJoinsUptoRow.holds Try.pinned (OpenSpec.upto bagJoinsSpec)

/-- 'starlinglaw26.ModelLess', WHERE WHAT IT READS IS OF BULK AT MOST 1048576: true; the input reads as it did. -/
def modelLessUptoRow : OpenClaim := { program := "ytkmikfhfjjmobaa", sum := "47cb15b78ef34d1d6e7a9384030c27bed72ff97bc89bb27f993a7721ac3875e1", func := "starling/starlinglaw26.ModelLess", spec := "modelLess", inPlace := ["slices.overlaps[starling/api.Value]", "slices.overlaps[starling/model.write]"], unfollowed := true, recurses := true, apart := false, narrowed := true }
def ModelLessUptoSaid : Prop := modelLessUptoRow.holds Try.pinned (OpenSpec.upto modelLessSpec)

/-- 'starlinglaw26.ModelCovers', WHERE WHAT IT READS IS OF BULK AT MOST 1048576: true; the input reads as it did. -/
def modelCoversUptoRow : OpenClaim := { program := "ytkmikfhfjjmobaa", sum := "47cb15b78ef34d1d6e7a9384030c27bed72ff97bc89bb27f993a7721ac3875e1", func := "starling/starlinglaw26.ModelCovers", spec := "modelCovers", inPlace := ["slices.overlaps[starling/model.write]", "slices.overlaps[starling/api.Value]"], unfollowed := true, recurses := true, apart := false, narrowed := true }
def ModelCoversUptoSaid : Prop := modelCoversUptoRow.holds Try.pinned (OpenSpec.upto modelCoversSpec)

/-- 'starlinglaw26.ModelPlays', WHERE WHAT IT READS IS OF BULK AT MOST 1048576: true; the input reads as it did. -/
def modelPlaysUptoRow : OpenClaim := { program := "ytkmikfhfjjmobaa", sum := "47cb15b78ef34d1d6e7a9384030c27bed72ff97bc89bb27f993a7721ac3875e1", func := "starling/starlinglaw26.ModelPlays", spec := "modelPlays", inPlace := ["slices.overlaps[starling/model.write]", "slices.overlaps[starling/api.Value]"], unfollowed := true, recurses := true, apart := false, narrowed := true }
def ModelPlaysUptoSaid : Prop := modelPlaysUptoRow.holds Try.pinned (OpenSpec.upto modelPlaysSpec)

/-- 'starlinglaw26.ModelNewest', WHERE WHAT IT READS IS OF BULK AT MOST 1048576: true; the input reads as it did. -/
def modelNewestUptoRow : OpenClaim := { program := "ytkmikfhfjjmobaa", sum := "47cb15b78ef34d1d6e7a9384030c27bed72ff97bc89bb27f993a7721ac3875e1", func := "starling/starlinglaw26.ModelNewest", spec := "modelNewest", inPlace := ["slices.overlaps[starling/model.write]", "slices.overlaps[starling/api.Value]"], unfollowed := true, recurses := true, apart := false, narrowed := true }
def ModelNewestUptoSaid : Prop := modelNewestUptoRow.holds Try.pinned (OpenSpec.upto modelNewestSpec)

end Rows
end Go.Proofs.Ytkmikfhfjjmobaa

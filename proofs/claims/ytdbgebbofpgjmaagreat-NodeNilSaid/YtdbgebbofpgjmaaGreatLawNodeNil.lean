/- 'starlinglaw23.NodeNil' returns true for every call, and the call reads behind it as it read before: a node that there isn't answers as it must. Without further conditions. -/
import Derived.Test.YtdbgebbofpgjmaaGreatRows
import Derived.Test.YtdbgebbofpgjmaaGreatN1
import Derived.WalkKit
import Derived.ProofKit
import Derived.ChangeOld
import Derived.JoinedOf

namespace Go.Proofs.YtdbgebbofpgjmaaGreat.nodeNil
open Go.ChangeShapes Go.WideShapes Go.ChangeAt Go.RowKit
set_option linter.unusedVariables false
theorem own : ownKnob Tryz.prog.godebug = none := by kernel_rfl
set_option maxRecDepth 1000000 in
theorem lifted (os : Os) (started : os.Started) (H : Type) (enc : TypeId × Value → H) :
    ReturnsInHanded {} Tryz.checked os 6 .any (Rows.nodeNilSpec.pre6 enc Tryz.prog Tryz.f6 Rows.nodeNilRow.domain false) (Rows.nodeNilSpec.post enc Tryz.prog Tryz.f6 false true false false) :=
  YtdbgebbofpgjmaaGreatA.law_lifted (C := Tryz.checked) YtdbgebbofpgjmaaGreatA.env_good (fd := YtdbgebbofpgjmaaGreatA.fd6) (tb := 4) rfl own started (by kernel_rfl) Tryz.func6
    (ChangeSpec.witness6 (enc := enc) (C := Tryz.checked) false ⟨#[], #[((Tryz.prog.info? 89).bind (·.zero)).getD .nilFunc], []⟩ 8 (by kernel_rfl) (by kernel_rfl) (by kernel_rfl) (by kernel_rfl))
    (by kernel_rfl) (by decide +kernel) (by kernel_rfl) rfl (by kernel_rfl) (by kernel_rfl) (fun ds h => by
      match ds, h with
      | [d0], _ => rfl) YtdbgebbofpgjmaaGreatA.nodeNil_law
theorem j1 : (Rows.nodeNilRow.inPlace == Tryz.prog.inPlace 6) = true := by kernel_rfl
theorem j2 : (Rows.nodeNilRow.unfollowed == Tryz.prog.unfollowed 6) = true := by kernel_rfl
theorem j3 : (Rows.nodeNilRow.recurses == Tryz.prog.recurses 6) = true := by kernel_rfl
theorem j4 : (Rows.nodeNilRow.named == Tryz.prog.varsNamed 6) = true := by kernel_rfl
theorem j5 : laidOutB Tryz.prog = true := by kernel_rfl
theorem j6 : mapsRowed Tryz.prog = true := by kernel_rfl
theorem joined : joinedFacts Tryz.prog 6 Tryz.f6 Rows.nodeNilSpec Rows.nodeNilRow = true := by
  unfold joinedFacts
  rw [j1, j2, j3, j4, j5, j6]
  kernel_rfl
theorem called : Tryz.prog.funcNamed Rows.nodeNilRow.func = some 6 := by kernel_rfl
theorem over : Rows.nodeNilRow.holds Tryz.pinned (OpenSpec.ofChange Rows.nodeNilSpec) :=
  OpenClaim.holds_of_wide 6 Tryz.f6 rfl rfl rfl rfl rfl rfl rfl ⟨rfl, rfl, rfl, rfl, rfl⟩ rfl rfl rfl rfl rfl called Tryz.func6 joined
    (of_decide_eq_true (by kernel_rfl)) (by unfold Func.isWrapper; first | (rw [if_pos (by decide +kernel)]; kernel_rfl) | (rw [if_neg (by decide +kernel)]; exact ⟨rfl, rfl⟩))
    (fun os started H enc _ => lifted os started H enc)
end Go.Proofs.YtdbgebbofpgjmaaGreat.nodeNil
namespace Go.Proofs.YtdbgebbofpgjmaaGreat
/-- The row, under a short name, for the claim. -/
theorem nodeNil_holds : Rows.NodeNilSaid := nodeNil.over
#print axioms nodeNil_holds
end Go.Proofs.YtdbgebbofpgjmaaGreat


/- 'starlinglaw25.FlockNil' returns true for every command and every draw, and the command reads behind it as it read before: a flock that there isn't answers as it must. Without further conditions. -/
import Derived.Test.YtdbgebbofpgjmaaGreatRows
import Derived.Test.YtdbgebbofpgjmaaGreatO0
import Derived.WalkKit
import Derived.ProofKit
import Derived.ChangeOld
import Derived.JoinedOf

namespace Go.Proofs.YtdbgebbofpgjmaaGreat.flockNil
open Go.ChangeShapes Go.WideShapes Go.ChangeAt Go.RowKit
set_option linter.unusedVariables false
theorem own : ownKnob Tryz.prog.godebug = none := by kernel_rfl
set_option maxRecDepth 1000000 in
theorem lifted (os : Os) (started : os.Started) (H : Type) (enc : TypeId × Value → H) :
    ReturnsInHanded {} Tryz.checked os 7 .any (Rows.flockNilSpec.pre6 enc Tryz.prog Tryz.f7 Rows.flockNilRow.domain false) (Rows.flockNilSpec.post enc Tryz.prog Tryz.f7 false true false false) :=
  YtdbgebbofpgjmaaGreatA.law_lifted (C := Tryz.checked) YtdbgebbofpgjmaaGreatA.env_good (fd := YtdbgebbofpgjmaaGreatA.fd7) (tb := 4) rfl own started (by kernel_rfl) Tryz.func7
    (ChangeSpec.witness6 (enc := enc) (C := Tryz.checked) false ⟨#[], #[((Tryz.prog.info? 108).bind (·.zero)).getD .nilFunc, ((Tryz.prog.info? 67).bind (·.zero)).getD .nilFunc], []⟩ 8 (by kernel_rfl) (by kernel_rfl) (by kernel_rfl) (by kernel_rfl))
    (by kernel_rfl) (by decide +kernel) (by kernel_rfl) rfl (by kernel_rfl) (by kernel_rfl) (fun ds h => by
      match ds, h with
      | [d0, d1], _ => rfl) YtdbgebbofpgjmaaGreatA.flockNil_law
theorem j1 : (Rows.flockNilRow.inPlace == Tryz.prog.inPlace 7) = true := by kernel_rfl
theorem j2 : (Rows.flockNilRow.unfollowed == Tryz.prog.unfollowed 7) = true := by kernel_rfl
theorem j3 : (Rows.flockNilRow.recurses == Tryz.prog.recurses 7) = true := by kernel_rfl
theorem j4 : (Rows.flockNilRow.named == Tryz.prog.varsNamed 7) = true := by kernel_rfl
theorem j5 : laidOutB Tryz.prog = true := by kernel_rfl
theorem j6 : mapsRowed Tryz.prog = true := by kernel_rfl
theorem joined : joinedFacts Tryz.prog 7 Tryz.f7 Rows.flockNilSpec Rows.flockNilRow = true := by
  unfold joinedFacts
  rw [j1, j2, j3, j4, j5, j6]
  kernel_rfl
theorem called : Tryz.prog.funcNamed Rows.flockNilRow.func = some 7 := by kernel_rfl
theorem over : Rows.flockNilRow.holds Tryz.pinned (OpenSpec.ofChange Rows.flockNilSpec) :=
  OpenClaim.holds_of_wide 7 Tryz.f7 rfl rfl rfl rfl rfl rfl rfl ⟨rfl, rfl, rfl, rfl, rfl⟩ rfl rfl rfl rfl rfl called Tryz.func7 joined
    (of_decide_eq_true (by kernel_rfl)) (by unfold Func.isWrapper; first | (rw [if_pos (by decide +kernel)]; kernel_rfl) | (rw [if_neg (by decide +kernel)]; exact ⟨rfl, rfl⟩))
    (fun os started H enc _ => lifted os started H enc)
end Go.Proofs.YtdbgebbofpgjmaaGreat.flockNil
namespace Go.Proofs.YtdbgebbofpgjmaaGreat
/-- The row, under a short name, for the claim. -/
theorem flockNil_holds : Rows.FlockNilSaid := flockNil.over
#print axioms flockNil_holds
end Go.Proofs.YtdbgebbofpgjmaaGreat


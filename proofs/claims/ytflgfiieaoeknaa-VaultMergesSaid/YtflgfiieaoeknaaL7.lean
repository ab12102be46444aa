/- The ref compare. No statement about the program is proved here. -/
import Derived.Test.YtflgfiieaoeknaaL5
namespace Go.Proofs.YtflgfiieaoeknaaA
open Go
set_option linter.unusedSimpArgs false
set_option maxRecDepth 1000000

theorem c96 (a c : Int) : Pu envE 96 [I a, I c] (I (cmpI a c)) := by
  refine pu_is e96 rfl ?_
  rw [fr_init (by simp [fd96])]
  by_cases h : a < c
  · simp [fd96, b96, h, cmpI]
  · by_cases h2 : c < a
    · simp [fd96, b96, h, h2, cmpI]
    · simp [fd96, b96, h, h2, cmpI]
@[simp] theorem k96 {a c : Int} {H : Heap} {K : AV → Heap → Prop} : wPu envE 96 (some [I a, I c]) H K = K (I (cmpI a c)) H := (wPu_eq (c96 a c)).trans (by simp)
end Go.Proofs.YtflgfiieaoeknaaA

/- The ref compare. No statement about the program is proved here. -/
import Derived.Test.YtflgfiieaoeknaaGreatL5
namespace Go.Proofs.YtflgfiieaoeknaaGreatA
open Go
set_option linter.unusedSimpArgs false
set_option maxRecDepth 1000000

theorem c166 (a c : Int) : Pu envE 166 [I a, I c] (I (cmpI a c)) := by
  refine pu_is e166 rfl ?_
  rw [fr_init (by simp [fd166])]
  by_cases h : a < c
  · simp [fd166, b166, h, cmpI]
  · by_cases h2 : c < a
    · simp [fd166, b166, h, h2, cmpI]
    · simp [fd166, b166, h, h2, cmpI]
@[simp] theorem k166 {a c : Int} {H : Heap} {K : AV → Heap → Prop} : wPu envE 166 (some [I a, I c]) H K = K (I (cmpI a c)) H := (wPu_eq (c166 a c)).trans (by simp)
end Go.Proofs.YtflgfiieaoeknaaGreatA

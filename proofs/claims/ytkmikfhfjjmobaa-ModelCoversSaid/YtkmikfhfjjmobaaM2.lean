/- Two rows of values held against each other; what is kept while others write. No statement about the program is proved here. -/
import Derived.Test.YtkmikfhfjjmobaaM1
import Derived.Test.YtkmikfhfjjmobaaW4
import Derived.Test.YtkmikfhfjjmobaaL8
namespace Go.Proofs.YtkmikfhfjjmobaaA
open Go
set_option linter.unusedSimpArgs false
set_option linter.unusedVariables false
set_option maxRecDepth 1000000

theorem c53s (l : List Val) (hl : l.length < 4611686018427387904) : Pu envE 53 [roL valC l, roL valC l] (.bool true) := by
  refine pu_is e53 rfl ?_
  rw [fr_init (by simp [fd53])]
  simp [fd53, b53]
  refine loop_go [0, 1, 12, 13] rfl (fun m vs H => ∃ i, m + i = l.length ∧ vs = [roL valC l, roL valC l, I l.length, I i]) ?_ l.length ⟨0, rfl, rfl⟩
  rintro J hJ m vs H f ⟨i, hm, rfl⟩
  by_cases hi : i < l.length
  · have hw := wrap_succ (i := i) (by omega)
    have hld := fun H => load_roL valC_len hi (H := H)
    simp [lp53_0, hi, idxSl_roL hi, hld, -load_tp, hw]
    exact nxt hJ (m - 1) (by omega) ⟨i + 1, by omega, rfl⟩
  · simp [lp53_0, hi]
theorem k53s {l : List Val} (hl : l.length < 4611686018427387904) {H : Heap} {K : AV → Heap → Prop} : wPu envE 53 (some [roL valC l, roL valC l]) H K = K (.bool true) H := (wPu_eq (c53s l hl)).trans (by simp)
end Go.Proofs.YtkmikfhfjjmobaaA

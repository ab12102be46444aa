/- Light calls. No statement about the program is proved here. -/
import Derived.Test.YtflgfiieaoeknaaU1
import Derived.Test.YtflgfiieaoeknaaT1
namespace Go.Proofs.YtflgfiieaoeknaaA
open Go Go.RowKit
set_option linter.unusedSimpArgs false
set_option linter.unusedVariables false
set_option maxRecDepth 1000000
attribute [local simp] ring_zero

theorem heavy28a (r : Ring) : ∃ n, Pu envE 28 [.ro 1 (ringV r.status r.plan.version r.plan.by' (roL intC r.plan.targets) r.epoch r.owner)] (I n) := by
  have := c28 [r] (by simp)
  simpa [roL] using this
theorem c27 (l : List DCall) (hl : l.length < 4611686018427387904) : ∃ b, Pu envE 27 [roL dcC l] (.bool b) := by
  suffices h : ∃ d, Pu envE 27 [roL dcC l] d ∧ ∃ b, d = .bool b by
    obtain ⟨d, h1, b, rfl⟩ := h
    exact ⟨b, h1⟩
  refine pu_ex e27 rfl ?_
  rw [fr_init (by simp [fd27])]
  simp [fd27, b27]
  refine loop_go [5, 6, 7] rfl (fun m vs H => ∃ i, m + i = l.length ∧ vs = [roL dcC l, I l.length, I i]) ?_ l.length ⟨0, rfl, rfl⟩
  rintro J hJ m vs H b ⟨i, hm, rfl⟩
  by_cases hi : i < l.length
  · have hw := wrap_succ (i := i) (by omega)
    have hld := load_roL dcC_len hi (H := H)
    rw [dcC_eq] at hld
    obtain ⟨y, hy⟩ := heavy28a l[i].ring
    by_cases h60 : (60 : Int) ≤ i
    · simp [lp27_0, hi, idxSl_roL hi, hld, h60, -load_tp]
    · by_cases h200 : (200 : Int) < l[i].key.length
      · simp [lp27_0, hi, idxSl_roL hi, hld, h60, h200, -load_tp]
      · by_cases h300 : (300 : Int) < l[i].data.length
        · simp [lp27_0, hi, idxSl_roL hi, hld, h60, h200, h300, -load_tp]
        · by_cases h0 : 0 < y
          · simp [lp27_0, hi, idxSl_roL hi, hld, h60, h200, h300, frz_sl, wPu_eq hy, h0, -load_tp]
          · simp [lp27_0, hi, idxSl_roL hi, hld, h60, h200, h300, frz_sl, wPu_eq hy, h0, hw, -load_tp]
            exact nxt hJ (m - 1) (by omega) ⟨i + 1, by omega, rfl⟩
  · simp [lp27_0, hi]
theorem of_dcall {xs : List AV} (h : Fits shDCall xs) : ∃ c, xs = dcC c ∧ c.ring.plan.targets.length * 8 ≤ reachBytes := by
  obtain ⟨a0, r1, rfl, k1⟩ := of_cat_int h
  obtain ⟨a1, r2, rfl, k2⟩ := of_cat_int k1
  obtain ⟨r, rest, rfl, _, h1, h2⟩ := fits_cons k2
  obtain ⟨s, rfl, _⟩ := fits_str h1
  obtain ⟨r, rest, rfl, _, h3, h4⟩ := fits_cons h2
  obtain ⟨s2, rfl, _⟩ := fits_str h3
  obtain ⟨r, rest, rfl, _, h5, h6⟩ := fits_cons h4
  obtain ⟨k, rfl⟩ := of_vec h5
  obtain ⟨r, rest, rfl, _, h7, h8⟩ := fits_cons h6
  obtain ⟨rg, rfl, _, h9⟩ := of_ring h7
  have := fits_nil h8; subst this
  exact ⟨⟨a0, a1, s, s2, k, rg⟩, by simp [dcC, dcV], h9⟩
theorem ringD_eq {r : Ring} : deedMay (ringD r) = ringMay r := by
  cases h : ringMay r
  · have e : namedD (ringD r) = ringD r := by simp [namedD, ringD]
    simp only [deedMay, e, deedSame_refl, Bool.true_and]
    simp [ringD, h]
  · exact ringD_may h
theorem desk_empty : deskO (emptyS 100) 1 [107] zeroV [120] = ⟨0, 0, 0, 8, emptyS 100⟩ := by
  have e : ownsO (emptyS 100) 1 [107] = ⟨0, 8⟩ := by simp [ownsO, emptyS, keyOk]
  simp [deskO, e]
theorem bags_fold {s : VSt} (h : Inv s) : (foldS (startS s.ds s.sure s.room) s.ds).bags = s.bags := by
  rw [fold_bags _ _ h.kinds, h.bags]
  rfl
end Go.Proofs.YtflgfiieaoeknaaA

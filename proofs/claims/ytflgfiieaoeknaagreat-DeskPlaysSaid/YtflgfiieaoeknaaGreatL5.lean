/- Deeds of one number; what is always run. No statement about the program is proved here. -/
import Derived.Test.YtflgfiieaoeknaaGreatL4
namespace Go.Proofs.YtflgfiieaoeknaaGreatA
open Go
set_option linter.unusedSimpArgs false
set_option linter.unusedVariables false
set_option maxRecDepth 1000000

theorem vecEq_refl {k : Nat → Int} : vecEq k k = true := by rw [vecEq_iff]; intro i _; rfl
theorem ringSame_refl {r : Ring} : ringSame r r = true := by simp [ringSame, vecEq_refl, prtEq, planSame]
theorem bagSame_refl {b : Bag} : bagSameB b b = true := by simp [bagSameB, bagSame, vecEq_refl]
theorem deedSame_refl {d : Deed} : deedSame d d = true := by simp [deedSame, ringSame_refl, bagSame_refl]
def incD (n : Int) : Deed := ⟨1, n, [], zBagS, zRingS, 0⟩
theorem incD_may {n : Int} (h0 : 0 ≤ n) (h1 : n ≤ 1000000) : deedMay (incD n) = true := by
  have e : namedD (incD n) = incD n := rfl
  unfold deedMay
  rw [e, deedSame_refl]
  simp [incD, withinB, h0, h1]
theorem incD_cells (n : Int) : deedV 1 n [] zeroV .nilsl zeroV 0 0 .nilsl zeroV zeroV 0 = deedM (incD n) .nilsl .nilsl := rfl
theorem incD_fits (n : Int) : deedFits (incD n) := ⟨by simp [incD, zBagS], by simp [incD, zRingS]⟩
theorem frz_nilV {H : Heap} : frz H 11 .nilsl = some (roL valC []) := rfl
theorem frz_nilI {H : Heap} : frz H 11 .nilsl = some (roL intC []) := rfl
/-- Writing a deed of one number. -/
theorem write_inc {lo : Nat} {H : Heap} {b : Nat} {v : AV} {ds : List Deed} {s r : Int} (h : Led lo H b v ds s r) (hlo : lo ≤ H.length) (hr0 : 0 ≤ r) (hr1 : r ≤ 3000) (hle : (ds.length : Int) ≤ r) (n : Int) (h0 : 0 ≤ n) (h1 : n ≤ 1000000) :
    WCl envE 95 [.ptr (some (b, 0)), .agg (deedV 1 n [] zeroV .nilsl zeroV 0 0 .nilsl zeroV zeroV 0)] 0 H fun x H' => (r - ds.length = 0 ∧ x = I 5 ∧ Led lo H' b v ds s r) ∨ (r - ds.length ≠ 0 ∧ x = I 0 ∧ ∃ v', Led lo H' b v' (ds ++ [incD n]) s r) := by
  rw [incD_cells]
  refine WCl.mono (c95 h hlo hr0 hr1 hle (incD n) .nilsl .nilsl (incD_fits n) (by simp [incD]) (fun _ => frz_nilV) (fun _ => frz_nilI) rfl rfl) ?_
  rintro x H' ⟨rfl, _, _, h2⟩
  have e : writeE (incD n) ds r = if r - ds.length = 0 then 5 else 0 := by simp [writeE, incD_may h0 h1]
  by_cases q : r - ds.length = 0
  · rw [e, if_pos q] at h2 ⊢
    simp at h2
    exact .inl ⟨q, rfl, h2⟩
  · rw [e, if_neg q] at h2 ⊢
    simp at h2
    obtain ⟨v', h3, _⟩ := h2
    exact .inr ⟨q, rfl, v', h3⟩
theorem Led.sync {lo : Nat} {H : Heap} {b : Nat} {v : AV} {ds : List Deed} {s r : Int} (h : Led lo H b v ds s r) (s' : Int) : Led lo (H.set b (.cells false [v, I s', I r])) b v ds s' r :=
  ⟨List.getElem?_set_self (lt_of h.at'), h.row.setF h.at', h.few⟩
theorem Led.crash {lo : Nat} {H : Heap} {b : Nat} {v : AV} {ds : List Deed} {s r : Int} (h : Led lo H b v ds s r) (j : Nat) (hj : j ≤ ds.length) (s' : Int) : Led lo (H.set b (.cells false [subAt v j, I s', I r])) b (subAt v j) (ds.take j) s' r := by
  obtain ⟨_, g2, _⟩ := h.row.cutv (j := j) (k := .i64) hj
  exact ⟨List.getElem?_set_self (lt_of h.at'), g2.setF h.at', by rw [List.length_take]; have := h.few; omega⟩
end Go.Proofs.YtflgfiieaoeknaaGreatA

/- Play, for a caller. No statement about the program is proved here. -/
import Derived.Test.YtkmikfhfjjmobaaQ1
namespace Go.Proofs.YtkmikfhfjjmobaaA
open Go
set_option linter.unusedSimpArgs false
set_option linter.unusedVariables false
set_option maxRecDepth 1000000

theorem thaws_owL {H : Heap} {lim : Nat} (hlim : lim ≤ H.length) (K : Nat → Nat → Int) (L : Nat → List Val) : ∃ R X, thaws (arrV K fun w => owL 3 valC (L w)) H = (arrV K R, H ++ X) ∧ ∀ w, w < 3 → Row lim (H ++ X) 3 valC (L w) (R w) := by
  obtain ⟨v0, X0, e0, r0⟩ := thaw_owL (H := H) (lim := lim) (es := 3) val_still hlim (L 0)
  obtain ⟨v1, X1, e1, r1⟩ := thaw_owL (H := H ++ X0) (lim := lim) (es := 3) val_still (by simp; omega) (L 1)
  obtain ⟨v2, X2, e2, r2⟩ := thaw_owL (H := H ++ X0 ++ X1) (lim := lim) (es := 3) val_still (by simp; omega) (L 2)
  refine ⟨fun | 0 => v0 | 1 => v1 | _ => v2, X0 ++ (X1 ++ X2), ?_, fun w hw => ?_⟩
  · unfold arrV
    rw [thaws_app (a := bagV (K 0) _) (a' := bagV (K 0) v0) (H1 := H ++ X0) (by rw [bagV_thaws, e0]) (thaws_app (a := bagV (K 1) _) (a' := bagV (K 1) v1) (H1 := H ++ X0 ++ X1) (by rw [bagV_thaws, e1]) (by rw [bagV_thaws, e2]))]
    simp
  · obtain rfl | rfl | rfl := lt3 hw
    · simpa using (r0.app (X := X1 ++ X2))
    · simpa using (r1.app (X := X2))
    · simpa using r2
/-- What play answers to who calls it. -/
theorem k45 (l : List PStep) (hl : l.length < 4611686018427387904) : ∃ K L ok, (∀ H Q, wPu envE 45 (some [roL stepC l]) H Q = Q (.tup [.agg (thaws (arrV K fun w => owL 3 valC (L w)) H).1, .bool ok]) (thaws (arrV K fun w => owL 3 valC (L w)) H).2) ∧ (ok = true → ∃ n, runF st0 (l.take 40) = some ⟨K, L, n⟩) := by
  obtain ⟨K, L, ok, h, h2⟩ := c45 l hl
  exact ⟨K, L, ok, fun H Q => (wPu_eq h).trans (by simp), h2⟩
theorem cut_roL {l : List PStep} {p : Nat} (hp : p ≤ l.length) : cutSl 3 (roL stepC l) none (some (I p)) none = some (roL stepC (l.take p)) := by
  have h1 := flatMap_take stepC_len l p
  simp [roL, cutSl_ro, bnd_nat hp, bnd, AV.isInt, Nat.min_eq_left hp, h1, hp]
theorem of_steps {cs : List AV} (h : Fits (.sl 3 24 (.cat [iS, iS, iS])) cs) : ∃ l : List PStep, cs = [roL stepC l] ∧ l.length ≤ maxLen ∧ l.length * 24 ≤ reachBytes :=
  fits_sl (f := stepC) (fun r hr => by
    obtain ⟨a, r1, rfl, k1⟩ := of_cat_int hr
    obtain ⟨b, r2, rfl, k2⟩ := of_cat_int k1
    obtain ⟨c, r3, rfl, k3⟩ := of_cat_int k2
    cases fits_nil k3
    exact ⟨⟨a, b, c⟩, rfl⟩) h
theorem twice {ka kb : Nat → Int} {la lb : List Val} (ha : BagOk ka la) (hb : BagOk kb lb) (h : Upon ka la kb lb) : joinE ka la kb lb = 0 ∧ bagSame (joinK ka la kb lb) (joinR ka la kb lb) kb lb = true ∧ joinE kb lb ka la = 0 ∧ bagSame (joinK kb lb ka la) (joinR kb lb ka la) kb lb = true ∧ belowB ka la kb lb = true := by
  obtain ⟨e1, e2⟩ := joinE_upon ha hb h
  obtain ⟨e3, e4⟩ := join_upon ha hb h
  obtain ⟨e5, e6⟩ := joinV_upon h.know
  exact ⟨e1, by simp [bagSame, joinK, joinR, e1, e3, e5], e2, by simp [bagSame, joinK, joinR, e2, e4, e6], below_upon ha hb h⟩
end Go.Proofs.YtkmikfhfjjmobaaA

/- What the reference answers of vectors, bags, rings and deeds. No statement about the program is proved here. -/
import Derived.Test.YtflgfiieaoeknaaGreatL7
namespace Go.Proofs.YtflgfiieaoeknaaGreatA
open Go
set_option linter.unusedSimpArgs false
set_option linter.unusedVariables false
set_option maxRecDepth 1000000

theorem c99 (k : Nat → Int) : Pu envE 99 [.agg (vecC k)] (.bool (vecMay k)) := by
  refine pu_is e99 rfl ?_
  rw [fr_init (by simp [fd99])]
  simp [fd99, b99]
  refine loop_go [5, 6] rfl (fun m vs H => ∃ i, m + i = 8 ∧ (∀ j, j < i → 0 ≤ k j ∧ k j ≤ 1000000) ∧ vs = [.agg (vecC k), I i]) ?_ 8 ⟨0, rfl, by omega, rfl⟩
  rintro J hJ m vs H b ⟨i, hm, hall, rfl⟩
  have bad : ∀ j, j < 8 → ¬ (0 ≤ k j ∧ k j ≤ 1000000) → vecMay k = false := fun j hj q => by
    rw [Bool.eq_false_iff, Ne, vecMay_iff]
    exact fun p => q (p j hj)
  by_cases hi : i < 8
  · have hw := wrap_succ (i := i) (by omega)
    have hi' : (i : Int) < 8 := by omega
    by_cases h1 : k i < 0
    · simp [lp99_0, hi, hi', h1, bad i hi (by omega)]
    · by_cases h2 : 1000000 < k i
      · simp [lp99_0, hi, hi', h1, h2, bad i hi (by omega)]
      · simp [lp99_0, hi, hi', h1, h2, hw]
        exact nxt hJ (m - 1) (by omega) ⟨i + 1, by omega, fun j hj => by
          rcases Nat.lt_or_ge j i with q | q
          · exact hall j q
          · obtain rfl : j = i := by omega
            omega, rfl⟩
  · have hi' : ¬ (i : Int) < 8 := by omega
    have e : vecMay k = true := vecMay_iff.2 fun j hj => hall j (by omega)
    simp [lp99_0, hi', e]
@[simp] theorem k99 {k : Nat → Int} {H : Heap} {K : AV → Heap → Prop} : wPu envE 99 (some [.agg (vecC k)]) H K = K (.bool (vecMay k)) H := (wPu_eq (c99 k)).trans (by simp)
theorem c100 (k : Nat → Int) (a c : Int) : Pu envE 100 [.agg (vecC k), .agg [I a, I c]] (.bool (has k a c)) := by
  refine pu_is e100 rfl ?_
  rw [fr_init (by simp [fd100])]
  by_cases h : nodeOk a = true
  · obtain ⟨h1, h2⟩ := nodeOk_iff.1 h
    have h3 : a.toNat < 8 := by omega
    by_cases h4 : 1 ≤ c
    · simp [fd100, b100, h, h1, h2, h3, h4, has]
    · simp [fd100, b100, h, h4, has]
  · simp [fd100, b100, h, has]
@[simp] theorem k100 {k : Nat → Int} {a c : Int} {H : Heap} {K : AV → Heap → Prop} : wPu envE 100 (some [.agg (vecC k), .agg [I a, I c]]) H K = K (.bool (has k a c)) H := (wPu_eq (c100 k a c)).trans (by simp)
theorem c135 (a c a' c' : Int) : Pu envE 135 [.agg [I a, I c], .agg [I a', I c']] (I (dotCmp a c a' c')) := by
  refine pu_is e135 rfl ?_
  rw [fr_init (by simp [fd135])]
  by_cases h : a = a'
  · have e : dotCmp a c a' c' = cmpI c c' := by simp [dotCmp, cmpI_zero.2 h]
    simp [fd135, b135, h] at e ⊢
    exact e.symm
  · have e0 : ¬ cmpI a a' = 0 := fun q => h (cmpI_zero.1 q)
    have e : dotCmp a c a' c' = cmpI a a' := by simp [dotCmp, e0]
    simp [fd135, b135, h, e]
@[simp] theorem k135 {a c a' c' : Int} {H : Heap} {K : AV → Heap → Prop} : wPu envE 135 (some [.agg [I a, I c], .agg [I a', I c']]) H K = K (I (dotCmp a c a' c')) H := (wPu_eq (c135 a c a' c')).trans (by simp)
theorem c98 (k : Nat → Int) (l : List Val) (hl : l.length < 4611686018427387904) : Pu envE 98 [.agg (bagV k (roL valC l))] (.bool (bagMay k l)) := by
  refine pu_is e98 rfl ?_
  rw [fr_init (by simp [fd98])]
  by_cases hv : vecMay k = true
  case neg => simp [fd98, b98, hv, bagMay]
  by_cases h32 : (32 : Int) < l.length
  case pos =>
    have : ¬ l.length ≤ 32 := by omega
    simp [fd98, b98, hv, h32, bagMay, this]
  have h32' : l.length ≤ 32 := by omega
  simp [fd98, b98, hv, h32]
  refine loop_go [1, 16, 17, 18] rfl (fun m vs H => ∃ i X, m + i = l.length ∧ (∀ j (hj : j < l.length), j < i → valMay l[j] k = true ∧ (0 < j → dlt (l[j - 1]'(by omega)) l[j] = true)) ∧ H = .cells false (bagV k (roL valC l)) :: X ∧ vs = [.ptr (some (0, 0)), roL valC l, I l.length, I i]) ?_ l.length ⟨0, [], rfl, by omega, rfl, rfl⟩
  rintro J hJ m vs H b ⟨i, X, hm, hall, rfl, rfl⟩
  by_cases hi : i < l.length
  · have hw := wrap_succ (i := i) (by omega)
    have hld := valC_load hi (H := .cells false (bagV k (roL valC l)) :: X)
    have bad : ¬ (valMay l[i] k = true ∧ (0 < i → dlt (l[i - 1]'(by omega)) l[i] = true)) → bagMay k l = false := fun q => by
      have : goodL l k = false := decide_eq_false fun hg => q (hg ⟨i, hi⟩)
      simp [bagMay, this]
    have next : (valMay l[i] k = true ∧ (0 < i → dlt (l[i - 1]'(by omega)) l[i] = true)) → ∀ j (hj : j < l.length), j < i + 1 → valMay l[j] k = true ∧ (0 < j → dlt (l[j - 1]'(by omega)) l[j] = true) := fun q j hj hji => by
      rcases Nat.lt_or_ge j i with q1 | q1
      · exact hall j hj q1
      · obtain rfl : j = i := by omega
        exact q
    by_cases hh : has k l[i].node l[i].n = true
    case neg =>
      have hb := bad fun q => hh (valMay_iff.1 q.1).1
      simp [lp98_0, hi, hw, idxSl_roL hi, hld, hh, hb, -load_tp]
    by_cases hd64 : (64 : Int) < l[i].data.length
    case pos =>
      have hb := bad fun q => by have := (valMay_iff.1 q.1).2; omega
      simp [lp98_0, hi, hw, idxSl_roL hi, hld, hh, hd64, hb, -load_tp]
    have hm1 : valMay l[i] k = true := valMay_iff.2 ⟨hh, by omega⟩
    by_cases hi0 : 0 < i
    · have hw2 := wrap_pred (i := i) (by omega) hi0
      have hi1 : i - 1 < l.length := by omega
      have hcut : cut ((l.flatMap valC).drop ((i - 1) * 3)) 0 2 = some [I (l[i - 1]).node, I (l[i - 1]).n] := by
        rw [flat_cut valC_len hi1 (by omega)]
        rfl
      have hld2 : loadAt (.cells false (bagV k (roL valC l)) :: (X ++ [.cells false (valC l[i])])) (some 2) (.tp ((l.flatMap valC).drop ((i - 1) * 3))) = some (.agg [I (l[i - 1]).node, I (l[i - 1]).n]) := by
        simp only [load_tp, Option.getD_some, hcut, Option.bind_some, shape_some]
      by_cases hd : dlt l[i - 1] l[i] = true
      · have hd' : ¬ 0 ≤ dotCmp l[i - 1].node l[i - 1].n l[i].node l[i].n := by simpa [dlt] using hd
        simp [lp98_0, hi, hw, hw2, idxSl_roL hi, idxSl_roL hi1, hld, hld2, hh, hd64, hi0, hd', -load_tp]
        exact nxt hJ (m - 1) (by omega) ⟨i + 1, X ++ [.cells false (valC l[i])], by omega, next ⟨hm1, fun _ => hd⟩, rfl, rfl⟩
      · have hd' : 0 ≤ dotCmp l[i - 1].node l[i - 1].n l[i].node l[i].n := by simpa [dlt] using hd
        have hb := bad fun q => hd (q.2 hi0)
        simp [lp98_0, hi, hw, hw2, idxSl_roL hi, idxSl_roL hi1, hld, hld2, hh, hd64, hi0, hd', hb, -load_tp]
    · simp [lp98_0, hi, hw, idxSl_roL hi, hld, hh, hd64, hi0, -load_tp]
      exact nxt hJ (m - 1) (by omega) ⟨i + 1, X ++ [.cells false (valC l[i])], by omega, next ⟨hm1, fun q => absurd q hi0⟩, rfl, rfl⟩
  · have e : bagMay k l = true := by
      have : goodL l k = true := decide_eq_true fun j => hall j.1 j.2 (by omega)
      simp [bagMay, this, hv, h32']
    simp [lp98_0, hi, e]
theorem k98 {k : Nat → Int} {l : List Val} {H : Heap} {K : AV → Heap → Prop} (hl : l.length < 4611686018427387904) : wPu envE 98 (some [.agg (bagV k (roL valC l))]) H K = K (.bool (bagMay k l)) H := (wPu_eq (c98 k l hl)).trans (by simp)
theorem c64 (e o : Int) : Pu envE 64 [.agg [I e, I o]] (.bool (entMay e o)) := by
  refine pu_is e64 rfl ?_
  rw [fr_init (by simp [fd64])]
  by_cases h0 : e = 0 ∧ o = 0
  · obtain ⟨rfl, rfl⟩ := h0
    simp [fd64, b64, eq_row2, entMay]
  by_cases h1 : 1 ≤ e
  case neg => simp [fd64, b64, eq_row2, entMay, h0, h1]
  by_cases h2 : e ≤ 1000000 <;> simp [fd64, b64, eq_row2, entMay, h0, h1, h2]
@[simp] theorem k64 {e o : Int} {H : Heap} {K : AV → Heap → Prop} : wPu envE 64 (some [.agg [I e, I o]]) H K = K (.bool (entMay e o)) H := (wPu_eq (c64 e o)).trans (by simp)
theorem c105 (l : List Int) (hl : l.length < 4611686018427387904) : Pu envE 105 [roL intC l] (.bool (fullT l)) := by
  refine pu_is e105 rfl ?_
  rw [fr_init (by simp [fd105])]
  simp [fd105, b105]
  refine loop_go [0, 5, 6, 7] rfl (fun m vs H => ∃ i, m + i = l.length ∧ (∀ j (hj : j < l.length), j < i → nodeOk l[j] = true) ∧ vs = [roL intC l, roL intC l, I l.length, I i]) ?_ l.length ⟨0, rfl, by omega, rfl⟩
  rintro J hJ m vs H b ⟨i, hm, hall, rfl⟩
  by_cases hi : i < l.length
  · have hw := wrap_succ (i := i) (by omega)
    have hld := int_load hi (H := H)
    by_cases hn : nodeOk l[i] = true
    · simp [lp105_0, hi, idxSl_roL hi, hld, hw, hn, -load_tp]
      exact nxt hJ (m - 1) (by omega) ⟨i + 1, by omega, fun j hj hji => by
        rcases Nat.lt_or_ge j i with q | q
        · exact hall j hj q
        · obtain rfl : j = i := by omega
          exact hn, rfl⟩
    · have e : l.all nodeOk = false := by
        rw [List.all_eq_false]
        exact ⟨l[i], List.getElem_mem _, hn⟩
      simp [lp105_0, hi, idxSl_roL hi, hld, hw, hn, fullT, e, -load_tp]
  · have e : l.all nodeOk = true := by
      rw [List.all_eq_true]
      intro x hx
      obtain ⟨j, hj, rfl⟩ := List.mem_iff_getElem.1 hx
      exact hall j hj (by omega)
    have e2 : ((l.length : Int) == 16) = decide (l.length = 16) := by rw [Bool.eq_iff_iff]; simp; omega
    simp [lp105_0, hi, fullT, e, e2]
@[simp] theorem k105 {l : List Int} {H : Heap} {K : AV → Heap → Prop} (hl : l.length < 4611686018427387904) : wPu envE 105 (some [roL intC l]) H K = K (.bool (fullT l)) H := (wPu_eq (c105 l hl)).trans (by simp)
theorem c65 (p : Plan) (hl : p.targets.length < 4611686018427387904) : Pu envE 65 [.agg (planC p)] (.bool (planMay p)) := by
  refine pu_is e65 rfl ?_
  rw [fr_init (by simp [fd65])]
  have h16 : fullT ([] : List Int) = false := rfl
  by_cases h0 : p.targets = []
  · by_cases h1 : p.version = 0
    · by_cases h2 : p.by' = 0 <;> simp [fd65, b65, h0, h1, h2, planMay]
    · by_cases h3 : 1 ≤ p.version
      · by_cases h4 : p.version ≤ 1000000
        · by_cases h5 : nodeOk p.by' = true <;> simp [fd65, b65, h0, h1, h3, h4, h5, h16, planMay]
        · simp [fd65, b65, h0, h1, h3, h4, planMay]
      · simp [fd65, b65, h0, h1, h3, planMay]
  have h0' : ¬ (p.targets.length : Int) = 0 := by
    have := List.length_pos_iff.2 h0
    omega
  by_cases h1 : p.version = 0
  · by_cases h2 : p.by' = 0 <;> simp [fd65, b65, h0, h0', h1, h2, planMay]
  by_cases h3 : 1 ≤ p.version
  case neg => simp [fd65, b65, h0, h1, h3, planMay]
  by_cases h4 : p.version ≤ 1000000
  case neg => simp [fd65, b65, h0, h1, h3, h4, planMay]
  by_cases h5 : nodeOk p.by' = true <;> simp [fd65, b65, h0, h1, h3, h4, h5, hl, planMay]
@[simp] theorem k65 {v b : Int} {t : List Int} {H : Heap} {K : AV → Heap → Prop} (hl : t.length < 4611686018427387904) : wPu envE 65 (some [.agg (planV v b (roL intC t))]) H K = K (.bool (planMay ⟨v, b, t⟩)) H := (wPu_eq (c65 ⟨v, b, t⟩ hl)).trans (by simp)
theorem c25 (r : Ring) (hl : r.plan.targets.length < 4611686018427387904) : Pu envE 25 [.agg (ringC r)] (.bool (ringMay r)) := by
  refine pu_is e25 rfl ?_
  rw [fr_init (by simp [fd25])]
  simp [fd25, b25]
  refine loop_go [1, 8, 9] rfl (fun m vs H => ∃ i, m + i = 8 ∧ (∀ j, j < i → 0 ≤ r.status j ∧ r.status j ≤ 4) ∧ H = [.cells false (ringV r.status r.plan.version r.plan.by' (roL intC r.plan.targets) r.epoch r.owner)] ∧ vs = [.ptr (some (0, 0)), .agg (vecC r.status), I i]) ?_ 8 ⟨0, rfl, by omega, rfl, rfl⟩
  rintro J hJ m vs H b ⟨i, hm, hall, rfl, rfl⟩
  have bad : ∀ j, j < 8 → ¬ (0 ≤ r.status j ∧ r.status j ≤ 4) → ringMay r = false := fun j hj q => by
    have : statMay r.status = false := by
      rw [Bool.eq_false_iff]
      intro p
      simp only [statMay, List.all_eq_true, List.mem_range, Bool.and_eq_true, decide_eq_true_eq] at p
      exact q (p j hj)
    simp [ringMay, this]
  by_cases hi : i < 8
  · have hw := wrap_succ (i := i) (by omega)
    have hi' : (i : Int) < 8 := by omega
    by_cases h1 : r.status i < 0
    · simp [lp25_0, hi, hi', h1, bad i hi (by omega)]
    · by_cases h2 : 4 < r.status i
      · simp [lp25_0, hi, hi', h1, h2, bad i hi (by omega)]
      · simp [lp25_0, hi, hi', h1, h2, hw]
        exact nxt hJ (m - 1) (by omega) ⟨i + 1, by omega, fun j hji => by
          rcases Nat.lt_or_ge j i with q | q
          · exact hall j q
          · obtain rfl : j = i := by omega
            omega, rfl, rfl⟩
  have hi' : ¬ (i : Int) < 8 := by omega
  have hs : statMay r.status = true := by
    simp only [statMay, List.all_eq_true, List.mem_range, Bool.and_eq_true, decide_eq_true_eq]
    exact fun j hj => hall j (by omega)
  simp [lp25_0, hi']
  refine loop_go [1, 20, 21] rfl (fun m vs H => ∃ i X, m + i = 16 ∧ (∀ j, j < i → entMay (r.epoch j) (r.owner j) = true) ∧ H = .cells false (ringV r.status r.plan.version r.plan.by' (roL intC r.plan.targets) r.epoch r.owner) :: X ∧ vs = [.ptr (some (0, 0)), .agg (prtC r.epoch r.owner), I i]) ?_ 16 ⟨0, [], rfl, by omega, rfl, rfl⟩
  rintro J2 hJ2 m2 vs H b ⟨i, X, hm2, hall2, rfl, rfl⟩
  by_cases hi : i < 16
  · have hw := wrap_succ (i := i) (by omega)
    have hi2 : (i : Int) < 16 := by omega
    have hc : cut (prtC r.epoch r.owner) (i * 2) 2 = some [I (r.epoch i), I (r.owner i)] := by rw [cut_at (by simp; omega), prt_get hi]
    by_cases hn : entMay (r.epoch i) (r.owner i) = true
    · simp [lp25_1, hi, hi2, hc, hn, hw]
      exact nxt hJ2 (m2 - 1) (by omega) ⟨i + 1, _, by omega, fun j hji => by
        rcases Nat.lt_or_ge j i with q | q
        · exact hall2 j q
        · obtain rfl : j = i := by omega
          exact hn, rfl, rfl⟩
    · have e : partsMay r.epoch r.owner = false := by
        rw [Bool.eq_false_iff]
        intro q
        simp only [partsMay, List.all_eq_true, List.mem_range] at q
        exact hn (q i hi)
      simp [lp25_1, hi, hi2, hc, hn, ringMay, e]
  · have hi2 : ¬ (i : Int) < 16 := by omega
    have e : partsMay r.epoch r.owner = true := by
      simp only [partsMay, List.all_eq_true, List.mem_range]
      exact fun j hj => hall2 j (by omega)
    have hp : planMay ⟨r.plan.version, r.plan.by', r.plan.targets⟩ = planMay r.plan := rfl
    simp [lp25_1, hi2, hl, ringMay, hs, e, hp]
end Go.Proofs.YtflgfiieaoeknaaGreatA

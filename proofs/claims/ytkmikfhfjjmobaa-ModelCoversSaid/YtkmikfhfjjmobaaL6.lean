/- What the reference's SameDeed answers, and the guards. No statement about the program is proved here. -/
import Derived.Test.YtkmikfhfjjmobaaL5
namespace Go.Proofs.YtkmikfhfjjmobaaA
open Go
set_option linter.unusedSimpArgs false
set_option linter.unusedVariables false
set_option maxRecDepth 1000000
attribute [local simp] deed_zero

theorem c114 (a c : Int) : Pu envE 114 [I a, I c] (I (cmpI a c)) := by
  refine pu_is e114 rfl ?_
  rw [fr_init (by simp [fd114])]
  by_cases h : a < c
  · simp [fd114, b114, h, cmpI]
  · by_cases h2 : c < a
    · simp [fd114, b114, h, h2, cmpI]
    · simp [fd114, b114, h, h2, cmpI]
@[simp] theorem k114 {a c : Int} {H : Heap} {K : AV → Heap → Prop} : wPu envE 114 (some [I a, I c]) H K = K (I (cmpI a c)) H := (wPu_eq (c114 a c)).trans (by simp)
theorem c110 (p q : Plan) (hl : p.targets.length < 4611686018427387904) : ∃ n : Int, Pu envE 110 [.agg (planV p.version p.by' (roL intC p.targets)), .agg (planV q.version q.by' (roL intC q.targets))] (I n) ∧ (n = 0 ↔ planSame p q = true) := by
  suffices h : ∃ d, Pu envE 110 [.agg (planV p.version p.by' (roL intC p.targets)), .agg (planV q.version q.by' (roL intC q.targets))] d ∧ ∃ n : Int, d = I n ∧ (n = 0 ↔ planSame p q = true) by
    obtain ⟨d, h1, n, rfl, h2⟩ := h
    exact ⟨n, h1, h2⟩
  refine pu_ex e110 rfl ?_
  rw [fr_init (by simp [fd110])]
  by_cases h1 : p.version = q.version
  case neg =>
    have e : ¬ cmpI p.version q.version = 0 := fun e => h1 (cmpI_zero.1 e)
    simp [fd110, b110, h1, planSame, e]
  by_cases h2 : p.by' = q.by'
  case neg =>
    have e : ¬ cmpI p.by' q.by' = 0 := fun e => h2 (cmpI_zero.1 e)
    simp [fd110, b110, h1, h2, planSame, e]
  by_cases h3 : p.targets.length = q.targets.length
  case neg =>
    have e : ¬ cmpI (p.targets.length : Int) q.targets.length = 0 := fun e => h3 (by have := cmpI_zero.1 e; omega)
    have h3' : ¬ (p.targets.length : Int) = q.targets.length := by omega
    have h4 : ¬ p.targets = q.targets := fun e => h3 (by rw [e])
    simp [fd110, b110, h1, h2, h3', planSame, e, h4]
  simp [fd110, b110, h1, h2, h3]
  refine loop_go [2, 3, 42, 43] rfl (fun m vs H => ∃ i, m + i = p.targets.length ∧ (∀ j (hj : j < p.targets.length) (hj2 : j < q.targets.length), j < i → p.targets[j] = q.targets[j]) ∧ H = [.cells false (planV p.version p.by' (roL intC p.targets)), .cells false (planV q.version q.by' (roL intC q.targets))] ∧ vs = [.ptr (some (0, 0)), .ptr (some (1, 0)), I p.targets.length, I i]) ?_ p.targets.length ⟨0, rfl, by omega, by simp [h1, h2], by simp [look, h3]⟩
  rintro J hJ m vs H b ⟨i, hm, hall, rfl, rfl⟩
  by_cases hi : i < p.targets.length
  · have hw := wrap_succ (i := i) (by omega)
    have hi2 : i < q.targets.length := by omega
    have l1 := fun H => int_load hi (H := H)
    have l2 := fun H => int_load hi2 (H := H)
    by_cases hq : p.targets[i] = q.targets[i]
    · simp [lp110_0, hi, idxSl_roL hi, idxSl_roL hi2, l1, l2, hq, hw, -load_tp]
      exact nxt hJ (m - 1) (by omega) ⟨i + 1, by omega, fun j hj hj2 hji => by
        rcases Nat.lt_or_ge j i with q' | q'
        · exact hall j hj hj2 q'
        · obtain rfl : j = i := by omega
          exact hq, rfl, rfl⟩
    · have e : ¬ cmpI p.targets[i] q.targets[i] = 0 := fun e => hq (cmpI_zero.1 e)
      have h4 : ¬ p.targets = q.targets := fun e => hq (by congr)
      simp [lp110_0, hi, idxSl_roL hi, idxSl_roL hi2, l1, l2, hq, planSame, e, h4, -load_tp]
  · have h4 : p.targets = q.targets := List.ext_getElem h3 fun j a1 a2 => hall j a1 a2 (by omega)
    have hi3 : ¬ i < q.targets.length := by omega
    simp [lp110_0, hi, planSame, h1, h2, h4, hi3]
theorem c77 (r s : Ring) (hl : r.plan.targets.length < 4611686018427387904) : Pu envE 77 [.agg (ringC r), .agg (ringC s)] (.bool (ringSame r s)) := by
  obtain ⟨n, h1, h2⟩ := c110 r.plan s.plan hl
  have e : (n == 0) = planSame r.plan s.plan := by
    rw [Bool.eq_iff_iff, beq_iff_eq]
    exact h2
  refine pu_is e77 rfl ?_
  rw [fr_init (by simp [fd77])]
  by_cases h3 : vecEq r.status s.status = true
  · by_cases h4 : prtEq r.epoch r.owner s.epoch s.owner = true
    · simp [fd77, b77, h3, h4, wPu_eq h1, e, ringSame]
    · simp [fd77, b77, h3, h4, ringSame]
  · simp [fd77, b77, h3, ringSame]
@[simp] theorem k77 {s1 e1 o1 s2 e2 o2 : Nat → Int} {v1 b1 v2 b2 : Int} {t1 t2 : List Int} {H : Heap} {K : AV → Heap → Prop} (hl : t1.length < 4611686018427387904) : wPu envE 77 (some [.agg (ringV s1 v1 b1 (roL intC t1) e1 o1), .agg (ringV s2 v2 b2 (roL intC t2) e2 o2)]) H K = K (.bool (ringSame ⟨s1, ⟨v1, b1, t1⟩, e1, o1⟩ ⟨s2, ⟨v2, b2, t2⟩, e2, o2⟩)) H := (wPu_eq (c77 ⟨s1, ⟨v1, b1, t1⟩, e1, o1⟩ ⟨s2, ⟨v2, b2, t2⟩, e2, o2⟩ hl)).trans (by simp)
theorem c76 (k k' : Nat → Int) (l r : List Val) (hl : l.length < 4611686018427387904) : Pu envE 76 [.agg (bagV k (roL valC l)), .agg (bagV k' (roL valC r))] (.bool (bagSame k l k' r)) := by
  refine pu_is e76 rfl ?_
  rw [fr_init (by simp [fd76])]
  by_cases h1 : vecEq k k' = true
  case neg => simp [fd76, b76, h1, bagSame]
  by_cases h : l.length = r.length
  case neg =>
    have h' : ¬ (l.length : Int) = r.length := by omega
    have h2 : ¬ l = r := fun e => h (by rw [e])
    simp [fd76, b76, h1, h', h2, bagSame]
  simp [fd76, b76, h1, h]
  refine loop_go [2, 3, 22, 23] rfl (fun m vs H => ∃ i, m + i = l.length ∧ (∀ j (hj : j < l.length), j < i → l[j] = r[j]) ∧ H = [.cells false (bagV k (roL valC l)), .cells false (bagV k' (roL valC r))] ∧ vs = [.ptr (some (0, 0)), .ptr (some (1, 0)), I l.length, I i]) ?_ l.length ⟨0, rfl, by omega, rfl, by simp [look, h]⟩
  rintro J hJ m vs H b ⟨i, hm, hall, rfl, rfl⟩
  by_cases hi : i < l.length
  · have hw := wrap_succ (i := i) (by omega)
    have hi2 : i < r.length := by omega
    have l1 := fun H => valC_load hi (H := H)
    have l2 := fun H => valC_load hi2 (H := H)
    by_cases hq : l[i] = r[i]
    · simp [lp76_0, hi, hw, idxSl_roL hi, idxSl_roL hi2, l1, l2, hq, -load_tp]
      exact nxt hJ (m - 1) (by omega) ⟨i + 1, by omega, fun j hj hji => by
        rcases Nat.lt_or_ge j i with q | q
        · exact hall j hj q
        · obtain rfl : j = i := by omega
          exact hq, rfl, rfl⟩
    · have h3 : ¬ l = r := fun e => hq (by subst e; rfl)
      simp [lp76_0, hi, hw, idxSl_roL hi, idxSl_roL hi2, l1, l2, hq, h3, bagSame, -load_tp]
  · have h3 : l = r := List.ext_getElem h fun j h1 h2 => hall j h1 (by omega)
    have hi3 : ¬ i < r.length := by omega
    simp [lp76_0, hi, h3, hi3, bagSame, h1]
@[simp] theorem k76 {k k' : Nat → Int} {l l' : List Val} {H : Heap} {K : AV → Heap → Prop} (hl : l.length < 4611686018427387904) : wPu envE 76 (some [.agg (bagV k (roL valC l)), .agg (bagV k' (roL valC l'))]) H K = K (.bool (bagSame k l k' l')) H := (wPu_eq (c76 k k' l l' hl)).trans (by simp)
theorem c30 (a b : Deed) (hl : a.bag.vals.length < 4611686018427387904) (hl2 : a.ring.plan.targets.length < 4611686018427387904) : Pu envE 30 [.agg (deedC a), .agg (deedC b)] (.bool (deedSame a b)) := by
  refine pu_is e30 rfl ?_
  rw [fr_init (by simp [fd30])]
  by_cases h1 : a.kind = b.kind
  case neg => simp [fd30, b30, h1, deedSame]
  by_cases h2 : a.n = b.n
  case neg => simp [fd30, b30, h1, h2, deedSame]
  by_cases h3 : a.key = b.key
  case neg => simp [fd30, b30, h1, h2, h3, deedSame]
  by_cases h4 : a.part = b.part
  case neg => simp [fd30, b30, h1, h2, h3, h4, deedSame]
  have h5 : bagSame a.bag.known a.bag.vals b.bag.known b.bag.vals = bagSameB a.bag b.bag := rfl
  by_cases h6 : bagSameB a.bag b.bag = true
  · simp [fd30, b30, h1, h2, h3, h4, hl, hl2, h5, h6, deedSame]
  · simp [fd30, b30, h1, h2, h3, h4, hl, hl2, h5, h6, deedSame]
/-- Two rows of deeds are the same. -/
def deedsSame : List Deed → List Deed → Bool
  | [], [] => true
  | a :: l, b :: r => deedSame a b && deedsSame l r
  | _, _ => false
theorem deedsSame_iff : ∀ {l r : List Deed}, deedsSame l r = true ↔ l.length = r.length ∧ ∀ i (h1 : i < l.length) (h2 : i < r.length), deedSame l[i] r[i] = true
  | [], [] => by simp [deedsSame]
  | [], b :: r => by simp [deedsSame]
  | a :: l, [] => by simp [deedsSame]
  | a :: l, b :: r => by
    simp only [deedsSame, Bool.and_eq_true, deedsSame_iff (l := l) (r := r), List.length_cons, Nat.add_right_cancel_iff]
    constructor
    · rintro ⟨h1, h2, h3⟩
      refine ⟨h2, fun i p q => ?_⟩
      cases i with
      | zero => exact h1
      | succ i => exact h3 i (by omega) (by omega)
    · rintro ⟨h1, h2⟩
      exact ⟨h2 0 (by omega) (by omega), h1, fun i p q => h2 (i + 1) (by omega) (by omega)⟩
theorem c40 (l r : List Deed) (hl : l.length < 4611686018427387904) (hb : ∀ d ∈ l, deedFits d) : Pu envE 40 [roL deedC l, roL deedC r] (.bool (deedsSame l r)) := by
  have hrb : reachBytes = 140737488351232 := rfl
  refine pu_is e40 rfl ?_
  rw [fr_init (by simp [fd40])]
  by_cases h : l.length = r.length
  case neg =>
    have h' : ¬ (l.length : Int) = r.length := by omega
    have h2 : deedsSame l r = false := by
      rw [Bool.eq_false_iff, Ne, deedsSame_iff]
      exact fun q => h q.1
    simp [fd40, b40, h', h2]
  simp [fd40, b40, h]
  refine loop_go [0, 1, 12, 13] rfl (fun m vs H => ∃ i, m + i = l.length ∧ (∀ j (hj : j < l.length) (hj2 : j < r.length), j < i → deedSame l[j] r[j] = true) ∧ vs = [roL deedC l, roL deedC r, I l.length, I i]) ?_ l.length ⟨0, rfl, by omega, by simp [look, h]⟩
  rintro J hJ m vs H b ⟨i, hm, hall, rfl⟩
  by_cases hi : i < l.length
  · have hw := wrap_succ (i := i) (by omega)
    have hi2 : i < r.length := by omega
    have l1 := load_roL deedC_len hi (H := H)
    have l2 := load_roL deedC_len hi2 (H := H)
    obtain ⟨f1, f2⟩ := hb l[i] (List.getElem_mem _)
    have hs : ∀ H K, wPu envE 30 (some [.agg (deedC l[i]), .agg (deedC r[i])]) H K = K (.bool (deedSame l[i] r[i])) H := fun H K => (wPu_eq (c30 l[i] r[i] (by omega) (by omega))).trans (by simp)
    have fz : ∀ d : Deed, mapO (frz H 11) (deedC d) = some (deedC d) := fun d => frz_deed (d := 10) d
    by_cases hq : deedSame l[i] r[i] = true
    · simp [-deedC_eq, lp40_0, hi, hw, idxSl_roL hi, idxSl_roL hi2, l1, l2, fz, hs, hq, -load_tp]
      exact nxt hJ (m - 1) (by omega) ⟨i + 1, by omega, fun j hj hj2 hji => by
        rcases Nat.lt_or_ge j i with q | q
        · exact hall j hj hj2 q
        · obtain rfl : j = i := by omega
          exact hq, rfl⟩
    · have h2 : deedsSame l r = false := by
        rw [Bool.eq_false_iff, Ne, deedsSame_iff]
        exact fun q => hq (q.2 i hi hi2)
      simp [-deedC_eq, lp40_0, hi, hw, idxSl_roL hi, idxSl_roL hi2, l1, l2, fz, hs, hq, h2, -load_tp]
  · have h2 : deedsSame l r = true := deedsSame_iff.2 ⟨h, fun j p q => hall j p q (by omega)⟩
    simp [lp40_0, hi, h2]
@[simp] theorem k40 {l r : List Deed} {H : Heap} {K : AV → Heap → Prop} (hl : l.length < 4611686018427387904) (hb : ∀ d ∈ l, deedFits d) : wPu envE 40 (some [roL deedC l, roL deedC r]) H K = K (.bool (deedsSame l r)) H := (wPu_eq (c40 l r hl hb)).trans (by simp)

/-! ## Guards -/
theorem c42 (l : List Ring) (hl : l.length < 4611686018427387904) : ∃ n, Pu envE 42 [roL ringC l] (I n) := by
  suffices h : ∃ d, Pu envE 42 [roL ringC l] d ∧ ∃ n, d = I n by
    obtain ⟨d, h1, n, rfl⟩ := h
    exact ⟨n, h1⟩
  refine pu_ex e42 rfl ?_
  rw [fr_init (by simp [fd42])]
  simp [fd42, b42]
  refine loop_go [5, 6, 7] rfl (fun m vs H => ∃ i, m + i = l.length ∧ vs = [roL ringC l, I l.length, I i]) ?_ l.length ⟨0, rfl, rfl⟩
  rintro J hJ m vs H b ⟨i, hm, rfl⟩
  by_cases hi : i < l.length
  · have hw := wrap_succ (i := i) (by omega)
    have hld := load_roL ringC_len hi (H := H)
    have hover : ∀ q : List AV, q.length = 43 → setFrom q 0 (ringC l[i]) = ringC l[i] := fun q hq => setFrom_all _ _ (by rw [hq, ringC_len])
    simp only [ringC_eq] at hover
    by_cases hn : (100 : Int) < l[i].plan.targets.length
    · simp [lp42_0, hi, idxSl_roL hi, hld, hn, hover, -load_tp]
    · simp [lp42_0, hi, idxSl_roL hi, hld, hn, hw, hover, -load_tp]
      exact nxt hJ (m - 1) (by omega) ⟨i + 1, by omega, rfl⟩
  · simp [lp42_0, hi]
theorem heavy42 (r : Ring) : ∃ n, Pu envE 42 [.ro 1 (ringC r)] (I n) := by
  have := c42 [r] (by simp)
  simpa [roL] using this
theorem c68 (l : List Deed) (hl : l.length < 4611686018427387904) (hb : ∀ d ∈ l, deedFits d) : ∃ n, Pu envE 68 [roL deedC l] (I n) := by
  have hrb : reachBytes = 140737488351232 := rfl
  suffices h : ∃ d, Pu envE 68 [roL deedC l] d ∧ ∃ n, d = I n by
    obtain ⟨d, h1, n, rfl⟩ := h
    exact ⟨n, h1⟩
  refine pu_ex e68 rfl ?_
  rw [fr_init (by simp [fd68])]
  simp [fd68, b68]
  refine loop_go [5, 6, 7] rfl (fun m vs H => ∃ i, m + i = l.length ∧ vs = [roL deedC l, I l.length, I i]) ?_ l.length ⟨0, rfl, rfl⟩
  rintro J hJ m vs H b ⟨i, hm, rfl⟩
  by_cases hi : i < l.length
  · have hw := wrap_succ (i := i) (by omega)
    have hld := load_roL deedC_len hi (H := H)
    obtain ⟨f1, f2⟩ := hb l[i] (List.getElem_mem _)
    obtain ⟨x, hx⟩ := heavy15 l[i].bag.known l[i].bag.vals (by omega)
    obtain ⟨y, hy⟩ := heavy42 l[i].ring
    simp only [ringC_eq] at hy
    by_cases h80 : (80 : Int) ≤ i
    · simp [lp68_0, hi, idxSl_roL hi, hld, h80, -load_tp]
    · by_cases h200 : (200 : Int) < l[i].key.length
      · simp [lp68_0, hi, idxSl_roL hi, hld, h80, h200, -load_tp]
      · by_cases hxy : 0 < IntKind.i64.wrap (x + y)
        · simp [lp68_0, hi, idxSl_roL hi, hld, h80, h200, frz_sl, wPu_eq hx, wPu_eq hy, hxy, -load_tp]
        · simp [lp68_0, hi, idxSl_roL hi, hld, h80, h200, frz_sl, wPu_eq hx, wPu_eq hy, hxy, hw, -load_tp]
          exact nxt hJ (m - 1) (by omega) ⟨i + 1, by omega, rfl⟩
  · simp [lp68_0, hi]
end Go.Proofs.YtkmikfhfjjmobaaA

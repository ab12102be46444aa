/- What the search for a dot answers. No statement about the program is proved here. -/
import Derived.Test.YtflgfiieaoeknaaGreatC1
namespace Go.Proofs.YtflgfiieaoeknaaGreatA
open Go
set_option linter.unusedSimpArgs false
set_option maxRecDepth 1000000

theorem cmpI_neg {a b : Int} : cmpI a b < 0 ↔ a < b := by unfold cmpI; split <;> (try split) <;> omega
theorem cmpI_zero {a b : Int} : cmpI a b = 0 ↔ a = b := by unfold cmpI; split <;> (try split) <;> omega
theorem dot_neg {a b c d : Int} : dotCmp a b c d < 0 ↔ a < c ∨ a = c ∧ b < d := by
  unfold dotCmp
  have h1 := cmpI_neg (a := a) (b := c)
  have h2 := cmpI_zero (a := a) (b := c)
  have h3 := cmpI_neg (a := b) (b := d)
  split <;> omega
theorem dot_zero {a b c d : Int} : dotCmp a b c d = 0 ↔ a = c ∧ b = d := by
  unfold dotCmp
  have h1 := cmpI_neg (a := a) (b := c)
  have h2 := cmpI_zero (a := a) (b := c)
  have h3 := cmpI_zero (a := b) (b := d)
  split <;> omega
theorem dlt_iff {u v : Val} : dlt u v = true ↔ u.node < v.node ∨ u.node = v.node ∧ u.n < v.n := by simp only [dlt, decide_eq_true_eq, dot_neg]
theorem dlt_trans {u v w : Val} (h : dlt u v = true) (k : dlt v w = true) : dlt u w = true := by
  rw [dlt_iff] at *
  omega
def Asc (l : List Val) : Prop := l.Pairwise fun u v => dlt u v = true
theorem asc_of {l : List Val} {k : Nat → Int} (h : goodL l k = true) : Asc l := by
  have h := of_decide_eq_true h
  unfold Asc
  rw [List.pairwise_iff_getElem]
  intro i j hi hj hij
  induction j with
  | zero => omega
  | succ j ih =>
    have h1 := (h ⟨j + 1, hj⟩).2 (by simp)
    rcases Nat.lt_or_ge i j with q | q
    · exact dlt_trans (ih (by omega) q) h1
    · obtain rfl : i = j := by omega
      exact h1
theorem may_asc {k : Nat → Int} {l : List Val} (h : bagMay k l = true) : Asc l := by
  simp only [bagMay, Bool.and_eq_true] at h
  exact asc_of h.2.2
theorem may_len {k : Nat → Int} {l : List Val} (h : bagMay k l = true) : l.length ≤ 32 := by
  simp only [bagMay, Bool.and_eq_true, decide_eq_true_eq] at h
  exact h.2.1

def below (a c : Int) (v : Val) : Bool := decide (dotCmp v.node v.n a c < 0)
def pos (l : List Val) (a c : Int) : Nat := (l.takeWhile (below a c)).length
def isAt (l : List Val) (a c : Int) : Bool := l.any fun v => decide (v.node = a ∧ v.n = c)
theorem pos_eq : ∀ {l : List Val} {a c : Int} {i : Nat}, i ≤ l.length → (∀ j (hj : j < l.length), j < i → below a c l[j] = true) → (∀ (hi : i < l.length), below a c l[i] = false) → pos l a c = i
  | [], a, c, i, h, _, _ => by simp at h; subst h; rfl
  | v :: l, a, c, 0, h, _, h2 => by
    have := h2 (by simp)
    simp only [List.getElem_cons_zero] at this
    simp [pos, List.takeWhile_cons, this]
  | v :: l, a, c, i + 1, h, h1, h2 => by
    have h3 := h1 0 (by simp) (by omega)
    simp only [List.getElem_cons_zero] at h3
    have ih := pos_eq (l := l) (a := a) (c := c) (i := i) (by simpa using h) (fun j hj hji => h1 (j + 1) (by simpa using hj) (by omega)) (fun hi => h2 (by simpa using hi))
    simp only [pos] at ih
    simp [pos, List.takeWhile_cons, h3, ih]
theorem isAt_eq {l : List Val} {a c : Int} {i : Nat} (hs : Asc l) (hi : i < l.length) (h1 : ∀ j (hj : j < l.length), j < i → below a c l[j] = true) (h2 : below a c l[i] = false) : isAt l a c = decide (dotCmp l[i].node l[i].n a c = 0) := by
  unfold Asc at hs
  rw [List.pairwise_iff_getElem] at hs
  rw [Bool.eq_iff_iff]
  simp only [isAt, List.any_eq_true, decide_eq_true_eq, dot_zero]
  constructor
  · rintro ⟨v, hv, q1, q2⟩
    obtain ⟨j, hj, rfl⟩ := List.mem_iff_getElem.1 hv
    rcases Nat.lt_trichotomy j i with q | q | q
    · have := h1 j hj q
      simp only [below, decide_eq_true_eq, dot_neg] at this
      omega
    · subst q; exact ⟨q1, q2⟩
    · have := hs i j hi hj q
      rw [dlt_iff] at this
      simp only [below, decide_eq_false_iff_not, dot_neg] at h2
      omega
  · exact fun q => ⟨l[i], List.getElem_mem _, q⟩
theorem isAt_end {l : List Val} {a c : Int} (h1 : ∀ j (hj : j < l.length), below a c l[j] = true) : isAt l a c = false := by
  rw [Bool.eq_false_iff]
  simp only [isAt, Ne, List.any_eq_true, decide_eq_true_eq]
  rintro ⟨v, hv, q1, q2⟩
  obtain ⟨j, hj, rfl⟩ := List.mem_iff_getElem.1 hv
  have := h1 j hj
  simp only [below, decide_eq_true_eq, dot_neg] at this
  omega

theorem c139 (v : Val) (a c : Int) (lim : Nat) (H : Heap) : Cl envE 139 [.agg (valC v), .agg [I a, I c]] lim H (I (dotCmp v.node v.n a c)) (H ++ [.cells false (valC v), .cells false [I a, I c]]) := by
  refine cl_is e139 rfl ?_
  rw [fr_init (by simp [fd139])]
  simp [fd139, b139]
@[simp] theorem k139 {v : Val} {a c : Int} {lim : Nat} {H : Heap} {K : AV → Heap → Prop} : WCl envE 139 [.agg (valC v), .agg [I a, I c]] lim H K = K (I (dotCmp v.node v.n a c)) (H ++ [.cells false (valC v), .cells false [I a, I c]]) := WCl_eq (c139 v a c lim H)

theorem c138 (l : List Val) (a c : Int) (hs : Asc l) (hl : l.length < 4611686018427387904) (lim : Nat) (H : Heap) (hlim : lim ≤ H.length) : WCl envE 138 [roL valC l, .agg [I a, I c], .fn (.func 139) [] []] lim H fun r H' => r = .tup [I (pos l a c), .bool (isAt l a c)] ∧ ∃ X, H' = H ++ X := by
  refine cl_of e138 rfl ?_
  rw [fr_init (by simp [fd138])]
  simp [fd138, b138]
  refine loop_go [0, 2, 4, 8, 9, 10] rfl (fun m vs H' => ∃ (i j : Nat) (X : Heap), i + m = j ∧ j ≤ l.length ∧ (∀ t (ht : t < l.length), t < i → below a c l[t] = true) ∧ (∀ t (ht : t < l.length), j ≤ t → below a c l[t] = false) ∧ H' = H ++ .cells false [I a, I c] :: X ∧ vs = [roL valC l, .fn (.func 139) [] [], .ptr (some (H.length, 0)), I l.length, I i, I j]) ?_ l.length ⟨0, l.length, [], by omega, by omega, by omega, by omega, rfl, rfl⟩
  rintro J hJ m vs H' b ⟨i, j, X, hm, hj, h1, h2, rfl, rfl⟩
  by_cases hij : i < j
  · obtain ⟨s, hs1⟩ : ∃ s, s = i + j := ⟨_, rfl⟩
    obtain ⟨h, hh⟩ : ∃ h, h = s / 2 := ⟨_, rfl⟩
    have hw1 : IntKind.i64.wrap ((i : Int) + j) = (s : Int) := by rw [wrap_i64] <;> omega
    have hw2 : IntKind.u64.wrap (s : Int) = (s : Int) := by simp [IntKind.wrap, IntKind.signed, IntKind.bits]; omega
    have hw3 : (s : Int).fdiv (2 ^ min 1 IntKind.u64.bits) = (h : Int) := by
      have e : (2 : Int) ^ min 1 IntKind.u64.bits = 2 := rfl
      rw [e, Int.fdiv_eq_ediv_of_nonneg _ (by omega)]; omega
    have hw4 : IntKind.i64.wrap (h : Int) = (h : Int) := by rw [wrap_i64] <;> omega
    have hw5 := wrap_succ (i := h) (by omega)
    have hi : h < l.length := by omega
    have hld := valC_load hi (H := H ++ .cells false [I a, I c] :: X)
    have asc := hs
    unfold Asc at asc
    rw [List.pairwise_iff_getElem] at asc
    have hlim2 : lim ≤ H.length + (X.length + 1) := by omega
    by_cases hb : dotCmp l[h].node l[h].n a c < 0
    · simp [lp138_0, hij, hw1, hw2, hw3, hw4, hw5, idxSl_roL hi, hld, hb, hlim2, -load_tp]
      exact nxt hJ (j - (h + 1)) (by omega) ⟨h + 1, j, X ++ [.cells false (valC l[h]), .cells false [I a, I c]], by omega, hj, fun t ht hti => by
        rcases Nat.lt_or_ge t h with q | q
        · have := asc t h ht hi q
          rw [dlt_iff] at this
          rw [dot_neg] at hb
          simp only [below, decide_eq_true_eq, dot_neg]
          omega
        · obtain rfl : t = h := by omega
          simpa [below] using hb, h2, by simp, rfl⟩
    · simp [lp138_0, hij, hw1, hw2, hw3, hw4, hw5, idxSl_roL hi, hld, hb, hlim2, -load_tp]
      exact nxt hJ (h - i) (by omega) ⟨i, h, X ++ [.cells false (valC l[h]), .cells false [I a, I c]], by omega, by omega, h1, fun t ht hti => by
        rcases Nat.lt_or_ge h t with q | q
        · have := asc h t hi ht q
          rw [dlt_iff] at this
          rw [dot_neg] at hb
          simp only [below, decide_eq_false_iff_not, dot_neg]
          omega
        · obtain rfl : t = h := by omega
          simpa [below] using hb, by simp, rfl⟩
  · obtain rfl : i = j := by omega
    have hlim2 : lim ≤ H.length + (X.length + 1) := by omega
    have hp : pos l a c = i := pos_eq hj h1 fun hi => h2 i hi (Nat.le_refl i)
    by_cases hi : i < l.length
    · have hld := valC_load hi (H := H ++ .cells false [I a, I c] :: X)
      have hat := isAt_eq hs hi h1 (h2 i hi (Nat.le_refl _))
      have e : (dotCmp l[i].node l[i].n a c == 0) = isAt l a c := by rw [hat]; rfl
      simp [lp138_0, hi, idxSl_roL hi, hld, hlim2, hp, e, -load_tp]
    · have hat : isAt l a c = false := isAt_end fun t ht => h1 t ht (by omega)
      simp [lp138_0, hi, hlim2, hp, hat]
theorem c111 (l : List Val) (a c : Int) (hs : Asc l) (hl : l.length < 4611686018427387904) : Pu envE 111 [roL valC l, .agg [I a, I c]] (.tup [I (pos l a c), .bool (isAt l a c)]) := by
  refine pu_is e111 rfl ?_
  rw [fr_init (by simp [fd111])]
  simp [fd111, b111]
  refine WCl.mono (c138 l a c hs hl _ _ (by simp)) ?_
  rintro _ _ ⟨rfl, X, rfl⟩
  simp
@[simp] theorem k111 {l : List Val} {a c : Int} {H : Heap} {K : AV → Heap → Prop} (hs : Asc l) (hl : l.length < 4611686018427387904) : wPu envE 111 (some [roL valC l, .agg [I a, I c]]) H K = K (.tup [I (pos l a c), .bool (isAt l a c)]) H := (wPu_eq (c111 l a c hs hl)).trans (by simp)
end Go.Proofs.YtflgfiieaoeknaaGreatA

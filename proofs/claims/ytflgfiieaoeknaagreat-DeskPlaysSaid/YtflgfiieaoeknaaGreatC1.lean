/- What May and Same of bags answer. No statement about the program is proved here. -/
import Derived.Test.YtflgfiieaoeknaaGreatC0
namespace Go.Proofs.YtflgfiieaoeknaaGreatA
open Go
set_option linter.unusedSimpArgs false
set_option maxRecDepth 1000000

def valMay (v : Val) (k : Nat → Int) : Bool := has k v.node v.n && decide (v.data.length ≤ 64)
def dlt (u v : Val) : Bool := decide (dotCmp u.node u.n v.node v.n < 0)
def goodL (l : List Val) (k : Nat → Int) : Bool := decide (∀ i : Fin l.length, valMay l[i] k = true ∧ (0 < i.1 → dlt (l[i.1 - 1]'(by omega)) l[i] = true))
def bagMay (k : Nat → Int) (l : List Val) : Bool := vecMay k && (decide (l.length ≤ 32) && goodL l k)
def bagSame (k : Nat → Int) (l : List Val) (k' : Nat → Int) (l' : List Val) : Bool := vecEq k k' && decide (l = l')

theorem valC_load {l : List Val} {i : Nat} (hi : i < l.length) {H : Heap} : loadAt H (some 3) (.tp ((l.flatMap valC).drop (i * 3))) = some (.agg (valC l[i])) := load_roL valC_len hi
theorem wrap_pred {i : Nat} (h : i < 4611686018427387904) (h0 : 0 < i) : IntKind.i64.wrap ((i : Int) - 1) = ((i - 1 : Nat) : Int) := by
  rw [wrap_i64] <;> omega

theorem c107 (v : Val) (k : Nat → Int) : Pu envE 107 [.agg (valC v), .agg (vecC k)] (.bool (valMay v k)) := by
  refine pu_is e107 rfl ?_
  rw [fr_init (by simp [fd107])]
  cases h : has k v.node v.n
  · simp [fd107, b107, h, valMay]
  · have e : decide ((v.data.length : Int) ≤ 64) = decide (v.data.length ≤ 64) := decide_eq_decide.2 (by omega)
    simp [fd107, b107, h, valMay, e]
@[simp] theorem k107 {v : Val} {k : Nat → Int} {H : Heap} {K : AV → Heap → Prop} : wPu envE 107 (some [.agg (valC v), .agg (vecC k)]) H K = K (.bool (valMay v k)) H := (wPu_eq (c107 v k)).trans (by simp)

theorem c67 (k : Nat → Int) (l : List Val) (hl : l.length < 4611686018427387904) : Pu envE 67 [.agg (bagV k (roL valC l))] (.bool (bagMay k l)) := by
  refine pu_is e67 rfl ?_
  rw [fr_init (by simp [fd67])]
  by_cases hv : vecMay k = true
  case neg => simp [fd67, b67, hv, bagMay]
  by_cases h32 : (32 : Int) < l.length
  case pos =>
    have : ¬ l.length ≤ 32 := by omega
    simp [fd67, b67, hv, h32, bagMay, this]
  have h32' : l.length ≤ 32 := by omega
  simp [fd67, b67, hv, h32]
  refine loop_go [1, 16, 17, 18] rfl (fun m vs H => ∃ i X, m + i = l.length ∧ (∀ j (hj : j < l.length), j < i → valMay l[j] k = true ∧ (0 < j → dlt (l[j - 1]'(by omega)) l[j] = true)) ∧ H = .cells false (bagV k (roL valC l)) :: X ∧ vs = [.ptr (some (0, 0)), roL valC l, I l.length, I i]) ?_ l.length ⟨0, [], rfl, by omega, rfl, rfl⟩
  rintro J hJ m vs H b ⟨i, X, hm, hall, rfl, rfl⟩
  by_cases hi : i < l.length
  · have hw := wrap_succ (i := i) (by omega)
    have hld := valC_load hi (H := .cells false (bagV k (roL valC l)) :: X)
    have bad : ¬ (valMay l[i] k = true ∧ (0 < i → dlt (l[i - 1]'(by omega)) l[i] = true)) → bagMay k l = false := fun q => by
      have : goodL l k = false := decide_eq_false fun hg => q (hg ⟨i, hi⟩)
      simp [bagMay, this]
    have next : (valMay l[i] k = true ∧ (0 < i → dlt (l[i - 1]'(by omega)) l[i] = true)) → ∀ j (hj : j < l.length), j < i + 1 → valMay l[j] k = true ∧ (0 < j → dlt (l[j - 1]'(by omega)) l[j] = true) := fun q j hj hji => by
      rcases Nat.lt_or_ge j i with q1 | q1
      · exact hall j hj q1
      · obtain rfl : j = i := by omega
        exact q
    by_cases hm1 : valMay l[i] k = true
    · by_cases hi0 : 0 < i
      · have hw2 := wrap_pred (i := i) (by omega) hi0
        have hi1 : i - 1 < l.length := by omega
        have hcut : cut ((l.flatMap valC).drop ((i - 1) * 3)) 0 2 = some [I (l[i - 1]).node, I (l[i - 1]).n] := by
          rw [flat_cut valC_len hi1 (by omega)]
          rfl
        have hld2 : loadAt (.cells false (bagV k (roL valC l)) :: (X ++ [.cells false (valC l[i])])) (some 2) (.tp ((l.flatMap valC).drop ((i - 1) * 3))) = some (.agg [I (l[i - 1]).node, I (l[i - 1]).n]) := by
          simp only [load_tp, Option.getD_some, hcut, Option.bind_some, shape_some]
        by_cases hd : dlt l[i - 1] l[i] = true
        · have hd' : ¬ 0 ≤ dotCmp l[i - 1].node l[i - 1].n l[i].node l[i].n := by simpa [dlt] using hd
          simp [lp67_0, hi, hw, hw2, idxSl_roL hi, idxSl_roL hi1, hld, hld2, hm1, hi0, hd', -load_tp]
          exact nxt hJ (m - 1) (by omega) ⟨i + 1, X ++ [.cells false (valC l[i])], by omega, next ⟨hm1, fun _ => hd⟩, rfl, rfl⟩
        · have hd' : 0 ≤ dotCmp l[i - 1].node l[i - 1].n l[i].node l[i].n := by simpa [dlt] using hd
          have hb := bad fun q => hd (q.2 hi0)
          simp [lp67_0, hi, hw, hw2, idxSl_roL hi, idxSl_roL hi1, hld, hld2, hm1, hi0, hd', hb, -load_tp]
      · simp [lp67_0, hi, hw, idxSl_roL hi, hld, hm1, hi0, -load_tp]
        exact nxt hJ (m - 1) (by omega) ⟨i + 1, X ++ [.cells false (valC l[i])], by omega, next ⟨hm1, fun q => absurd q hi0⟩, rfl, rfl⟩
    · have hb := bad fun q => hm1 q.1
      simp [lp67_0, hi, hw, idxSl_roL hi, hld, hm1, hb, -load_tp]
  · have e : bagMay k l = true := by
      have : goodL l k = true := decide_eq_true fun j => hall j.1 j.2 (by omega)
      simp [bagMay, this, hv, h32']
    simp [lp67_0, hi, e]
@[simp] theorem k67 {k : Nat → Int} {l : List Val} {H : Heap} {K : AV → Heap → Prop} (hl : l.length < 4611686018427387904) : wPu envE 67 (some [.agg (bagV k (roL valC l))]) H K = K (.bool (bagMay k l)) H := (wPu_eq (c67 k l hl)).trans (by simp)

theorem c57 (l r : List Val) (hl : l.length < 4611686018427387904) : Pu envE 57 [roL valC l, roL valC r] (.bool (decide (l = r))) := by
  refine pu_is e57 rfl ?_
  rw [fr_init (by simp [fd57])]
  by_cases h : l.length = r.length
  case neg =>
    have h' : ¬ (l.length : Int) = r.length := by omega
    have h2 : ¬ l = r := fun e => h (by rw [e])
    simp [fd57, b57, h', h2]
  simp [fd57, b57, h]
  refine loop_go [0, 1, 12, 13] rfl (fun m vs H => ∃ i, m + i = l.length ∧ (∀ j (hj : j < l.length), j < i → l[j] = r[j]) ∧ vs = [roL valC l, roL valC r, I l.length, I i]) ?_ l.length ⟨0, rfl, by omega, by simp [h, look]⟩
  rintro J hJ m vs H b ⟨i, hm, hall, rfl⟩
  by_cases hi : i < l.length
  · have hw := wrap_succ (i := i) (by omega)
    have hi2 : i < r.length := by omega
    have h1 := valC_load hi (H := H)
    have h2 := valC_load hi2 (H := H)
    by_cases hq : l[i] = r[i]
    · simp [lp57_0, hi, hw, idxSl_roL hi, idxSl_roL hi2, h1, h2, hq, -load_tp]
      exact nxt hJ (m - 1) (by omega) ⟨i + 1, by omega, fun j hj hji => by
        rcases Nat.lt_or_ge j i with q | q
        · exact hall j hj q
        · obtain rfl : j = i := by omega
          exact hq, rfl⟩
    · have h3 : ¬ l = r := fun e => hq (by subst e; rfl)
      simp [lp57_0, hi, hw, idxSl_roL hi, idxSl_roL hi2, h1, h2, hq, h3, -load_tp]
  · have h3 : l = r := List.ext_getElem h fun j h1 h2 => hall j h1 (by omega)
    simp [lp57_0, hi, h3]
    simp [← h3, hi]
@[simp] theorem k57 {l r : List Val} {H : Heap} {K : AV → Heap → Prop} (hl : l.length < 4611686018427387904) : wPu envE 57 (some [roL valC l, roL valC r]) H K = K (.bool (decide (l = r))) H := (wPu_eq (c57 l r hl)).trans (by simp)

theorem c15 (k k' : Nat → Int) (l l' : List Val) (hl : l.length < 4611686018427387904) : Pu envE 15 [.agg (bagV k (roL valC l)), .agg (bagV k' (roL valC l'))] (.bool (bagSame k l k' l')) := by
  refine pu_is e15 rfl ?_
  rw [fr_init (by simp [fd15])]
  cases h : vecEq k k' <;> simp [fd15, b15, h, hl, bagSame]
@[simp] theorem k15 {k k' : Nat → Int} {l l' : List Val} {H : Heap} {K : AV → Heap → Prop} (hl : l.length < 4611686018427387904) : wPu envE 15 (some [.agg (bagV k (roL valC l)), .agg (bagV k' (roL valC l'))]) H K = K (.bool (bagSame k l k' l')) H := (wPu_eq (c15 k k' l l' hl)).trans (by simp)
end Go.Proofs.YtflgfiieaoeknaaGreatA

/- A frame as what was written last. No statement about the program is proved here. -/
import Derived.Test.YtdbgebbofpgjmaaGreatA24
namespace Go.Proofs.YtdbgebbofpgjmaaGreatA
open Go Go.RowKit
set_option linter.unusedVariables false

def look : List (Nat × AV) → Nat → Option AV
  | [], _ => none
  | p :: r, t => if t = p.1 then some p.2 else look r t
def fr (n : Nat) (b : Nat → AV) (l : List (Nat × AV)) : Tmps := (List.range n).map fun i => (look l i).getD (b i)
theorem fr_get {n t : Nat} {b : Nat → AV} {l : List (Nat × AV)} (h : t < n) : (fr n b l)[t]? = some ((look l t).getD (b t)) := by
  unfold fr
  rw [List.getElem?_map, List.getElem?_range h]
  rfl
theorem fr_getD {n t : Nat} {b : Nat → AV} {l : List (Nat × AV)} (h : t < n) : (fr n b l).getD t .undef = (look l t).getD (b t) := by
  rw [List.getD_eq_getElem?_getD, fr_get h]
  rfl
theorem fr_len {n : Nat} {b : Nat → AV} {l : List (Nat × AV)} : (fr n b l).length = n := by simp [fr]
theorem fr_set {n d : Nat} {v : AV} {b : Nat → AV} {l : List (Nat × AV)} : (fr n b l).set d v = fr n b ((d, v) :: l) := by
  apply List.ext_getElem?
  intro i
  rcases Nat.lt_or_ge i n with q | q
  · rw [fr_get q, List.getElem?_set]
    by_cases e : d = i
    · subst e; simp [fr_len, q, look]
    · rw [if_neg e, fr_get q]; simp [look, Ne.symm e]
  · rw [List.getElem?_eq_none (by simp [fr_len]; omega), List.getElem?_eq_none (by simp [fr_len]; omega)]
theorem fr_put {n d : Nat} {v : AV} {b : Nat → AV} {l : List (Nat × AV)} : putT (fr n b l) (some d) v = fr n b ((d, v) :: l) := fr_set
def enumA : Nat → List AV → List (Nat × AV)
  | _, [] => []
  | i, a :: as => (i, a) :: enumA (i + 1) as
theorem look_enum : ∀ (as : List AV) (k t : Nat), look (enumA k as) t = if k ≤ t then as[t - k]? else none
  | [], k, t => by simp [enumA, look]
  | a :: as, k, t => by
    simp only [enumA, look]
    by_cases e : t = k
    · subst e; simp
    · rw [if_neg e, look_enum as (k + 1) t]
      by_cases h : k ≤ t
      · rw [if_pos h, if_pos (by omega), show t - k = t - (k + 1) + 1 from by omega, List.getElem?_cons_succ]
      · rw [if_neg h, if_neg (by omega)]
theorem fr_init {as : List AV} {n : Nat} (h : as.length ≤ n) : as ++ List.replicate (n - as.length) .noval = fr n (fun _ => .noval) (enumA 0 as) := by
  apply List.ext_getElem?
  intro i
  rcases Nat.lt_or_ge i n with q | q
  · rw [fr_get q, look_enum, if_pos (Nat.zero_le _), Nat.sub_zero]
    rcases Nat.lt_or_ge i as.length with q2 | q2
    · rw [List.getElem?_append_left q2, List.getElem?_eq_getElem q2]; rfl
    · rw [List.getElem?_append_right q2, List.getElem?_replicate, if_pos (by omega), List.getElem?_eq_none q2]; rfl
  · rw [List.getElem?_eq_none (by simp; omega), List.getElem?_eq_none (by simp [fr_len]; omega)]
end Go.Proofs.YtdbgebbofpgjmaaGreatA

/- What the functions of clock answer. No statement about the program is proved here. -/
import Derived.Test.YtkmikfhfjjmobaaE1
namespace Go.Proofs.YtkmikfhfjjmobaaA
open Go
set_option linter.unusedSimpArgs false
set_option maxRecDepth 1000000

/-! ## In plain words -/
def vecMay (k : Nat → Int) : Bool := (List.range 8).all fun i => decide (0 ≤ k i) && decide (k i ≤ 1000000)
def joinV (a b : Nat → Int) : Nat → Int := fun i => max (a i) (b i)
def nodeOk (n : Int) : Bool := decide (0 ≤ n) && decide (n < 8)
def has (k : Nat → Int) (a b : Int) : Bool := nodeOk a && (decide (1 ≤ b) && decide (b ≤ k a.toNat))
def withV (k : Nat → Int) (a b : Int) : Nat → Int := if nodeOk a then upd k a.toNat (max (k a.toNat) b) else k
def belowV (a b : Nat → Int) : Bool := vecEq (joinV a b) b
def cmpI (a b : Int) : Int := if a < b then -1 else if b < a then 1 else 0
def dotCmp (a b c d : Int) : Int := if cmpI a c ≠ 0 then cmpI a c else cmpI b d

theorem nodeOk_iff {n : Int} : nodeOk n = true ↔ 0 ≤ n ∧ n < 8 := by simp [nodeOk]

/-! ## The walks -/
theorem c67 (n : Int) : Pu envE 67 [I n] (.bool (nodeOk n)) := by
  refine pu_is e67 rfl ?_
  rw [fr_init (by simp [fd67])]
  by_cases h : 0 ≤ n <;> simp [fd67, b67, h, nodeOk]
@[simp] theorem k67 {n : Int} {H : Heap} {K : AV → Heap → Prop} : wPu envE 67 (some [I n]) H K = K (.bool (nodeOk n)) H := (wPu_eq (c67 n)).trans (by simp)

theorem c19 (k : Nat → Int) : Pu envE 19 [.agg (vecC k)] (.bool (vecMay k)) := by
  refine pu_is e19 rfl ?_
  rw [fr_init (by simp [fd19])]
  simp [fd19, b19]
  refine loop_fr (n := 16) [5, 6] rfl (fun m vs H => ∃ i, m + i = 8 ∧ (∀ j, j < i → 0 ≤ k j ∧ k j ≤ 1000000) ∧ vs = [.agg (vecC k), I i]) ?_ ⟨8, [.agg (vecC k), I 0], ⟨0, rfl, by omega, rfl⟩, rfl, _, fr_pick [5, 6]⟩
  rintro m vs H b - ⟨i, hm, hall, rfl⟩
  by_cases hi : i < 8
  · have hw := wrap_succ (i := i) (by omega)
    have hi' : (i : Int) < 8 := by omega
    by_cases h1 : k i < 0
    · simp [lp19_0, hi, hi', h1, vecMay]
      exact ⟨i, hi, fun q => absurd h1 (by omega)⟩
    · by_cases h2 : 1000000 < k i
      · simp [lp19_0, hi, hi', h1, h2, vecMay]
        exact ⟨i, hi, fun q => h2⟩
      · simp [lp19_0, hi, hi', h1, h2, hw]
        exact ⟨m - 1, by omega, [.agg (vecC k), I (i + 1 : Nat)], ⟨i + 1, by omega, fun j hj => by
          rcases Nat.lt_or_ge j i with q | q
          · exact hall j q
          · obtain rfl : j = i := by omega
            omega, rfl⟩, rfl, _, fr_pick [5, 6]⟩
  · have hi' : ¬ (i : Int) < 8 := by omega
    simp [lp19_0, hi', vecMay]
    exact fun j hj => hall j (by omega)
@[simp] theorem k19 {k : Nat → Int} {H : Heap} {K : AV → Heap → Prop} : wPu envE 19 (some [.agg (vecC k)]) H K = K (.bool (vecMay k)) H := (wPu_eq (c19 k)).trans (by simp)

theorem c62 (a c : Nat → Int) : Pu envE 62 [.agg (vecC a), .agg (vecC c)] (.agg (vecC (joinV a c))) := by
  refine pu_is e62 rfl ?_
  rw [fr_init (by simp [fd62])]
  simp [fd62, b62]
  refine loop_fr (n := 21) [2, 4, 7, 8] rfl (fun m vs H => ∃ i, m + i = 8 ∧ H = [.cells false (vecC fun j => if j < i then max (a j) (c j) else a j), .cells false (vecC c), .cells false [I 0, I 0, I 0, I 0, I 0, I 0, I 0, I 0]] ∧ vs = [.ptr (some (0, 0)), .ptr (some (2, 0)), .agg (vecC c), I i]) ?_ ⟨8, [.ptr (some (0, 0)), .ptr (some (2, 0)), .agg (vecC c), I 0], ⟨0, rfl, by simp, rfl⟩, rfl, _, fr_pick [2, 4, 7, 8]⟩
  rintro m vs H b - ⟨i, hm, rfl, rfl⟩
  by_cases hi : i < 8
  · have hw := wrap_succ (i := i) (by omega)
    have hi' : (i : Int) < 8 := by omega
    have hi2 : i ≤ 7 := by omega
    simp [lp62_0, hi, hi', hi2, hw]
    refine ⟨m - 1, by omega, [.ptr (some (0, 0)), .ptr (some (2, 0)), .agg (vecC c), I (i + 1 : Nat)], ⟨i + 1, by omega, ?_, rfl⟩, rfl, _, fr_pick [2, 4, 7, 8]⟩
    refine vec_ext fun j hj => ?_
    simp only [upd]
    by_cases q : j = i
    · subst q; simp
    · by_cases q2 : j < i
      · simp [q, q2, Nat.lt_succ_of_lt q2]
      · have q3 : ¬ j < i + 1 := by omega
        simp [q, q2, q3]
  · have hi' : ¬ (i : Int) < 8 := by omega
    have e : vecC (fun j => if j < i then max (a j) (c j) else a j) = vecC (joinV a c) := vec_ext fun j hj => by
      have : j < i := by omega
      simp [this, joinV]
    simp [lp62_0, hi', e]
@[simp] theorem k62 {a c : Nat → Int} {H : Heap} {K : AV → Heap → Prop} : wPu envE 62 (some [.agg (vecC a), .agg (vecC c)]) H K = K (.agg (vecC (joinV a c))) H := (wPu_eq (c62 a c)).trans (by simp)

theorem c22 (a c : Nat → Int) : Pu envE 22 [.agg (vecC a), .agg (vecC c)] (.bool (belowV a c)) := by
  refine pu_is e22 rfl ?_
  rw [fr_init (by simp [fd22])]
  simp [fd22, b22, belowV]
@[simp] theorem k22 {a c : Nat → Int} {H : Heap} {K : AV → Heap → Prop} : wPu envE 22 (some [.agg (vecC a), .agg (vecC c)]) H K = K (.bool (belowV a c)) H := (wPu_eq (c22 a c)).trans (by simp)

theorem c21 (k : Nat → Int) (a c : Int) : Pu envE 21 [.agg (vecC k), .agg [I a, I c]] (.bool (has k a c)) := by
  refine pu_is e21 rfl ?_
  rw [fr_init (by simp [fd21])]
  by_cases h : nodeOk a = true
  · obtain ⟨h1, h2⟩ := nodeOk_iff.1 h
    have h3 : a.toNat < 8 := by omega
    by_cases h4 : 1 ≤ c
    · simp [fd21, b21, h, h1, h2, h3, h4, has]
    · simp [fd21, b21, h, h4, has]
  · simp [fd21, b21, h, has]
@[simp] theorem k21 {k : Nat → Int} {a c : Int} {H : Heap} {K : AV → Heap → Prop} : wPu envE 21 (some [.agg (vecC k), .agg [I a, I c]]) H K = K (.bool (has k a c)) H := (wPu_eq (c21 k a c)).trans (by simp)

theorem c61 (k : Nat → Int) (a c : Int) : Pu envE 61 [.agg (vecC k), .agg [I a, I c]] (.agg (vecC (withV k a c))) := by
  refine pu_is e61 rfl ?_
  rw [fr_init (by simp [fd61])]
  by_cases h : nodeOk a = true
  · obtain ⟨h1, h2⟩ := nodeOk_iff.1 h
    have h3 : a.toNat < 8 := by omega
    have h4 : a.toNat ≤ 7 := by omega
    simp [fd61, b61, h, h1, h2, h3, h4, withV]
  · simp [fd61, b61, h, withV]
@[simp] theorem k61 {k : Nat → Int} {a c : Int} {H : Heap} {K : AV → Heap → Prop} : wPu envE 61 (some [.agg (vecC k), .agg [I a, I c]]) H K = K (.agg (vecC (withV k a c))) H := (wPu_eq (c61 k a c)).trans (by simp)

theorem c125 (n : Int) : Pu envE 125 [I n] (.bool false) := by
  refine pu_is e125 rfl ?_
  rw [fr_init (by simp [fd125])]
  simp [fd125, b125]
@[simp] theorem k125 {n : Int} {H : Heap} {K : AV → Heap → Prop} : wPu envE 125 (some [I n]) H K = K (.bool false) H := (wPu_eq (c125 n)).trans (by simp)
theorem c102 (a c : Int) : Pu envE 102 [I a, I c] (I (cmpI a c)) := by
  refine pu_is e102 rfl ?_
  rw [fr_init (by simp [fd102])]
  by_cases h : a < c
  · simp [fd102, b102, h, cmpI]
  · by_cases h2 : c < a
    · simp [fd102, b102, h, h2, cmpI]
    · simp [fd102, b102, h, h2, cmpI]
@[simp] theorem k102 {a c : Int} {H : Heap} {K : AV → Heap → Prop} : wPu envE 102 (some [I a, I c]) H K = K (I (cmpI a c)) H := (wPu_eq (c102 a c)).trans (by simp)

/-- The first that isn't zero. -/
def orL : List Int → Int
  | [] => 0
  | a :: l => if a ≠ 0 then a else orL l
theorem int_flat : Flat intC := fun _ _ _ => hard rfl
theorem int_plain : Plain intC := fun _ _ _ => hard rfl
theorem int_still : Still intC := fun _ _ => by simp [intC]
theorem orL_skip : ∀ (l : List Int) (i : Nat), (∀ j (hj : j < l.length), j < i → l[j] = 0) → orL l = orL (l.drop i)
  | [], i, h => by simp
  | a :: l, 0, h => by simp
  | a :: l, i + 1, h => by
    have h0 : a = 0 := h 0 (by simp) (by omega)
    rw [List.drop_succ_cons, ← orL_skip l i (fun j hj hji => h (j + 1) (by simp; omega) (by omega))]
    simp [orL, h0]
theorem c101 (l : List Int) (hl : l.length < 4611686018427387904) : Pu envE 101 [roL intC l] (I (orL l)) := by
  refine pu_is e101 rfl ?_
  rw [fr_init (by simp [fd101])]
  simp [fd101, b101]
  refine loop_fr (n := 18) [3, 6, 7, 8] rfl (fun m vs H => ∃ i, m + i = l.length ∧ (∀ j (hj : j < l.length), j < i → l[j] = 0) ∧ vs = [I 0, roL intC l, I l.length, I i]) ?_ ⟨l.length, [I 0, roL intC l, I l.length, I 0], ⟨0, rfl, by omega, rfl⟩, rfl, _, fr_pick [3, 6, 7, 8]⟩
  rintro m vs H b - ⟨i, hm, hall, rfl⟩
  by_cases hi : i < l.length
  · have hw := wrap_succ (i := i) (by omega)
    have hload : loadAt H none (.tp ((l.flatMap intC).drop (i * 1))) = some (I l[i]) := load_roL1 (fun _ => rfl) hi
    rw [Nat.mul_one] at hload
    have ho : orL l = orL (l[i] :: l.drop (i + 1)) := by rw [orL_skip l i hall, List.drop_eq_getElem_cons hi]
    by_cases h0 : l[i] = 0
    · simp [lp101_0, hi, hw, idxSl_roL hi, hload, h0, -load_tp]
      exact ⟨m - 1, by omega, [I 0, roL intC l, I l.length, I (i + 1 : Nat)], ⟨i + 1, by omega, fun j hj hji => by
        rcases Nat.lt_or_ge j i with q | q
        · exact hall j hj q
        · obtain rfl : j = i := by omega
          exact h0, rfl⟩, rfl, _, fr_pick [3, 6, 7, 8]⟩
    · simp [lp101_0, hi, hw, idxSl_roL hi, hload, h0, -load_tp, ho, orL]
  · have e : orL l = 0 := by rw [orL_skip l i hall, List.drop_of_length_le (by omega)]; rfl
    simp [lp101_0, hi, e]
@[simp] theorem k101 {l : List Int} {H : Heap} {K : AV → Heap → Prop} (hl : l.length < 4611686018427387904) : wPu envE 101 (some [roL intC l]) H K = K (I (orL l)) H := (wPu_eq (c101 l hl)).trans (by simp)
@[simp] theorem ints2 {a c : Int} : AV.ro 2 [I a, I c] = roL intC [a, c] := hard rfl
@[simp] theorem ints4 {a c d e : Int} : AV.ro 4 [I a, I c, I d, I e] = roL intC [a, c, d, e] := hard rfl
theorem frz_sl {H : Heap} {d b n es : Nat} {cs : List AV} (h : H.cells? b = some cs) (hn : 0 < n) (hl : n * es = cs.length) : frz H (d + 1) (.sl b 0 n es) = (mapO (frz H d) cs).map (.ro n) := by
  unfold frz
  have e : n ≠ 0 := by omega
  simp only [e, if_false, h, Option.bind_some]
  rw [cut_all hl.symm]
  rfl
theorem c66 (a c a' c' : Int) : Pu envE 66 [.agg [I a, I c], .agg [I a', I c']] (I (dotCmp a c a' c')) := by
  refine pu_is e66 rfl ?_
  rw [fr_init (by simp [fd66])]
  have e : orL [cmpI a a', cmpI c c'] = dotCmp a c a' c' := by
    simp only [orL, dotCmp]
    split
    · rfl
    · split
      · rfl
      · rename_i h; simp at h; exact h.symm
  simp [fd66, b66, frz_sl, e]
@[simp] theorem k66 {a c a' c' : Int} {H : Heap} {K : AV → Heap → Prop} : wPu envE 66 (some [.agg [I a, I c], .agg [I a', I c']]) H K = K (I (dotCmp a c a' c')) H := (wPu_eq (c66 a c a' c')).trans (by simp)
end Go.Proofs.YtkmikfhfjjmobaaA

/- What the functions of clock answer. No statement about the program is proved here. -/
import Derived.Test.YtflgfiieaoeknaaGreatE1
namespace Go.Proofs.YtflgfiieaoeknaaGreatA
open Go
set_option linter.unusedSimpArgs false
set_option maxRecDepth 1000000

/-! ## In plain words -/
def vecMay (k : Nat → Int) : Bool := (List.range 8).all fun i => decide (0 ≤ k i) && decide (k i ≤ 1000000)
def joinV (a b : Nat → Int) : Nat → Int := fun i => max (a i) (b i)
def nodeOk (n : Int) : Bool := decide (0 ≤ n) && decide (n < 8)
def has (k : Nat → Int) (a b : Int) : Bool := nodeOk a && (decide (1 ≤ b) && decide (b ≤ k a.toNat))
def withV (k : Nat → Int) (a b : Int) : Nat → Int := if nodeOk a then upd k a.toNat (max (k a.toNat) b) else k
def belowV (a b : Nat → Int) : Bool := vecEq (joinV a b) b
def cmpI (a b : Int) : Int := if a < b then -1 else if b < a then 1 else 0
def dotCmp (a b c d : Int) : Int := if cmpI a c ≠ 0 then cmpI a c else cmpI b d

theorem nodeOk_iff {n : Int} : nodeOk n = true ↔ 0 ≤ n ∧ n < 8 := by simp [nodeOk]

/-! ## The walks -/
theorem c143 (n : Int) : Pu envE 143 [I n] (.bool (nodeOk n)) := by
  refine pu_is e143 rfl ?_
  rw [fr_init (by simp [fd143])]
  by_cases h : 0 ≤ n <;> simp [fd143, b143, h, nodeOk]
@[simp] theorem k143 {n : Int} {H : Heap} {K : AV → Heap → Prop} : wPu envE 143 (some [I n]) H K = K (.bool (nodeOk n)) H := (wPu_eq (c143 n)).trans (by simp)

theorem c106 (k : Nat → Int) : Pu envE 106 [.agg (vecC k)] (.bool (vecMay k)) := by
  refine pu_is e106 rfl ?_
  rw [fr_init (by simp [fd106])]
  simp [fd106, b106]
  refine loop_fr (n := 16) [5, 6] rfl (fun m vs H => ∃ i, m + i = 8 ∧ (∀ j, j < i → 0 ≤ k j ∧ k j ≤ 1000000) ∧ vs = [.agg (vecC k), I i]) ?_ ⟨8, [.agg (vecC k), I 0], ⟨0, rfl, by omega, rfl⟩, rfl, _, fr_pick [5, 6]⟩
  rintro m vs H b - ⟨i, hm, hall, rfl⟩
  by_cases hi : i < 8
  · have hw := wrap_succ (i := i) (by omega)
    have hi' : (i : Int) < 8 := by omega
    by_cases h1 : k i < 0
    · simp [lp106_0, hi, hi', h1, vecMay]
      exact ⟨i, hi, fun q => absurd h1 (by omega)⟩
    · by_cases h2 : 1000000 < k i
      · simp [lp106_0, hi, hi', h1, h2, vecMay]
        exact ⟨i, hi, fun q => h2⟩
      · simp [lp106_0, hi, hi', h1, h2, hw]
        exact ⟨m - 1, by omega, [.agg (vecC k), I (i + 1 : Nat)], ⟨i + 1, by omega, fun j hj => by
          rcases Nat.lt_or_ge j i with q | q
          · exact hall j q
          · obtain rfl : j = i := by omega
            omega, rfl⟩, rfl, _, fr_pick [5, 6]⟩
  · have hi' : ¬ (i : Int) < 8 := by omega
    simp [lp106_0, hi', vecMay]
    exact fun j hj => hall j (by omega)
@[simp] theorem k106 {k : Nat → Int} {H : Heap} {K : AV → Heap → Prop} : wPu envE 106 (some [.agg (vecC k)]) H K = K (.bool (vecMay k)) H := (wPu_eq (c106 k)).trans (by simp)

theorem c109 (a c : Nat → Int) : Pu envE 109 [.agg (vecC a), .agg (vecC c)] (.agg (vecC (joinV a c))) := by
  refine pu_is e109 rfl ?_
  rw [fr_init (by simp [fd109])]
  simp [fd109, b109]
  refine loop_fr (n := 21) [2, 4, 7, 8] rfl (fun m vs H => ∃ i, m + i = 8 ∧ H = [.cells false (vecC fun j => if j < i then max (a j) (c j) else a j), .cells false (vecC c), .cells false [I 0, I 0, I 0, I 0, I 0, I 0, I 0, I 0]] ∧ vs = [.ptr (some (0, 0)), .ptr (some (2, 0)), .agg (vecC c), I i]) ?_ ⟨8, [.ptr (some (0, 0)), .ptr (some (2, 0)), .agg (vecC c), I 0], ⟨0, rfl, by simp, rfl⟩, rfl, _, fr_pick [2, 4, 7, 8]⟩
  rintro m vs H b - ⟨i, hm, rfl, rfl⟩
  by_cases hi : i < 8
  · have hw := wrap_succ (i := i) (by omega)
    have hi' : (i : Int) < 8 := by omega
    have hi2 : i ≤ 7 := by omega
    simp [lp109_0, hi, hi', hi2, hw]
    refine ⟨m - 1, by omega, [.ptr (some (0, 0)), .ptr (some (2, 0)), .agg (vecC c), I (i + 1 : Nat)], ⟨i + 1, by omega, ?_, rfl⟩, rfl, _, fr_pick [2, 4, 7, 8]⟩
    refine vec_ext fun j hj => ?_
    simp only [upd]
    by_cases q : j = i
    · subst q; simp
    · by_cases q2 : j < i
      · simp [q, q2, Nat.lt_succ_of_lt q2]
      · have q3 : ¬ j < i + 1 := by omega
        simp [q, q2, q3]
  · have hi' : ¬ (i : Int) < 8 := by omega
    have e : vecC (fun j => if j < i then max (a j) (c j) else a j) = vecC (joinV a c) := vec_ext fun j hj => by
      have : j < i := by omega
      simp [this, joinV]
    simp [lp109_0, hi', e]
@[simp] theorem k109 {a c : Nat → Int} {H : Heap} {K : AV → Heap → Prop} : wPu envE 109 (some [.agg (vecC a), .agg (vecC c)]) H K = K (.agg (vecC (joinV a c))) H := (wPu_eq (c109 a c)).trans (by simp)

theorem c115 (k : Nat → Int) (a c : Int) : Pu envE 115 [.agg (vecC k), .agg [I a, I c]] (.bool (has k a c)) := by
  refine pu_is e115 rfl ?_
  rw [fr_init (by simp [fd115])]
  by_cases h : nodeOk a = true
  · obtain ⟨h1, h2⟩ := nodeOk_iff.1 h
    have h3 : a.toNat < 8 := by omega
    by_cases h4 : 1 ≤ c
    · simp [fd115, b115, h, h1, h2, h3, h4, has]
    · simp [fd115, b115, h, h4, has]
  · simp [fd115, b115, h, has]
@[simp] theorem k115 {k : Nat → Int} {a c : Int} {H : Heap} {K : AV → Heap → Prop} : wPu envE 115 (some [.agg (vecC k), .agg [I a, I c]]) H K = K (.bool (has k a c)) H := (wPu_eq (c115 k a c)).trans (by simp)

theorem c116 (k : Nat → Int) (a c : Int) : Pu envE 116 [.agg (vecC k), .agg [I a, I c]] (.agg (vecC (withV k a c))) := by
  refine pu_is e116 rfl ?_
  rw [fr_init (by simp [fd116])]
  by_cases h : nodeOk a = true
  · obtain ⟨h1, h2⟩ := nodeOk_iff.1 h
    have h3 : a.toNat < 8 := by omega
    have h4 : a.toNat ≤ 7 := by omega
    simp [fd116, b116, h, h1, h2, h3, h4, withV]
  · simp [fd116, b116, h, withV]
@[simp] theorem k116 {k : Nat → Int} {a c : Int} {H : Heap} {K : AV → Heap → Prop} : wPu envE 116 (some [.agg (vecC k), .agg [I a, I c]]) H K = K (.agg (vecC (withV k a c))) H := (wPu_eq (c116 k a c)).trans (by simp)

theorem c167 (n : Int) : Pu envE 167 [I n] (.bool false) := by
  refine pu_is e167 rfl ?_
  rw [fr_init (by simp [fd167])]
  simp [fd167, b167]
@[simp] theorem k167 {n : Int} {H : Heap} {K : AV → Heap → Prop} : wPu envE 167 (some [I n]) H K = K (.bool false) H := (wPu_eq (c167 n)).trans (by simp)
theorem c137 (a c : Int) : Pu envE 137 [I a, I c] (I (cmpI a c)) := by
  refine pu_is e137 rfl ?_
  rw [fr_init (by simp [fd137])]
  by_cases h : a < c
  · simp [fd137, b137, h, cmpI]
  · by_cases h2 : c < a
    · simp [fd137, b137, h, h2, cmpI]
    · simp [fd137, b137, h, h2, cmpI]
@[simp] theorem k137 {a c : Int} {H : Heap} {K : AV → Heap → Prop} : wPu envE 137 (some [I a, I c]) H K = K (I (cmpI a c)) H := (wPu_eq (c137 a c)).trans (by simp)

/-- The first that isn't zero. -/
def orL : List Int → Int
  | [] => 0
  | a :: l => if a ≠ 0 then a else orL l
theorem int_flat : Flat intC := fun _ _ _ => hard rfl
theorem int_plain : Plain intC := fun _ _ _ => hard rfl
theorem int_still : Still intC := fun _ _ => by simp [intC]
theorem orL_skip : ∀ (l : List Int) (i : Nat), (∀ j (hj : j < l.length), j < i → l[j] = 0) → orL l = orL (l.drop i)
  | [], i, h => by simp
  | a :: l, 0, h => by simp
  | a :: l, i + 1, h => by
    have h0 : a = 0 := h 0 (by simp) (by omega)
    rw [List.drop_succ_cons, ← orL_skip l i (fun j hj hji => h (j + 1) (by simp; omega) (by omega))]
    simp [orL, h0]
theorem c136 (l : List Int) (hl : l.length < 4611686018427387904) : Pu envE 136 [roL intC l] (I (orL l)) := by
  refine pu_is e136 rfl ?_
  rw [fr_init (by simp [fd136])]
  simp [fd136, b136]
  refine loop_fr (n := 18) [3, 6, 7, 8] rfl (fun m vs H => ∃ i, m + i = l.length ∧ (∀ j (hj : j < l.length), j < i → l[j] = 0) ∧ vs = [I 0, roL intC l, I l.length, I i]) ?_ ⟨l.length, [I 0, roL intC l, I l.length, I 0], ⟨0, rfl, by omega, rfl⟩, rfl, _, fr_pick [3, 6, 7, 8]⟩
  rintro m vs H b - ⟨i, hm, hall, rfl⟩
  by_cases hi : i < l.length
  · have hw := wrap_succ (i := i) (by omega)
    have hload : loadAt H none (.tp ((l.flatMap intC).drop (i * 1))) = some (I l[i]) := load_roL1 (fun _ => rfl) hi
    rw [Nat.mul_one] at hload
    have ho : orL l = orL (l[i] :: l.drop (i + 1)) := by rw [orL_skip l i hall, List.drop_eq_getElem_cons hi]
    by_cases h0 : l[i] = 0
    · simp [lp136_0, hi, hw, idxSl_roL hi, hload, h0, -load_tp]
      exact ⟨m - 1, by omega, [I 0, roL intC l, I l.length, I (i + 1 : Nat)], ⟨i + 1, by omega, fun j hj hji => by
        rcases Nat.lt_or_ge j i with q | q
        · exact hall j hj q
        · obtain rfl : j = i := by omega
          exact h0, rfl⟩, rfl, _, fr_pick [3, 6, 7, 8]⟩
    · simp [lp136_0, hi, hw, idxSl_roL hi, hload, h0, -load_tp, ho, orL]
  · have e : orL l = 0 := by rw [orL_skip l i hall, List.drop_of_length_le (by omega)]; rfl
    simp [lp136_0, hi, e]
@[simp] theorem k136 {l : List Int} {H : Heap} {K : AV → Heap → Prop} (hl : l.length < 4611686018427387904) : wPu envE 136 (some [roL intC l]) H K = K (I (orL l)) H := (wPu_eq (c136 l hl)).trans (by simp)
@[simp] theorem ints2 {a c : Int} : AV.ro 2 [I a, I c] = roL intC [a, c] := hard rfl
@[simp] theorem ints4 {a c d e : Int} : AV.ro 4 [I a, I c, I d, I e] = roL intC [a, c, d, e] := hard rfl
theorem frz_sl {H : Heap} {d b n es : Nat} {cs : List AV} (h : H.cells? b = some cs) (hn : 0 < n) (hl : n * es = cs.length) : frz H (d + 1) (.sl b 0 n es) = (mapO (frz H d) cs).map (.ro n) := by
  unfold frz
  have e : n ≠ 0 := by omega
  simp only [e, if_false, h, Option.bind_some]
  rw [cut_all hl.symm]
  rfl
theorem c108 (a c a' c' : Int) : Pu envE 108 [.agg [I a, I c], .agg [I a', I c']] (I (dotCmp a c a' c')) := by
  refine pu_is e108 rfl ?_
  rw [fr_init (by simp [fd108])]
  have e : orL [cmpI a a', cmpI c c'] = dotCmp a c a' c' := by
    simp only [orL, dotCmp]
    split
    · rfl
    · split
      · rfl
      · rename_i h; simp at h; exact h.symm
  simp [fd108, b108, frz_sl, e]
@[simp] theorem k108 {a c a' c' : Int} {H : Heap} {K : AV → Heap → Prop} : wPu envE 108 (some [.agg [I a, I c], .agg [I a', I c']]) H K = K (I (dotCmp a c a' c')) H := (wPu_eq (c108 a c a' c')).trans (by simp)
end Go.Proofs.YtflgfiieaoeknaaGreatA

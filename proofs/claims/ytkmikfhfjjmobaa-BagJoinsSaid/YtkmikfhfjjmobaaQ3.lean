/- Three bags joined, in plain words. No program is in sight here. -/
import Derived.Test.YtkmikfhfjjmobaaQ2
namespace Go.Proofs.YtkmikfhfjjmobaaA
open Go
set_option linter.unusedSimpArgs false
set_option linter.unusedVariables false

theorem same_of {ka kb : Nat → Int} {la lb : List Val} (h1 : ∀ i, i < 8 → ka i = kb i) (h2 : la = lb) : bagSame ka la kb lb = true := by
  simp [bagSame, h2, vecEq_iff.2 h1]
theorem join0 {ka kb : Nat → Int} {la lb : List Val} (ha : BagOk ka la) (hb : BagOk kb lb) (h : ¬ joinE ka la kb lb = 5) : joinE ka la kb lb = 0 ∧ joinK ka la kb lb = joinV ka kb ∧ joinR ka la kb lb = joinL ka la kb lb ∧ BagOk (joinV ka kb) (joinL ka la kb lb) := by
  rcases joinE_cases ha hb with ⟨q, _⟩ | ⟨q1, q2, q3, q4⟩
  · exact absurd q h
  · exact ⟨q1, q3, q4, join_ok ha hb q2⟩
theorem join_comm {ka kb : Nat → Int} {la lb : List Val} (ha : BagOk ka la) (hb : BagOk kb lb) : joinL ka la kb lb = joinL kb lb ka la :=
  asc_ext (join_asc ha) (join_asc hb) fun v => by
    rw [mem_join ha hb, mem_join hb ha]
    exact ⟨fun ⟨a, b, c⟩ => ⟨a.symm, c, b⟩, fun ⟨a, b, c⟩ => ⟨a.symm, c, b⟩⟩
/-- Who knows of a write and doesn't hold it says that it is gone. -/
def kept (k : Nat → Int) (l : List Val) (v : Val) : Prop := v ∈ l ∨ has k v.node v.n = false
theorem mem_join3 {k0 k1 k2 : Nat → Int} {l0 l1 l2 : List Val} (h0 : BagOk k0 l0) (h1 : BagOk k1 l1) (h2 : BagOk k2 l2) (hx : BagOk (joinV k0 k1) (joinL k0 l0 k1 l1)) {v : Val} : v ∈ joinL (joinV k0 k1) (joinL k0 l0 k1 l1) k2 l2 ↔ (v ∈ l0 ∨ v ∈ l1 ∨ v ∈ l2) ∧ kept k0 l0 v ∧ kept k1 l1 v ∧ kept k2 l2 v := by
  rw [mem_join hx h2, mem_join h0 h1, has_join_f]
  unfold kept
  by_cases a0 : v ∈ l0 <;> by_cases a1 : v ∈ l1 <;> by_cases a2 : v ∈ l2 <;> cases b0 : has k0 v.node v.n <;> cases b1 : has k1 v.node v.n <;> cases b2 : has k2 v.node v.n <;> simp [a0, a1, a2]
theorem mem_join3r {k0 k1 k2 : Nat → Int} {l0 l1 l2 : List Val} (h0 : BagOk k0 l0) (h1 : BagOk k1 l1) (h2 : BagOk k2 l2) (hz : BagOk (joinV k1 k2) (joinL k1 l1 k2 l2)) {v : Val} : v ∈ joinL k0 l0 (joinV k1 k2) (joinL k1 l1 k2 l2) ↔ (v ∈ l0 ∨ v ∈ l1 ∨ v ∈ l2) ∧ kept k0 l0 v ∧ kept k1 l1 v ∧ kept k2 l2 v := by
  rw [mem_join h0 hz, mem_join h1 h2, has_join_f]
  unfold kept
  by_cases a0 : v ∈ l0 <;> by_cases a1 : v ∈ l1 <;> by_cases a2 : v ∈ l2 <;> cases b0 : has k0 v.node v.n <;> cases b1 : has k1 v.node v.n <;> cases b2 : has k2 v.node v.n <;> simp [a0, a1, a2]
/-- All that is said of three bags that are joined. -/
structure Joined (K : Nat → Nat → Int) (L : Nat → List Val) (xk : Nat → Int) (xl : List Val) (yk : Nat → Int) (yl : List Val) (pk : Nat → Int) (pl : List Val) (qk : Nat → Int) (ql : List Val) : Prop where
  e : joinE (K 0) (L 0) (K 1) (L 1) = 0
  f : joinE (K 1) (L 1) (K 0) (L 0) = 0
  g : joinE (K 1) (L 1) (K 2) (L 2) = 0
  xy : bagSame xk xl yk yl = true
  pq : bagSame pk pl qk ql = true
  b0 : belowB (K 0) (L 0) xk xl = true
  b1 : belowB (K 1) (L 1) pk pl = true
  bx : belowB xk xl pk pl = true
  may : bagMay pk pl = true
  know : ∀ w, w < 3 → belowV (K w) pk = true
  mem : ∀ w, w < 3 → ∀ v ∈ L w, (v ∈ pl ↔ ∀ o, o < 3 → kept (K o) (L o) v)
theorem joined {K : Nat → Nat → Int} {L : Nat → List Val} (h : ∀ w, w < 3 → BagOk (K w) (L w)) {xk yk zk pk qk : Nat → Int} {xl yl zl pl ql : List Val}
    (ex : xk = joinK (K 0) (L 0) (K 1) (L 1)) (exl : xl = joinR (K 0) (L 0) (K 1) (L 1)) (ey : yk = joinK (K 1) (L 1) (K 0) (L 0)) (eyl : yl = joinR (K 1) (L 1) (K 0) (L 0)) (ez : zk = joinK (K 1) (L 1) (K 2) (L 2)) (ezl : zl = joinR (K 1) (L 1) (K 2) (L 2))
    (ep : pk = joinK xk xl (K 2) (L 2)) (epl : pl = joinR xk xl (K 2) (L 2)) (eq : qk = joinK (K 0) (L 0) zk zl) (eql : ql = joinR (K 0) (L 0) zk zl)
    (ne : ¬ joinE (K 0) (L 0) (K 1) (L 1) = 5) (ng : ¬ joinE (K 1) (L 1) (K 2) (L 2) = 5) (nh : ¬ joinE xk xl (K 2) (L 2) = 5) (ni : ¬ joinE (K 0) (L 0) zk zl = 5) :
    Joined K L xk xl yk yl pk pl qk ql ∧ joinE xk xl (K 2) (L 2) = 0 ∧ joinE (K 0) (L 0) zk zl = 0 := by
  have h0 := h 0 (by omega)
  have h1 := h 1 (by omega)
  have h2 := h 2 (by omega)
  obtain ⟨e1, e2, e3, hx⟩ := join0 h0 h1 ne
  have nf : ¬ joinE (K 1) (L 1) (K 0) (L 0) = 5 := fun q => by
    rcases joinE_cases h1 h0 with ⟨_, q2⟩ | ⟨q2, _⟩
    · rw [join_comm h1 h0] at q2
      have := hx.len
      omega
    · rw [q2] at q; cases q
  obtain ⟨f1, f2, f3, hy⟩ := join0 h1 h0 nf
  obtain ⟨g1, g2, g3, hz⟩ := join0 h1 h2 ng
  rw [e2] at ex
  rw [e3] at exl
  rw [f2] at ey
  rw [f3] at eyl
  rw [g2] at ez
  rw [g3] at ezl
  subst ex exl ey eyl ez ezl
  obtain ⟨i1, i2, i3, hp⟩ := join0 hx h2 nh
  obtain ⟨j1, j2, j3, hq⟩ := join0 h0 hz ni
  rw [i2] at ep
  rw [i3] at epl
  rw [j2] at eq
  rw [j3] at eql
  subst ep epl eq eql
  have u0 := upon_join h0 h1
  have u1 := upon_join2 h0 h1
  have ux := upon_join hx h2
  have u2 := upon_join2 hx h2
  refine ⟨⟨e1, f1, g1, same_of (fun i _ => by simp only [joinV]; omega) (join_comm h0 h1), same_of (fun i _ => by simp only [joinV]; omega) (asc_ext hp.asc hq.asc fun v => by rw [mem_join3 h0 h1 h2 hx, mem_join3r h0 h1 h2 hz]), below_upon h0 hx u0, below_upon h1 hp (u1.trans ux), below_upon hx hp ux, hp.may, fun w hw => ?_, fun w hw v hv => ?_⟩, i1, j1⟩
  · rw [belowV_iff]
    obtain rfl | rfl | rfl := lt3 hw
    · exact (u0.trans ux).know
    · exact (u1.trans ux).know
    · exact u2.know
  · rw [mem_join3 h0 h1 h2 hx]
    have hany : v ∈ L 0 ∨ v ∈ L 1 ∨ v ∈ L 2 := by
      obtain rfl | rfl | rfl := lt3 hw
      · exact .inl hv
      · exact .inr (.inl hv)
      · exact .inr (.inr hv)
    constructor
    · rintro ⟨_, a, b, c⟩ o ho
      obtain rfl | rfl | rfl := lt3 ho
      · exact a
      · exact b
      · exact c
    · exact fun q => ⟨hany, q 0 (by omega), q 1 (by omega), q 2 (by omega)⟩
/-- What the law counts: one of the first n knows of it and doesn't hold it. -/
def goneN (K : Nat → Nat → Int) (L : Nat → List Val) (v : Val) : Nat → Bool
  | 0 => false
  | n + 1 => goneN K L v n || (!isAt (L n) v.node v.n && has (K n) v.node v.n)
theorem goneN_iff {K : Nat → Nat → Int} {L : Nat → List Val} {v : Val} (h : ∀ w, w < 3 → BagOk (K w) (L w)) (hv : v.data = dataV v.node v.n) : ∀ {n : Nat}, n ≤ 3 → (goneN K L v n = false ↔ ∀ o, o < n → kept (K o) (L o) v)
  | 0, _ => by simp [goneN]
  | n + 1, hn => by
    have h2 := isAt_mem (h n (by omega)) hv
    simp only [goneN, Bool.or_eq_false_iff, goneN_iff h hv (Nat.le_of_succ_le hn), Bool.and_eq_false_iff, Bool.not_eq_false', h2]
    constructor
    · rintro ⟨a, b⟩ o ho
      rcases Nat.lt_succ_iff_lt_or_eq.1 ho with q | rfl
      · exact a o q
      · exact b
    · exact fun q => ⟨fun o ho => q o (by omega), q n (by omega)⟩
theorem law_mem {K : Nat → Nat → Int} {L : Nat → List Val} {pl : List Val} (h : ∀ w, w < 3 → BagOk (K w) (L w)) (hm : ∀ w, w < 3 → ∀ v ∈ L w, (v ∈ pl ↔ ∀ o, o < 3 → kept (K o) (L o) v)) {w : Nat} (hw : w < 3) {v : Val} (hv : v ∈ L w) : (pl.any fun u => decide (u = v)) = !goneN K L v 3 := by
  have h1 := hm w hw v hv
  rw [← goneN_iff h ((h w hw).data v hv) (Nat.le_refl 3)] at h1
  cases q : goneN K L v 3
  · rw [q] at h1
    simpa using h1.2 rfl
  · rw [q] at h1
    simp only [Bool.not_true, List.any_eq_false, decide_eq_true_eq]
    rintro u hu rfl
    exact absurd (h1.1 hu) (by simp)
end Go.Proofs.YtkmikfhfjjmobaaA

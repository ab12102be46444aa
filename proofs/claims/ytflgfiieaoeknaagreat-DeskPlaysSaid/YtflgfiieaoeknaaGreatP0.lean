/- Bags in plain words: what Put and Join keep. No program is in sight here. -/
import Derived.Test.YtflgfiieaoeknaaGreatD0
namespace Go.Proofs.YtflgfiieaoeknaaGreatA
open Go
set_option linter.unusedSimpArgs false

theorem vecMay_iff {k : Nat → Int} : vecMay k = true ↔ ∀ i, i < 8 → 0 ≤ k i ∧ k i ≤ 1000000 := by
  simp only [vecMay, List.all_eq_true, List.mem_range, Bool.and_eq_true, decide_eq_true_eq]
theorem vecEq_iff {a b : Nat → Int} : vecEq a b = true ↔ ∀ i, i < 8 → a i = b i := by
  simp only [vecEq, List.all_eq_true, List.mem_range, beq_iff_eq]
theorem belowV_iff {a b : Nat → Int} : belowV a b = true ↔ ∀ i, i < 8 → a i ≤ b i := by
  unfold belowV
  rw [vecEq_iff]
  constructor
  · intro h i hi
    have := h i hi
    simp only [joinV] at this
    omega
  · intro h i hi
    have := h i hi
    simp only [joinV]
    omega
theorem has_iff {k : Nat → Int} {a c : Int} : has k a c = true ↔ 0 ≤ a ∧ a < 8 ∧ 1 ≤ c ∧ c ≤ k a.toNat := by
  simp only [has, nodeOk, Bool.and_eq_true, decide_eq_true_eq]
  constructor
  · rintro ⟨⟨h1, h2⟩, h3, h4⟩; exact ⟨h1, h2, h3, h4⟩
  · rintro ⟨h1, h2, h3, h4⟩; exact ⟨⟨h1, h2⟩, h3, h4⟩
theorem has_mono {k k' : Nat → Int} (h : ∀ i, i < 8 → k i ≤ k' i) {a c : Int} (q : has k a c = true) : has k' a c = true := by
  rw [has_iff] at q ⊢
  obtain ⟨q1, q2, q3, q4⟩ := q
  exact ⟨q1, q2, q3, Int.le_trans q4 (h _ (by omega))⟩
theorem goodL_iff {l : List Val} {k : Nat → Int} : goodL l k = true ↔ (∀ v ∈ l, valMay v k = true) ∧ Asc l := by
  constructor
  · intro h
    refine ⟨fun v hv => ?_, asc_of h⟩
    obtain ⟨i, hi, rfl⟩ := List.mem_iff_getElem.1 hv
    exact ((of_decide_eq_true h) ⟨i, hi⟩).1
  · rintro ⟨h1, h2⟩
    refine decide_eq_true fun i => ⟨h1 _ (List.getElem_mem _), fun h0 => ?_⟩
    unfold Asc at h2
    rw [List.pairwise_iff_getElem] at h2
    exact h2 (i.1 - 1) i.1 (by omega) i.2 (by omega)
theorem bagMay_iff {k : Nat → Int} {l : List Val} : bagMay k l = true ↔ vecMay k = true ∧ l.length ≤ 32 ∧ (∀ v ∈ l, valMay v k = true) ∧ Asc l := by
  simp only [bagMay, Bool.and_eq_true, decide_eq_true_eq, goodL_iff]
theorem valMay_iff {v : Val} {k : Nat → Int} : valMay v k = true ↔ has k v.node v.n = true ∧ v.data.length ≤ 64 := by
  simp only [valMay, Bool.and_eq_true, decide_eq_true_eq]
theorem isAt_iff {l : List Val} {a c : Int} : isAt l a c = true ↔ ∃ v ∈ l, v.node = a ∧ v.n = c := by
  simp only [isAt, List.any_eq_true, decide_eq_true_eq]
theorem joinV_le {a b : Nat → Int} {i : Nat} : a i ≤ joinV a b i ∧ b i ≤ joinV a b i := by
  simp only [joinV]
  omega
theorem withV_le {k : Nat → Int} {a c : Int} {i : Nat} : k i ≤ withV k a c i := by
  unfold withV
  split
  · unfold upd
    split
    · rename_i h; subst h; omega
    · omega
  · omega
theorem withV_may {k : Nat → Int} {a c : Int} (h : vecMay k = true) (hc : c ≤ 1000000) : vecMay (withV k a c) = true := by
  rw [vecMay_iff] at h ⊢
  intro i hi
  have := h i hi
  unfold withV
  split
  · unfold upd
    split
    · rename_i h2; subst h2; omega
    · exact this
  · exact this
theorem joinV_may {a b : Nat → Int} (h : vecMay a = true) (h2 : vecMay b = true) : vecMay (joinV a b) = true := by
  rw [vecMay_iff] at h h2 ⊢
  intro i hi
  have := h i hi
  have := h2 i hi
  simp only [joinV]
  omega
theorem withV_has {k : Nat → Int} {a c : Int} (h : dotOk a c = true) : has (withV k a c) a c = true := by
  simp only [dotOk, nodeOk, Bool.and_eq_true, decide_eq_true_eq] at h
  rw [has_iff]
  refine ⟨h.1.1, h.1.2, h.2.1, ?_⟩
  simp only [withV, nodeOk, h.1.1, h.1.2, decide_true, Bool.and_self, if_true, upd]
  omega
theorem putE_cases {k known : Nat → Int} {l : List Val} {a c : Int} {data : List UInt8} : (putMay k l known a c data = false ∧ putE k l known a c data = 1) ∨ (putMay k l known a c data = true ∧ 32 < (putL l known a c data).length ∧ putE k l known a c data = 5) ∨ (putMay k l known a c data = true ∧ (putL l known a c data).length ≤ 32 ∧ putE k l known a c data = 0) := by
  unfold putE
  cases h : putMay k l known a c data
  · simp
  · by_cases q : 32 < (putL l known a c data).length
    · simp [q]
    · simp [q]; omega
theorem putMay_iff {k known : Nat → Int} {l : List Val} {a c : Int} {data : List UInt8} : putMay k l known a c data = true ↔ bagMay k l = true ∧ vecMay known = true ∧ dotOk a c = true ∧ has k a c = false ∧ data.length ≤ 64 := by
  simp only [putMay, Bool.and_eq_true, Bool.not_eq_true', decide_eq_true_eq]
theorem dotOk_iff {a c : Int} : dotOk a c = true ↔ 0 ≤ a ∧ a < 8 ∧ 1 ≤ c ∧ c ≤ 1000000 := by
  simp only [dotOk, nodeOk, Bool.and_eq_true, decide_eq_true_eq]
  constructor
  · rintro ⟨⟨h1, h2⟩, h3, h4⟩; exact ⟨h1, h2, h3, h4⟩
  · rintro ⟨h1, h2, h3, h4⟩; exact ⟨⟨h1, h2⟩, h3, h4⟩
theorem mem_kept {known : Nat → Int} {l : List Val} {v : Val} : v ∈ keptL known l ↔ v ∈ l ∧ has known v.node v.n = false := by
  simp [keptL, List.mem_filter]
theorem put_ok {k known : Nat → Int} {l : List Val} {a c : Int} {data : List UInt8} (h : putE k l known a c data = 0) :
    putMay k l known a c data = true ∧ putK k l known a c data = withV (joinV k known) a c ∧ putR k l known a c data = putL l known a c data ∧ bagMay (putK k l known a c data) (putR k l known a c data) = true := by
  rcases putE_cases (k := k) (known := known) (l := l) (a := a) (c := c) (data := data) with ⟨_, q⟩ | ⟨_, _, q⟩ | ⟨h1, h2, _⟩
  · rw [h] at q; cases q
  · rw [h] at q; cases q
  · have e1 : putK k l known a c data = withV (joinV k known) a c := by simp [putK, h]
    have e2 : putR k l known a c data = putL l known a c data := by simp [putR, h]
    refine ⟨h1, e1, e2, ?_⟩
    rw [e1, e2, bagMay_iff]
    obtain ⟨m1, m2, m3, m4, m5⟩ := putMay_iff.1 h1
    obtain ⟨b1, b2, b3, b4⟩ := bagMay_iff.1 m1
    have hc := (dotOk_iff.1 m3).2.2.2
    refine ⟨withV_may (joinV_may b1 m2) hc, h2, fun v hv => ?_, ?_⟩
    · rw [valMay_iff]
      rcases mem_insV.1 hv with rfl | hv
      · exact ⟨withV_has m3, m5⟩
      · obtain ⟨q1, q2⟩ := valMay_iff.1 (b3 v (mem_kept.1 hv).1)
        exact ⟨has_mono (fun i hi => Int.le_trans joinV_le.1 withV_le) q1, q2⟩
    · refine insV_asc (List.Pairwise.filter _ b4) ?_
      rw [Bool.eq_false_iff]
      intro q
      obtain ⟨v, hv, q1, q2⟩ := isAt_iff.1 q
      have := (valMay_iff.1 (b3 v (mem_kept.1 hv).1)).1
      rw [q1, q2, m4] at this
      cases this
theorem put_mem {k known : Nat → Int} {l : List Val} {a c : Int} {data : List UInt8} (h : putMay k l known a c data = true) {v : Val} (hv : v ∈ l) : v ∈ putL l known a c data ↔ has known v.node v.n = false := by
  obtain ⟨m1, m2, m3, m4, m5⟩ := putMay_iff.1 h
  obtain ⟨b1, b2, b3, b4⟩ := bagMay_iff.1 m1
  unfold putL
  rw [mem_insV, mem_kept]
  constructor
  · rintro (rfl | q)
    · have := (valMay_iff.1 (b3 _ hv)).1
      simp only at this
      rw [m4] at this
      cases this
    · exact q.2
  · exact fun q => .inr ⟨hv, q⟩
theorem put_again {k known : Nat → Int} {l : List Val} {a c : Int} {data : List UInt8} (h : putE k l known a c data = 0) : putE (putK k l known a c data) (putR k l known a c data) known a c data = 1 := by
  obtain ⟨h1, h2, h3, h4⟩ := put_ok h
  have hd := (putMay_iff.1 h1).2.2.1
  have : putMay (putK k l known a c data) (putR k l known a c data) known a c data = false := by
    rw [Bool.eq_false_iff]
    intro q
    have := (putMay_iff.1 q).2.2.2.1
    rw [h2, withV_has hd] at this
    cases this
  simp [putE, this]
end Go.Proofs.YtflgfiieaoeknaaGreatA

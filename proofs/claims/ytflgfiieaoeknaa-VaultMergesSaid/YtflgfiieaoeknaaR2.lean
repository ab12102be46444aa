/- Bags that grow, merged in any order. No statement about the program is proved here. -/
import Derived.Test.YtflgfiieaoeknaaR1
import Derived.Test.YtflgfiieaoeknaaP1
namespace Go.Proofs.YtflgfiieaoeknaaA
open Go
set_option linter.unusedSimpArgs false
set_option linter.unusedVariables false
set_option maxRecDepth 1000000

theorem has_eq {k k' : Nat → Int} (h : ∀ i, i < 8 → k i = k' i) {a c : Int} : has k a c = has k' a c := by
  rw [Bool.eq_iff_iff]
  exact ⟨has_mono fun i hi => Int.le_of_eq (h i hi), has_mono fun i hi => Int.le_of_eq (h i hi).symm⟩
/-- The same bag, as far as can be seen. -/
structure BagIs (b x : Bag) : Prop where
  vals : b.vals = x.vals
  known : ∀ i, i < 8 → b.known i = x.known i
theorem BagIs.refl {b : Bag} : BagIs b b := ⟨rfl, fun _ _ => rfl⟩
theorem BagIs.ok {b x : Bag} (h : BagIs b x) (k : BagOk x.known x.vals) : BagOk b.known b.vals := by
  constructor
  · obtain ⟨a1, a2, a3, a4⟩ := bagMay_iff.1 k.may
    refine bagMay_iff.2 ⟨vecMay_iff.2 fun i hi => by rw [h.known i hi]; exact vecMay_iff.1 a1 i hi, by rw [h.vals]; exact a2, fun v hv => ?_, by rw [h.vals]; exact a4⟩
    rw [h.vals] at hv
    obtain ⟨p1, p2⟩ := valMay_iff.1 (a3 v hv)
    exact valMay_iff.2 ⟨by rw [has_eq h.known]; exact p1, p2⟩
  · rw [h.vals]; exact k.data
theorem BagIs.uponL {b x y : Bag} (h : BagIs b x) (u : Upon x.known x.vals y.known y.vals) : Upon b.known b.vals y.known y.vals :=
  ⟨fun i hi => by rw [h.known i hi]; exact u.know i hi, fun v hv q => by rw [h.vals]; exact u.old v hv (by rw [← has_eq h.known]; exact q)⟩
theorem BagIs.uponR {b x y : Bag} (h : BagIs b x) (u : Upon y.known y.vals x.known x.vals) : Upon y.known y.vals b.known b.vals :=
  ⟨fun i hi => by rw [h.known i hi]; exact u.know i hi, fun v hv q => u.old v (by rw [← h.vals]; exact hv) q⟩
theorem one_lookup {s : VSt} {key : List UInt8} (h : s.bags.length ≤ 1) : fullS s key = false := by
  have : ¬ 200 ≤ s.bags.length := by omega
  simp [fullS, this]
theorem setB_one {l : List (List UInt8 × Bag)} {key : List UInt8} {b : Bag} (h : ∀ p ∈ l, p.1 = key) (hl : l.length ≤ 1) : (setB l key b).length ≤ 1 ∧ ∀ p ∈ setB l key b, p.1 = key := by
  match l, hl with
  | [], _ => exact ⟨by simp [setB], by simp [setB]⟩
  | [(k, x)], _ =>
    have hk : k = key := h (k, x) (.head _)
    subst hk
    exact ⟨by simp [setB], by simp [setB]⟩
/-- A vault that has merged bags of one key. -/
structure Vm (s : VSt) (key : List UInt8) (x : Bag) (t : Nat) : Prop where
  ok : VOk s
  is' : BagIs (bagOf s key) x
  keys : ∀ p ∈ s.bags, p.1 = key
  few : s.bags.length ≤ 1
  len : s.ds.length ≤ t
  room : s.room = 100
  dots : s.dots = 0
theorem merge_down {s : VSt} {key : List UInt8} {x b : Bag} {t : Nat} (h : Vm s key x t) (hk : keyOk key = true) (hx : BagOk x.known x.vals) (hb : BagOk b.known b.vals) (u : Upon b.known b.vals x.known x.vals) : mergeO s key b = ⟨0, s⟩ := by
  have u' := h.is'.uponR u
  have ho := h.is'.ok hx
  have e := (joinE_upon hb ho u').2
  have hbl := below_upon hb ho u'
  unfold mergeO
  rw [if_neg (by simp [hk, hb.may]), if_neg (by simp [one_lookup h.few]), if_pos (.inr hbl), e]
theorem merge_up {s : VSt} {key : List UInt8} {x b : Bag} {t : Nat} (h : Vm s key x t) (hk : keyOk key = true) (hx : BagOk x.known x.vals) (hb : BagOk b.known b.vals) (u : Upon x.known x.vals b.known b.vals) (ht : t < 100) : ∃ s', mergeO s key b = ⟨0, s'⟩ ∧ Vm s' key b (t + 1) := by
  have u' := h.is'.uponL u
  have ho := h.is'.ok hx
  obtain ⟨j1, j2⟩ := join_upon ho hb u'
  obtain ⟨e1, e2⟩ := joinE_upon ho hb u'
  obtain ⟨w1, w2⟩ := joinV_upon u'.know
  rw [vecEq_iff] at w1 w2
  obtain ⟨O, hO⟩ : ∃ O, O = bagOf s key := ⟨_, rfl⟩
  have hK : joinK O.known O.vals b.known b.vals = joinV O.known b.known := by rw [hO]; simp [joinK, e1]
  have hR : joinR O.known O.vals b.known b.vals = b.vals := by rw [hO]; simp [joinR, e1, j1]
  have hJ : BagIs ⟨joinK O.known O.vals b.known b.vals, joinR O.known O.vals b.known b.vals⟩ b := ⟨hR, fun i hi => by rw [hK, hO]; exact w1 i hi⟩
  have hJok := hJ.ok hb
  have h1 : ¬ (keyOk key = false ∨ bagMay b.known b.vals = false) := by simp [hk, hb.may]
  have h2 : ¬ fullS s key = true := by simp [one_lookup h.few]
  by_cases hB : belowB b.known b.vals O.known O.vals = true
  · refine ⟨s, ?_, h.ok, ?_, h.keys, h.few, Nat.le_succ_of_le h.len, h.room, h.dots⟩
    · unfold mergeO
      rw [if_neg h1, if_neg h2, if_pos (.inr (by rw [← hO]; exact hB)), e1]
    · have e3 : joinK b.known b.vals O.known O.vals = joinV b.known O.known := by rw [hO]; simp [joinK, e2]
      have e4 : joinR b.known b.vals O.known O.vals = b.vals := by rw [hO]; simp [joinR, e2, j2]
      simp only [belowB, Bool.and_eq_true, bagSame, e3, e4] at hB
      rw [← hO]
      refine ⟨?_, fun i hi => ?_⟩
      · have q := hB.2.2
        rw [decide_eq_true_eq] at q
        exact q.symm
      · have a1 := vecEq_iff.1 hB.2.1 i hi
        have a2 := u'.know i hi
        rw [← hO] at a2
        simp only [joinV] at a1
        omega
  · have hd : mergeD s key b = bagD 0 key ⟨joinK O.known O.vals b.known b.vals, joinR O.known O.vals b.known b.vals⟩ := by rw [mergeD, h.dots, hO]
    have hlen : (s.ds.length : Int) < s.room := by have := h.len; rw [h.room]; omega
    have hw : writeE (bagD 0 key ⟨joinK O.known O.vals b.known b.vals, joinR O.known O.vals b.known b.vals⟩) s.ds s.room = 0 := write_ok (bagD_may hk hJok.may (by omega) (by omega)) hlen
    have hok := h.ok.wrote (d := bagD 0 key ⟨joinK O.known O.vals b.known b.vals, joinR O.known O.vals b.known b.vals⟩) ⟨joinR_fit, Nat.zero_le _⟩
    refine ⟨wroteS s (bagD 0 key ⟨joinK O.known O.vals b.known b.vals, joinR O.known O.vals b.known b.vals⟩), ?_, hok, ?_, ?_, ?_, ?_, ?_, ?_⟩
    · unfold mergeO
      rw [if_neg h1, if_neg h2, if_neg (by rw [← hO]; rw [← hO] at e1; simp [e1, hB]), hd, hw]
    · rw [wroteS, if_pos hw]
      have : bagOf (countS { s with ds := s.ds ++ [bagD 0 key ⟨joinK O.known O.vals b.known b.vals, joinR O.known O.vals b.known b.vals⟩] } (bagD 0 key ⟨joinK O.known O.vals b.known b.vals, joinR O.known O.vals b.known b.vals⟩)) key = ⟨joinK O.known O.vals b.known b.vals, joinR O.known O.vals b.known b.vals⟩ := by
        simp [countS, bagD, bagOf, lookB_set]
      rw [this]
      exact hJ
    · rw [wroteS, if_pos hw]
      intro p hp
      simp [countS, bagD] at hp
      exact (setB_one h.keys h.few).2 p hp
    · rw [wroteS, if_pos hw]
      simp [countS, bagD]
      exact (setB_one h.keys h.few).1
    · rw [wroteS, if_pos hw]
      simp [countS, bagD]
      exact h.len
    · rw [wroteS, if_pos hw]
      simp [countS, bagD]
      exact h.room
    · rw [wroteS, if_pos hw]
      simp [countS, bagD, h.dots]
end Go.Proofs.YtflgfiieaoeknaaA

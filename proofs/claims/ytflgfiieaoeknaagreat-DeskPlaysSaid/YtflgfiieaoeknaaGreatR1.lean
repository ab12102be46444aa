/- The ref PutBag. No statement about the program is proved here. -/
import Derived.Test.YtflgfiieaoeknaaGreatR0
import Derived.Test.YtflgfiieaoeknaaGreatV7
namespace Go.Proofs.YtflgfiieaoeknaaGreatA
open Go
set_option linter.unusedSimpArgs false
set_option linter.unusedVariables false
set_option maxRecDepth 1000000
attribute [local simp] bagV_zero

theorem k103 {l : List Val} {a c : Int} {data : List UInt8} (hl : l.length < 4398046511104) {H : Heap} {K : AV → Heap → Prop} : wPu envE 103 (some [roL valC l, .agg [I a, I c, .str data]]) H K = K (thaw (owL 3 valC (insV l ⟨a, c, data⟩)) H).1 (thaw (owL 3 valC (insV l ⟨a, c, data⟩)) H).2 := (wPu_eq (c103 l ⟨a, c, data⟩ hl)).trans (by simp)
theorem k48v {l : List Val} {v : Val} (hl : l.length < 4398046511104) {H : Heap} {K : AV → Heap → Prop} : wPu envE 103 (some [roL valC l, .agg (valC v)]) H K = K (thaw (owL 3 valC (insV l v)) H).1 (thaw (owL 3 valC (insV l v)) H).2 := (wPu_eq (c103 l v hl)).trans (by simp)
set_option maxHeartbeats 4000000 in
theorem c62 (k : Nat → Int) (l : List Val) (known : Nat → Int) (a c : Int) (data : List UInt8) (hl : l.length < 4398046511104) : Pu envE 62 [.agg (bagV k (roL valC l)), .agg (vecC known), .agg [I a, I c], .str data] (.tup [.agg (bagV (putK k l known a c data) (owL 3 valC (putR k l known a c data))), I (putE k l known a c data)]) := by
  refine pu_is e62 rfl ?_
  have hl2 : l.length < 4611686018427387904 := by omega
  by_cases hm : putMay k l known a c data = true
  case neg =>
    have hE : putE k l known a c data = 1 := by simp [putE, hm]
    have hK : putK k l known a c data = zeroV := by simp [putK, hE]
    have hR : putR k l known a c data = [] := by simp [putR, hE]
    rw [hE, hK, hR]
    by_cases m1 : bagMay k l = true
    case neg =>
      rw [fr_init (by simp [fd62])]
      simp [fd62, b62, k98 hl2, m1, owL]
    by_cases m2 : vecMay known = true
    case neg =>
      rw [fr_init (by simp [fd62])]
      simp [fd62, b62, k98 hl2, m1, m2, owL]
    by_cases d0 : nodeOk a = true
    case neg =>
      rw [fr_init (by simp [fd62])]
      simp [fd62, b62, k98 hl2, m1, m2, d0, owL]
    by_cases d2 : c < 1
    · rw [fr_init (by simp [fd62])]
      simp [fd62, b62, k98 hl2, m1, m2, d0, d2, owL]
    by_cases d3 : 1000000 < c
    · rw [fr_init (by simp [fd62])]
      simp [fd62, b62, k98 hl2, m1, m2, d0, d2, d3, owL]
    by_cases m3 : has k a c = true
    · rw [fr_init (by simp [fd62])]
      simp [fd62, b62, k98 hl2, m1, m2, d0, d2, d3, m3, owL]
    by_cases m4 : (64 : Int) < data.length
    · rw [fr_init (by simp [fd62])]
      simp [fd62, b62, k98 hl2, m1, m2, d0, d2, d3, m3, m4, owL]
    · exact absurd (putMay_iff.2 ⟨m1, m2, by simp [dotOk, d0]; omega, by simpa using m3, by omega⟩) hm
  have hm' := putMay_iff.1 hm
  obtain ⟨m1, m2, d, m3, m4⟩ := hm'
  have d' := d
  simp only [dotOk, Bool.and_eq_true, decide_eq_true_eq] at d'
  obtain ⟨d0, d2, d3⟩ := d'
  have d2' : ¬ c < 1 := by omega
  have d3' : ¬ 1000000 < c := by omega
  have m5 : ¬ (64 : Int) < data.length := by omega
  have hll : l.length ≤ 32 := may_len m1
  have hasc := may_asc m1
  rw [fr_init (by simp [fd62])]
  simp [fd62, b62, k98 hl2, m1, m2, d0, d2', d3', m3, m5]
  refine loop_go [3, 5, 6, 8, 10, 57, 58, 59] rfl (fun m vs H => ∃ i X v, m + i = l.length ∧ H = .cells false (bagV k (roL valC l)) :: .cells false (vecC known) :: .cells false [I a, I c] :: .cells false (bagV zeroV .nilsl) :: .cells false (bagV (withV (joinV k known) a c) v) :: X ∧ Row 5 H 3 valC (keptL known (l.take i)) v ∧ vs = [.str data, .ptr (some (1, 0)), .ptr (some (2, 0)), .ptr (some (3, 0)), .ptr (some (4, 0)), roL valC l, I l.length, I i]) ?_ l.length ⟨0, [], .nilsl, rfl, rfl, .nil, rfl⟩
  rintro J hJ m vs H b ⟨i, X, v, hm2, rfl, hr, rfl⟩
  by_cases hi : i < l.length
  · have hw := wrap_succ (i := i) (by omega)
    have hld := valC_load hi (H := .cells false (bagV k (roL valC l)) :: .cells false (vecC known) :: .cells false [I a, I c] :: .cells false (bagV zeroV .nilsl) :: .cells false (bagV (withV (joinV k known) a c) v) :: X)
    have hstep : keptL known (l.take (i + 1)) = keptL known (l.take i) ++ if (!has known l[i].node l[i].n) = true then [l[i]] else [] := filter_take_succ hi
    cases hh : has known l[i].node l[i].n
    · have hlen : (keptL known (l.take i)).length ≤ l.length := filter_len_le
      have hbel : ∀ u ∈ keptL known (l.take i), below l[i].node l[i].n u = true := by
        intro u hu
        have h1 : u ∈ l.take i := (List.mem_filter.1 hu).1
        obtain ⟨j, hj, rfl⟩ := List.mem_iff_getElem.1 h1
        rw [List.length_take] at hj
        have asc := hasc
        unfold Asc at asc
        rw [List.pairwise_iff_getElem] at asc
        have := asc j i (by omega) hi (by omega)
        rw [dlt_iff] at this
        rw [List.getElem_take]
        simp only [below, decide_eq_true_eq, dot_neg]
        omega
      have hins : insV (keptL known (l.take i)) l[i] = keptL known (l.take (i + 1)) := by
        rw [insV_end hbel, hstep, hh]
        rfl
      obtain ⟨P, hP⟩ : ∃ P, P = ABlk.cells false (bagV k (roL valC l)) :: .cells false (vecC known) :: .cells false [I a, I c] :: .cells false (bagV zeroV .nilsl) :: .cells false (bagV (withV (joinV k known) a c) v) :: (X ++ [ABlk.cells false (valC l[i])]) := ⟨_, rfl⟩
      have hrP : Row 5 P 3 valC (keptL known (l.take i)) v := by
        have := hr.app (X := [ABlk.cells false (valC l[i])])
        rw [hP]; simpa using this
      have fz := hrP.frz (d := 10) valC_len val_flat
      obtain ⟨v1, X1, t1, r1⟩ := thaw_owL (H := P) (lim := 5) (es := 3) val_still (by rw [hP]; simp) (keptL known (l.take (i + 1)))
      have k48i := fun K => k48v (l := keptL known (l.take i)) (v := l[i]) (by omega) (H := P) (K := K)
      rw [hins, t1] at k48i
      simp only [hP] at fz k48i r1
      simp [lp62_0, hi, hw, idxSl_roL hi, hld, hh, fz, k48i, r1.cells, r1.one, -load_tp]
      refine nxt hJ (m - 1) (by omega) ⟨i + 1, X ++ ABlk.cells false (valC l[i]) :: X1, v1, by omega, rfl, ?_, rfl⟩
      simpa using r1.set (b := 4) (z := .cells false (bagV (withV (joinV k known) a c) v1)) (r1.off (by omega))
    · simp [lp62_0, hi, hw, idxSl_roL hi, hld, hh, -load_tp]
      refine nxt hJ (m - 1) (by omega) ⟨i + 1, _, v, by omega, rfl, ?_, rfl⟩
      rw [hstep, hh]
      simpa using hr.app (X := [.cells false (valC l[i])])
  · have hT : keptL known (l.take i) = keptL known l := by rw [List.take_of_length_le (by omega)]
    rw [hT] at hr
    have hlen : (keptL known l).length ≤ l.length := List.length_filter_le _ _
    have fz := hr.frz (d := 10) valC_len val_flat
    have hput : insV (keptL known l) ⟨a, c, data⟩ = putL l known a c data := rfl
    obtain ⟨P, hP⟩ : ∃ P, P = ABlk.cells false (bagV k (roL valC l)) :: .cells false (vecC known) :: .cells false [I a, I c] :: .cells false (bagV zeroV .nilsl) :: .cells false (bagV (withV (joinV k known) a c) v) :: X := ⟨_, rfl⟩
    obtain ⟨v1, X1, t1, r1⟩ := thaw_owL (H := P) (lim := 5) (es := 3) val_still (by rw [hP]; simp) (putL l known a c data)
    have k48i := fun K => k103 (l := keptL known l) (a := a) (c := c) (data := data) (by omega) (H := P) (K := K)
    rw [hput, t1] at k48i
    simp only [hP] at k48i r1
    by_cases h32 : 32 < (putL l known a c data).length
    · have h32' : (32 : Int) < (putL l known a c data).length := by omega
      simp [lp62_0, hi, fz, k48i, r1.len, r1.cells, r1.one, h32, h32', putE, putK, putR, hm, owL]
    · have h32' : ¬ (32 : Int) < (putL l known a c data).length := by omega
      obtain ⟨u, hu, hn, _⟩ := ((r1.set (b := 4) (z := .cells false (bagV (withV (joinV k known) a c) v1)) (r1.off (by omega))).set (b := 3) (z := .cells false (bagV (withV (joinV k known) a c) v1)) (r1.off (by omega))).own (d := 8) valC_len (by omega) val_plain
      simp at hu
      simp [lp62_0, hi, fz, k48i, r1.len, r1.cells, r1.one, h32, h32', putE, putK, putR, hm, hu, hn]
theorem k62g {k known : Nat → Int} {l : List Val} {a c : Int} {data : List UInt8} {H : Heap} {K : AV → Heap → Prop} (hl : l.length < 4398046511104) : wPu envE 62 (some [.agg (bagV k (roL valC l)), .agg (vecC known), .agg [I a, I c], .str data]) H K = K (.tup [.agg (bagV (putK k l known a c data) (thaw (owL 3 valC (putR k l known a c data)) H).1), I (putE k l known a c data)]) (thaw (owL 3 valC (putR k l known a c data)) H).2 := (wPu_eq (c62 k l known a c data hl)).trans (by simp)
end Go.Proofs.YtflgfiieaoeknaaGreatA

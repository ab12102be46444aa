/- 'starlinglaw14.BagPuts' returns true for every bag, every vector, every dot and every text, and what it is handed reads behind it as it read before: what is put is there; what the writer knew of is gone; what it did not know of stays; the same dot is not put twice. Without further conditions. -/
import Derived.Test.YtkmikfhfjjmobaaRows
import Derived.Test.YtkmikfhfjjmobaaP0
import Derived.WalkKit
import Derived.ProofKit
import Derived.ChangeOld
namespace Go.Proofs.YtkmikfhfjjmobaaA
open Go
set_option linter.unusedSimpArgs false
set_option maxRecDepth 1000000
attribute [local simp] bagV_zero vec_zero

theorem vecEq_zero : vecEq zeroV zeroV = true := rfl
theorem any_take {α : Type} {p : α → Bool} {l : List α} {i : Nat} (hi : i < l.length) : (l.take (i + 1)).any p = ((l.take i).any p || p l[i]) := by
  rw [List.take_succ_eq_append_getElem hi, List.any_append]
  simp
set_option maxHeartbeats 8000000 in
theorem bagPuts_pu (k known : Nat → Int) (l : List Val) (a c : Int) (data : List UInt8) (hl0 : l.length ≤ 4398046511104) : Pu envE 3 [.agg (bagV k (roL valC l)), .agg (vecC known), .agg [I a, I c], .str data] (.bool true) := by
  refine pu_is e3 rfl ?_
  rw [fr_init (by simp [fd3])]
  have hl : l.length < 4611686018427387904 := by omega
  obtain ⟨n, hh⟩ := heavy15 k l hl
  by_cases hn : 0 < n
  · simp [fd3, b3, frz_sl, wPu_eq hh, hn]
  by_cases h300 : (300 : Int) < data.length
  · simp [fd3, b3, frz_sl, wPu_eq hh, hn, h300]
  obtain ⟨v, X0, e0, r0⟩ := thaw_owL (H := [.cells false (bagV k (roL valC l)), .cells false (vecC known), .cells false [I a, I c], .cells true (bagV k (roL valC l))]) (lim := 0) (es := 3) val_still (by simp) (putR k l known a c data)
  rcases putE_cases (k := k) (known := known) (l := l) (a := a) (c := c) (data := data) with ⟨h1, hE⟩ | ⟨h1, _, hE⟩ | ⟨h1, h2, hE⟩
  · have hR : putR k l known a c data = [] := by simp [putR, hE]
    have hK : putK k l known a c data = zeroV := by simp [putK, hE]
    rw [hR] at e0
    simp [owL] at e0
    obtain ⟨rfl, rfl⟩ := e0
    have hno := h1
    rw [Bool.eq_false_iff, Ne, putMay_iff] at hno
    by_cases m1 : bagMay k l = true
    case neg => simp [fd3, b3, frz_sl, wPu_eq hh, hn, h300, k17 hl, hE, hK, hR, owL, vecEq_zero, hl, m1]
    by_cases m2 : vecMay known = true
    case neg => simp [fd3, b3, frz_sl, wPu_eq hh, hn, h300, k17 hl, hE, hK, hR, owL, vecEq_zero, hl, m1, m2]
    by_cases m3 : nodeOk a = true
    case neg => simp [fd3, b3, frz_sl, wPu_eq hh, hn, h300, k17 hl, hE, hK, hR, owL, vecEq_zero, hl, m1, m2, m3]
    by_cases m4 : c < 1
    case pos => simp [fd3, b3, frz_sl, wPu_eq hh, hn, h300, k17 hl, hE, hK, hR, owL, vecEq_zero, hl, m1, m2, m3, m4]
    by_cases m5 : 1000000 < c
    case pos => simp [fd3, b3, frz_sl, wPu_eq hh, hn, h300, k17 hl, hE, hK, hR, owL, vecEq_zero, hl, m1, m2, m3, m4, m5]
    by_cases m6 : has k a c = true
    case pos => simp [fd3, b3, frz_sl, wPu_eq hh, hn, h300, k17 hl, hE, hK, hR, owL, vecEq_zero, hl, m1, m2, m3, m4, m5, m6]
    have m7 : (64 : Int) < data.length := by
      rcases Int.lt_or_le 64 data.length with q | q
      · exact q
      · exact absurd ⟨m1, m2, by simp [dotOk, m3]; omega, by simpa using m6, by omega⟩ hno
    simp [fd3, b3, frz_sl, wPu_eq hh, hn, h300, k17 hl, hE, hK, hR, owL, vecEq_zero, hl, m1, m2, m3, m4, m5, m6, m7]
  · have hR : putR k l known a c data = [] := by simp [putR, hE]
    have hK : putK k l known a c data = zeroV := by simp [putK, hE]
    rw [hR] at e0
    simp [owL] at e0
    obtain ⟨rfl, rfl⟩ := e0
    simp [fd3, b3, frz_sl, wPu_eq hh, hn, h300, k17 hl, hE, hK, hR, owL, vecEq_zero, hl]
  obtain ⟨_, hK, hR, hM⟩ := put_ok hE
  have hag := put_again hE
  have hhas : has (putK k l known a c data) a c = true := by rw [hK]; exact withV_has (putMay_iff.1 h1).2.2.1
  have hbel : belowV known (putK k l known a c data) = true := by
    rw [hK, belowV_iff]
    exact fun i hi => Int.le_trans joinV_le.2 withV_le
  have hmem : ∀ u, u ∈ l → (u ∈ putR k l known a c data ↔ has known u.node u.n = false) := fun u hu => by rw [hR]; exact put_mem h1 hu
  have hnew : (⟨a, c, data⟩ : Val) ∈ putR k l known a c data := by rw [hR]; exact mem_insV.2 (.inl rfl)
  have hcnt : (putR k l known a c data).length = (keptL known l).length + 1 := by rw [hR]; exact insV_len
  have hRl : (putR k l known a c data).length ≤ 32 := by rw [hR]; exact h2
  obtain ⟨K, hKK⟩ : ∃ K, K = putK k l known a c data := ⟨_, rfl⟩
  obtain ⟨R, hRR⟩ : ∃ R, R = putR k l known a c data := ⟨_, rfl⟩
  simp [fd3, b3, frz_sl, wPu_eq hh, hn, h300, k17 hl, hE, e0, r0.cells, r0.one]
  rw [← hRR] at r0 hmem hnew hcnt hRl hM hag
  rw [← hKK] at hhas hbel hM hag
  rw [← hKK]
  have hRl2 : R.length < 4611686018427387904 := by omega
  have r1 : ∀ Y, Row 0 (.cells false (bagV k (roL valC l)) :: .cells false (vecC known) :: .cells false [I a, I c] :: .cells true (bagV k (roL valC l)) :: (X0 ++ Y)) 3 valC R v := fun Y => r0.app (X := Y)
  have kl : ∀ i, (keptL known (l.take i)).length ≤ l.length := fun i => filter_len_le
  refine loop_go [3, 5, 6, 9, 11, 97, 98, 99] rfl (fun m vs H => ∃ i Y, m + i = l.length ∧ H = .cells false (bagV k (roL valC l)) :: .cells false (vecC known) :: .cells false [I a, I c] :: .cells true (bagV k (roL valC l)) :: (X0 ++ .cells false (bagV K v) :: Y) ∧ vs = [.str data, .ptr (some (1, 0)), .ptr (some (2, 0)), .ptr (some (X0.length + 1 + 1 + 1 + 1, 0)), I ((keptL known (l.take i)).length + 1 : Nat), roL valC l, I l.length, I i]) ?_ l.length ⟨0, [], rfl, rfl, by simp [look, keptL]⟩
  rintro J hJ m vs H b ⟨i, Y, hm, rfl, rfl⟩
  by_cases hi : i < l.length
  · have hw := wrap_succ (i := i) (by omega)
    have hld := valC_load hi (H := .cells false (bagV k (roL valC l)) :: .cells false (vecC known) :: .cells false [I a, I c] :: .cells true (bagV k (roL valC l)) :: (X0 ++ .cells false (bagV K v) :: Y))
    simp [lp3_0, hi, idxSl_roL hi, hld, r0.len, -load_tp]
    obtain ⟨o, ho⟩ : ∃ o, o = (X0 ++ .cells false (bagV K v) :: Y).length + 1 + 1 + 1 + 1 := ⟨_, rfl⟩
    have hco : ∀ Z, Heap.cells? (.cells false (bagV k (roL valC l)) :: .cells false (vecC known) :: .cells false [I a, I c] :: .cells true (bagV k (roL valC l)) :: (X0 ++ .cells false (bagV K v) :: (Y ++ .cells false (valC l[i]) :: Z))) o = some (valC l[i]) := fun Z => by
      subst ho
      simp
    refine loop_go [3, 5, 6, 9, 11, 13, 14, 97, 98, 99, 104, 105, 106] rfl (fun m vs H => ∃ j Z, m + j = R.length ∧ H = .cells false (bagV k (roL valC l)) :: .cells false (vecC known) :: .cells false [I a, I c] :: .cells true (bagV k (roL valC l)) :: (X0 ++ .cells false (bagV K v) :: (Y ++ .cells false (valC l[i]) :: Z)) ∧ vs = [.str data, .ptr (some (1, 0)), .ptr (some (2, 0)), .ptr (some (X0.length + 1 + 1 + 1 + 1, 0)), I ((keptL known (l.take i)).length + 1 : Nat), .ptr (some (o, 0)), .bool ((R.take j).any fun u => decide (u = l[i])), roL valC l, I l.length, I i, v, I R.length, I j]) ?_ R.length ⟨0, [], rfl, rfl, by simp [look, ho]⟩
    rintro J2 hJ2 m2 vs H b ⟨j, Z, hm2, rfl, rfl⟩
    by_cases hj : j < R.length
    · have hwj := wrap_succ (i := j) (by omega)
      have hat := r0.at (k := .i64) hj
      have hld2 := (r1 (.cells false (bagV K v) :: (Y ++ .cells false (valC l[i]) :: Z))).load valC_len hj
      have hco2 := hco (Z ++ [.cells false (valC R[j])])
      cases hacc : (R.take j).any fun u => decide (u = l[i])
      · simp [lp3_1, hj, hat, hld2, hwj, hco2]
        refine nxt hJ2 (m2 - 1) (by omega) ⟨j + 1, Z ++ [.cells false (valC R[j])], by omega, by simp, ?_⟩
        rw [any_take hj, hacc]
        simp [look]
      · simp [lp3_1, hj, hat, hld2, hwj]
        refine nxt hJ2 (m2 - 1) (by omega) ⟨j + 1, Z ++ [.cells false (valC R[j])], by omega, by simp, ?_⟩
        rw [any_take hj, hacc]
        simp [look]
    · have hacc : ((R.take j).any fun u => decide (u = l[i])) = !has known l[i].node l[i].n := by
        rw [List.take_of_length_le (by omega)]
        have := hmem l[i] (List.getElem_mem _)
        cases hk : has known l[i].node l[i].n
        · rw [hk] at this
          simp only [Bool.not_false, List.any_eq_true, decide_eq_true_eq]
          exact ⟨_, this.2 rfl, rfl⟩
        · rw [hk] at this
          simp only [Bool.not_true, List.any_eq_false, decide_eq_true_eq]
          rintro u hu rfl
          exact absurd (this.1 hu) (by simp)
      rw [hacc]
      have hstep : keptL known (l.take (i + 1)) = keptL known (l.take i) ++ if (!has known l[i].node l[i].n) = true then [l[i]] else [] := filter_take_succ hi
      have hki := kl i
      have hw3 := wrap_succ (i := (keptL known (l.take i)).length + 1) (by omega)
      cases hk : has known l[i].node l[i].n
      · have hw4 : IntKind.i64.wrap (((keptL known (l.take i)).length : Int) + 1 + 1) = (keptL known (l.take i)).length + 1 + 1 := by simpa using hw3
        simp [lp3_1, hj, hco Z, hk, hw, hw4]
        refine nxt hJ (m - 1) (by omega) ⟨i + 1, _, by omega, rfl, ?_⟩
        rw [hstep, hk]
        simp [look]
      · simp [lp3_1, hj, hco Z, hk, hw]
        refine nxt hJ (m - 1) (by omega) ⟨i + 1, _, by omega, rfl, ?_⟩
        rw [hstep, hk]
        simp [look]
  · have hT : keptL known (l.take i) = keptL known l := by rw [List.take_of_length_le (by omega)]
    simp [lp3_0, hi, hT, r0.len]
    refine loop_go [3, 5, 6, 9, 11, 17, 128, 129, 130] rfl (fun m vs H => ∃ j Y, m + j = R.length ∧ H = .cells false (bagV k (roL valC l)) :: .cells false (vecC known) :: .cells false [I a, I c] :: .cells true (bagV k (roL valC l)) :: (X0 ++ .cells false (bagV K v) :: Y) ∧ vs = [.str data, .ptr (some (1, 0)), .ptr (some (2, 0)), .ptr (some (X0.length + 1 + 1 + 1 + 1, 0)), I ((keptL known l).length + 1 : Nat), .bool ((R.take j).any fun u => decide (u = ⟨a, c, data⟩)), v, I R.length, I j]) ?_ R.length ⟨0, Y, rfl, rfl, by simp [look]⟩
    rintro J4 hJ4 m4 vs H b ⟨j, Y, hm4, rfl, rfl⟩
    by_cases hj : j < R.length
    · have hwj := wrap_succ (i := j) (by omega)
      have hat := r0.at (k := .i64) hj
      have hld2 := (r1 (.cells false (bagV K v) :: Y)).load valC_len hj
      have hq : eqRow [.i, .i, .s] (valC R[j]) [I a, I c, .str data] = some (decide (R[j] = ⟨a, c, data⟩)) := val_eq (b := ⟨a, c, data⟩)
      cases hacc : (R.take j).any fun u => decide (u = (⟨a, c, data⟩ : Val))
      · simp [lp3_2, hj, hat, hld2, hwj, hq]
        refine nxt hJ4 (m4 - 1) (by omega) ⟨j + 1, _, by omega, rfl, ?_⟩
        rw [any_take hj, hacc]
        simp [look]
      · simp [lp3_2, hj, hat, hld2, hwj]
        refine nxt hJ4 (m4 - 1) (by omega) ⟨j + 1, _, by omega, rfl, ?_⟩
        rw [any_take hj, hacc]
        simp [look]
    · have hacc : ((R.take j).any fun u => decide (u = (⟨a, c, data⟩ : Val))) = true := by
        rw [List.take_of_length_le (by omega)]
        simp only [List.any_eq_true, decide_eq_true_eq]
        exact ⟨_, hnew, rfl⟩
      rw [hacc]
      have fz := (r1 (.cells false (bagV K v) :: Y)).frz (d := 9) valC_len val_flat
      have fz2 : ∀ q, frz (.cells false (bagV k (roL valC l)) :: .cells false (vecC known) :: .cells false [I a, I c] :: .cells true (bagV k (roL valC l)) :: (X0 ++ .cells false (bagV K v) :: (Y ++ [q]))) 11 v = some (roL valC R) := fun q => (r1 (.cells false (bagV K v) :: (Y ++ [q]))).frz (d := 9) valC_len val_flat
      have hK2 : putK K R known a c data = zeroV := by simp [putK, hag]
      have hR2 : putR K R known a c data = [] := by simp [putR, hag]
      have hc2 : ((keptL known l).length : Int) + 1 = R.length := by omega
      simp [lp3_2, hj, r0.len, fz, fz2, k17 hRl2, hag, hK2, hR2, owL, hc2, hRl2, hM, hhas, hbel]
theorem bagPuts_law (cs : List AV) (h : FitsArgs [(true, shBag), (true, shVec), (true, .cat [iS, iS]), (false, .str)] cs) : ∃ n H', callF envE (exec envE n) 3 cs 0 [] = some (.bool true, H') := by
  obtain ⟨r, rest, rfl, h1, t⟩ := fa_row h
  obtain ⟨r, rest, rfl, h2, t⟩ := fa_row t
  obtain ⟨r, rest, rfl, h3, t⟩ := fa_row t
  obtain ⟨r, rest, rfl, h4, t⟩ := fa_one t
  cases fa_nil t
  obtain ⟨b, rfl, _, hb⟩ := of_bag h1
  obtain ⟨k, rfl⟩ := of_vec h2
  obtain ⟨a, r1, rfl, h5⟩ := of_cat_int h3
  obtain ⟨c, r2, rfl, h6⟩ := of_cat_int h5
  cases fits_nil h6
  obtain ⟨s, e, _⟩ := fits_str h4
  cases e
  exact law_of (bagPuts_pu b.known k b.vals a c s (reach_val hb)) (by simp)
end Go.Proofs.YtkmikfhfjjmobaaA

namespace Go.Proofs.Ytkmikfhfjjmobaa.bagPuts
open Go.ChangeShapes Go.WideShapes Go.ChangeAt Go.RowKit
set_option linter.unusedVariables false
theorem own : ownKnob Try.prog.godebug = none := by kernel_rfl
set_option maxRecDepth 1000000 in
theorem lifted (os : Os) (started : os.Started) (H : Type) (enc : TypeId × Value → H) :
    ReturnsInHanded {} Try.checked os 3 .any (Rows.bagPutsSpec.pre6 enc Try.prog Try.f3 Rows.bagPutsRow.domain false) (Rows.bagPutsSpec.post enc Try.prog Try.f3 false true false false) :=
  YtkmikfhfjjmobaaA.law_lifted (C := Try.checked) YtkmikfhfjjmobaaA.env_good (fd := YtkmikfhfjjmobaaA.fd3) (tb := 4) rfl own started (by kernel_rfl) Try.func3
    (ChangeSpec.witness6 (enc := enc) (C := Try.checked) false ⟨#[], #[((Try.prog.info? 26).bind (·.zero)).getD .nilFunc, ((Try.prog.info? 23).bind (·.zero)).getD .nilFunc, ((Try.prog.info? 28).bind (·.zero)).getD .nilFunc, ((Try.prog.info? 9).bind (·.zero)).getD .nilFunc], []⟩ 8 (by kernel_rfl) (by kernel_rfl) (by kernel_rfl) (by kernel_rfl))
    (by kernel_rfl) (by decide +kernel) (by kernel_rfl) rfl (by kernel_rfl) (by kernel_rfl) (fun ds h => by
      match ds, h with
      | [d0, d1, d2, d3], _ => rfl) YtkmikfhfjjmobaaA.bagPuts_law
theorem over : Rows.bagPutsRow.holds Try.pinned (OpenSpec.ofChange Rows.bagPutsSpec) :=
  OpenClaim.holds_of_wide 3 Try.f3 rfl rfl rfl rfl rfl rfl rfl ⟨rfl, rfl, rfl, rfl, rfl⟩ rfl rfl rfl rfl rfl (by kernel_rfl) Try.func3 (by kernel_rfl)
    (of_decide_eq_true (by kernel_rfl)) (by unfold Func.isWrapper; first | (rw [if_pos (by decide +kernel)]; kernel_rfl) | (rw [if_neg (by decide +kernel)]; exact ⟨rfl, rfl⟩))
    (fun os started H enc _ => lifted os started H enc)
end Go.Proofs.Ytkmikfhfjjmobaa.bagPuts
namespace Go.Proofs.Ytkmikfhfjjmobaa
/-- The row, under a short name, for the claim. -/
theorem bagPuts_holds : Rows.BagPutsSaid := bagPuts.over
#print axioms bagPuts_holds
end Go.Proofs.Ytkmikfhfjjmobaa


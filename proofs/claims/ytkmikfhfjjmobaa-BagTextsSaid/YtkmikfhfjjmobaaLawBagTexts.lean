/- 'starlinglaw14.BagTexts' returns true for every bag, and the bag reads behind it as it read before: the texts are those of the values, each once. Without further conditions. -/
import Derived.Test.YtkmikfhfjjmobaaRows
import Derived.Test.YtkmikfhfjjmobaaD0
import Derived.WalkKit
import Derived.ProofKit
import Derived.ChangeOld
namespace Go.Proofs.YtkmikfhfjjmobaaA
open Go
set_option linter.unusedSimpArgs false
set_option maxRecDepth 1000000
attribute [local simp] bagV_zero

theorem texts_mem : ∀ {l : List Val} {t : List (List UInt8)} {s : List UInt8}, s ∈ l.foldl addText t ↔ s ∈ t ∨ ∃ v ∈ l, v.data = s
  | [], t, s => by simp
  | v :: l, t, s => by
    rw [List.foldl_cons, texts_mem]
    unfold addText
    split
    · rename_i h
      constructor
      · rintro (q | ⟨u, q1, q2⟩)
        · exact .inl q
        · exact .inr ⟨u, .tail _ q1, q2⟩
      · rintro (q | ⟨u, q1, q2⟩)
        · exact .inl q
        · rcases List.mem_cons.1 q1 with rfl | q1
          · exact .inl (q2 ▸ h)
          · exact .inr ⟨u, q1, q2⟩
    · constructor
      · rintro (q | ⟨u, q1, q2⟩)
        · rcases List.mem_append.1 q with q | q
          · exact .inl q
          · exact .inr ⟨v, .head _, (List.mem_singleton.1 q).symm⟩
        · exact .inr ⟨u, .tail _ q1, q2⟩
      · rintro (q | ⟨u, q1, q2⟩)
        · exact .inl (List.mem_append_left _ q)
        · rcases List.mem_cons.1 q1 with rfl | q1
          · exact .inl (List.mem_append_right _ (by simp [q2]))
          · exact .inr ⟨u, q1, q2⟩
theorem texts_nodup : ∀ {l : List Val} {t : List (List UInt8)}, t.Nodup → (l.foldl addText t).Nodup
  | [], t, h => h
  | v :: l, t, h => by
    refine texts_nodup (l := l) ?_
    unfold addText
    split
    · exact h
    · rename_i q
      rw [List.nodup_append]
      exact ⟨h, by simp, by
        rintro a ha b hb rfl
        rw [List.mem_singleton.1 hb] at ha
        exact q ha⟩

/-- The way to the end of a sum of tests. -/
theorem any_take {α : Type} {p : α → Bool} {l : List α} {i : Nat} (hi : i < l.length) : (l.take (i + 1)).any p = ((l.take i).any p || p l[i]) := by
  rw [List.take_succ_eq_append_getElem hi, List.any_append]
  simp

theorem bagTexts_pu (k : Nat → Int) (l : List Val) (hl : l.length ≤ 4398046511104) : Pu envE 8 [.agg (bagV k (roL valC l))] (.bool true) := by
  refine pu_is e8 rfl ?_
  rw [fr_init (by simp [fd8])]
  have hl2 : l.length < 4611686018427387904 := by omega
  obtain ⟨n, hh⟩ := heavy15 k l hl2
  by_cases hn : 0 < n
  · simp [fd8, b8, frz_sl, wPu_eq hh, hn]
  obtain ⟨v, X0, e0, r0⟩ := thaw_owL (H := [.cells false (bagV k (roL valC l)), .cells true (bagV k (roL valC l))]) (lim := 0) (es := 1) str_still (by simp) (textsL l)
  simp [fd8, b8, frz_sl, wPu_eq hh, hn, k43 hl, e0, r0.len]
  obtain ⟨T, hT⟩ : ∃ T, T = textsL l := ⟨_, rfl⟩
  have hTm : ∀ s, s ∈ T ↔ ∃ u ∈ l, u.data = s := fun s => by
    rw [hT]
    have := texts_mem (l := l) (t := []) (s := s)
    simpa [textsL] using this
  have hTn : T.Nodup := by rw [hT]; exact texts_nodup (by simp)
  have hTl : T.length ≤ l.length := by
    rw [hT]
    simpa [textsL] using texts_len (l := l) (t := [])
  rw [← hT] at r0 ⊢
  have r1 : ∀ Y, Row 0 (.cells false (bagV k (roL valC l)) :: .cells true (bagV k (roL valC l)) :: (X0 ++ Y)) 1 strC T v := fun Y => r0.app (X := Y)
  refine loop_go [1, 3, 23, 24, 25] rfl (fun m vs H => ∃ i Y, m + i = T.length ∧ H = .cells false (bagV k (roL valC l)) :: .cells true (bagV k (roL valC l)) :: (X0 ++ Y) ∧ vs = [.ptr (some (0, 0)), v, v, I T.length, I i]) ?_ T.length ⟨0, [], rfl, by simp, rfl⟩
  rintro J hJ m vs H b ⟨i, Y, hm, rfl, rfl⟩
  by_cases hi : i < T.length
  · have hw := wrap_succ (i := i) (by omega)
    have hat := r0.at (k := .i64) hi
    have hld := (r1 Y).load1 (fun _ => rfl) hi
    obtain ⟨g1, g2, g3⟩ := r0.sub (k := .i64) (Nat.le_of_lt hi)
    simp [lp8_0, hi, hat, hld, g1, g2]
    refine loop_go [1, 3, 5, 23, 24, 25, 32, 33, 34] rfl (fun m vs H => ∃ j, m + j = i ∧ H = .cells false (bagV k (roL valC l)) :: .cells true (bagV k (roL valC l)) :: (X0 ++ Y) ∧ vs = [.ptr (some (0, 0)), v, .str T[i], v, I T.length, I i, subAt v i, I i, I j]) ?_ i ⟨0, rfl, rfl, rfl⟩
    rintro J2 hJ2 m2 vs H b ⟨j, hm2, rfl, rfl⟩
    by_cases hj : j < i
    · have hwj := wrap_succ (i := j) (by omega)
      have hjl : j < T.length := by omega
      have hld2 := (r1 Y).load1 (fun _ => rfl) hjl
      have hne : ¬ T[i] = T[j] := fun e => (List.pairwise_iff_getElem.1 hTn) j i hjl hi hj e.symm
      simp [lp8_1, hj, g3 j .i64 hj, hld2, hne, hwj]
      exact nxt hJ2 (m2 - 1) (by omega) ⟨j + 1, by omega, rfl, rfl⟩
    · simp [lp8_1, hj]
      refine loop_go [1, 3, 5, 8, 23, 24, 25, 43, 44, 45] rfl (fun m vs H => ∃ j Y2, m + j = l.length ∧ H = .cells false (bagV k (roL valC l)) :: .cells true (bagV k (roL valC l)) :: (X0 ++ Y2) ∧ vs = [.ptr (some (0, 0)), v, .str T[i], .bool ((l.take j).any fun u => decide (u.data = T[i])), v, I T.length, I i, roL valC l, I l.length, I j]) ?_ l.length ⟨0, Y, rfl, rfl, by simp [look]⟩
      rintro J3 hJ3 m3 vs H b ⟨j, Y2, hm3, rfl, rfl⟩
      by_cases hj : j < l.length
      · have hwj := wrap_succ (i := j) (by omega)
        have hld3 := valC_load hj (H := .cells false (bagV k (roL valC l)) :: .cells true (bagV k (roL valC l)) :: (X0 ++ Y2))
        cases hacc : (l.take j).any fun u => decide (u.data = T[i])
        · by_cases hd : l[j].data = T[i]
          · simp [lp8_2, hj, idxSl_roL hj, hld3, hwj, hd, -load_tp]
            refine nxt hJ3 (m3 - 1) (by omega) ⟨j + 1, _, by omega, rfl, ?_⟩
            rw [any_take hj, hacc]
            simp [look, hd]
          · simp [lp8_2, hj, idxSl_roL hj, hld3, hwj, hd, -load_tp]
            refine nxt hJ3 (m3 - 1) (by omega) ⟨j + 1, _, by omega, rfl, ?_⟩
            rw [any_take hj, hacc]
            simp [look, hd]
        · simp [lp8_2, hj, idxSl_roL hj, hld3, hwj, -load_tp]
          refine nxt hJ3 (m3 - 1) (by omega) ⟨j + 1, _, by omega, rfl, ?_⟩
          rw [any_take hj, hacc]
          simp [look]
      · have hacc : ((l.take j).any fun u => decide (u.data = T[i])) = true := by
          rw [List.take_of_length_le (by omega)]
          obtain ⟨u, hu, e⟩ := (hTm T[i]).1 (List.getElem_mem _)
          simp only [List.any_eq_true, decide_eq_true_eq]
          exact ⟨u, hu, e⟩
        rw [hacc]
        simp [lp8_2, hj, hw]
        exact nxt hJ (m - 1) (by omega) ⟨i + 1, Y2, by omega, rfl, rfl⟩
  · simp [lp8_0, hi]
    refine loop_go [1, 3, 61, 62, 63] rfl (fun m vs H => ∃ i Y, m + i = l.length ∧ H = .cells false (bagV k (roL valC l)) :: .cells true (bagV k (roL valC l)) :: (X0 ++ Y) ∧ vs = [.ptr (some (0, 0)), v, roL valC l, I l.length, I i]) ?_ l.length ⟨0, Y, rfl, rfl, rfl⟩
    rintro J4 hJ4 m4 vs H b ⟨i, Y, hm4, rfl, rfl⟩
    by_cases hi : i < l.length
    · have hw := wrap_succ (i := i) (by omega)
      have hld := valC_load hi (H := .cells false (bagV k (roL valC l)) :: .cells true (bagV k (roL valC l)) :: (X0 ++ Y))
      simp [lp8_3, hi, idxSl_roL hi, hld, r0.len, -load_tp]
      refine loop_go [1, 3, 12, 13, 61, 62, 63, 67, 68, 69] rfl (fun m vs H => ∃ j, m + j = T.length ∧ H = .cells false (bagV k (roL valC l)) :: .cells true (bagV k (roL valC l)) :: (X0 ++ (Y ++ [.cells false (valC l[i])])) ∧ vs = [.ptr (some (0, 0)), v, .ptr (some ((X0 ++ Y).length + 1 + 1, 0)), .bool ((T.take j).any fun s => decide (s = l[i].data)), roL valC l, I l.length, I i, v, I T.length, I j]) ?_ T.length ⟨0, rfl, rfl, by simp [look]⟩
      rintro J5 hJ5 m5 vs H b ⟨j, hm5, rfl, rfl⟩
      by_cases hj : j < T.length
      · have hwj := wrap_succ (i := j) (by omega)
        have hat := r0.at (k := .i64) hj
        have hld5 := (r1 (Y ++ [.cells false (valC l[i])])).load1 (fun _ => rfl) hj
        cases hacc : (T.take j).any fun s => decide (s = l[i].data)
        · by_cases hd : T[j] = l[i].data
          · simp [lp8_4, hj, hat, hld5, hwj, hd]
            refine nxt hJ5 (m5 - 1) (by omega) ⟨j + 1, by omega, rfl, ?_⟩
            rw [any_take hj, hacc]
            simp [look, hd]
          · simp [lp8_4, hj, hat, hld5, hwj, hd]
            refine nxt hJ5 (m5 - 1) (by omega) ⟨j + 1, by omega, rfl, ?_⟩
            rw [any_take hj, hacc]
            simp [look, hd]
        · simp [lp8_4, hj, hat, hld5, hwj]
          refine nxt hJ5 (m5 - 1) (by omega) ⟨j + 1, by omega, rfl, ?_⟩
          rw [any_take hj, hacc]
          simp [look]
      · have hacc : ((T.take j).any fun s => decide (s = l[i].data)) = true := by
          rw [List.take_of_length_le (by omega)]
          simp only [List.any_eq_true, decide_eq_true_eq]
          exact ⟨l[i].data, (hTm _).2 ⟨l[i], List.getElem_mem _, rfl⟩, rfl⟩
        rw [hacc]
        simp [lp8_4, hj, hw]
        exact nxt hJ4 (m4 - 1) (by omega) ⟨i + 1, _, by omega, rfl, rfl⟩
    · have hle : (T.length : Int) ≤ l.length := by omega
      simp [lp8_3, hi, r0.len, hle]
theorem bagTexts_law (cs : List AV) (h : FitsArgs [(true, shBag)] cs) : ∃ n H', callF envE (exec envE n) 8 cs 0 [] = some (.bool true, H') := by
  obtain ⟨r, rest, rfl, h1, t⟩ := fa_row h
  cases fa_nil t
  obtain ⟨b, rfl, _, hb⟩ := of_bag h1
  exact law_of (bagTexts_pu b.known b.vals (reach_val hb)) (by simp)
end Go.Proofs.YtkmikfhfjjmobaaA

namespace Go.Proofs.Ytkmikfhfjjmobaa.bagTexts
open Go.ChangeShapes Go.WideShapes Go.ChangeAt Go.RowKit
set_option linter.unusedVariables false
theorem own : ownKnob Try.prog.godebug = none := by kernel_rfl
set_option maxRecDepth 1000000 in
theorem lifted (os : Os) (started : os.Started) (H : Type) (enc : TypeId × Value → H) :
    ReturnsInHanded {} Try.checked os 8 .any (Rows.bagTextsSpec.pre6 enc Try.prog Try.f8 Rows.bagTextsRow.domain false) (Rows.bagTextsSpec.post enc Try.prog Try.f8 false true false false) :=
  YtkmikfhfjjmobaaA.law_lifted (C := Try.checked) YtkmikfhfjjmobaaA.env_good (fd := YtkmikfhfjjmobaaA.fd8) (tb := 4) rfl own started (by kernel_rfl) Try.func8
    (ChangeSpec.witness6 (enc := enc) (C := Try.checked) false ⟨#[], #[((Try.prog.info? 26).bind (·.zero)).getD .nilFunc], []⟩ 8 (by kernel_rfl) (by kernel_rfl) (by kernel_rfl) (by kernel_rfl))
    (by kernel_rfl) (by decide +kernel) (by kernel_rfl) rfl (by kernel_rfl) (by kernel_rfl) (fun ds h => by
      match ds, h with
      | [d0], _ => rfl) YtkmikfhfjjmobaaA.bagTexts_law
theorem over : Rows.bagTextsRow.holds Try.pinned (OpenSpec.ofChange Rows.bagTextsSpec) :=
  OpenClaim.holds_of_wide 8 Try.f8 rfl rfl rfl rfl rfl rfl rfl ⟨rfl, rfl, rfl, rfl, rfl⟩ rfl rfl rfl rfl rfl (by kernel_rfl) Try.func8 (by kernel_rfl)
    (of_decide_eq_true (by kernel_rfl)) (by unfold Func.isWrapper; first | (rw [if_pos (by decide +kernel)]; kernel_rfl) | (rw [if_neg (by decide +kernel)]; exact ⟨rfl, rfl⟩))
    (fun os started H enc _ => lifted os started H enc)
end Go.Proofs.Ytkmikfhfjjmobaa.bagTexts
namespace Go.Proofs.Ytkmikfhfjjmobaa
/-- The row, under a short name, for the claim. -/
theorem bagTexts_holds : Rows.BagTextsSaid := bagTexts.over
#print axioms bagTexts_holds
end Go.Proofs.Ytkmikfhfjjmobaa


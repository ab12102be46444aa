/- Whose part a key is. No statement about the program is proved here. -/
import Derived.Test.YtflgfiieaoeknaaL5
namespace Go.Proofs.YtflgfiieaoeknaaA
open Go
set_option linter.unusedSimpArgs false
set_option linter.unusedVariables false
set_option maxRecDepth 1000000

attribute [local simp high] xor_eq mul_eq shr_eq
theorem c20 (s : List UInt8) : Pu envE 20 [.str s] (.bool (keyOk s)) := by
  refine pu_is e20 rfl ?_
  rw [fr_init (by simp [fd20])]
  by_cases h1 : (1 : Int) ≤ s.length
  · have h1' : 1 ≤ s.length := by omega
    by_cases h2 : (s.length : Int) ≤ 32
    · have h2' : s.length ≤ 32 := by omega
      simp [fd20, b20, h1, h2, h1', h2', keyOk]
    · have h2' : ¬ s.length ≤ 32 := by omega
      simp [fd20, b20, h1, h2, h1', h2', keyOk]
  · have h1' : ¬ 1 ≤ s.length := by omega
    simp [fd20, b20, h1, h1', keyOk]
@[simp] theorem k20 {s : List UInt8} {H : Heap} {K : AV → Heap → Prop} : wPu envE 20 (some [.str s]) H K = K (.bool (keyOk s)) H := (wPu_eq (c20 s)).trans (by simp)
theorem c69 (s : List UInt8) : Pu envE 69 [.str s] (.bool (keyOk s)) := by
  refine pu_is e69 rfl ?_
  rw [fr_init (by simp [fd69])]
  by_cases h1 : (1 : Int) ≤ s.length
  · have h1' : 1 ≤ s.length := by omega
    by_cases h2 : (s.length : Int) ≤ 32
    · have h2' : s.length ≤ 32 := by omega
      simp [fd69, b69, h1, h2, h1', h2', keyOk]
    · have h2' : ¬ s.length ≤ 32 := by omega
      simp [fd69, b69, h1, h2, h1', h2', keyOk]
  · have h1' : ¬ 1 ≤ s.length := by omega
    simp [fd69, b69, h1, h1', keyOk]
@[simp] theorem k69 {s : List UInt8} {H : Heap} {K : AV → Heap → Prop} : wPu envE 69 (some [.str s]) H K = K (.bool (keyOk s)) H := (wPu_eq (c69 s)).trans (by simp)
theorem c58 (s : List UInt8) (hl : s.length < 4611686018427387904) : Pu envE 58 [.str s] (.int .u64 (hashF s)) := by
  refine pu_is e58 rfl ?_
  rw [fr_init (by simp [fd58])]
  simp [fd58, b58]
  refine loop_go [0, 3, 6, 7] rfl (fun m vs H => ∃ i, m + i = s.length ∧ i ≤ s.length ∧ vs = [.str s, .int .u64 ((s.take i).foldl hstep 14695981039346656037), I s.length, I i]) ?_ s.length ⟨0, rfl, by omega, rfl⟩
  rintro J hJ m vs H f ⟨i, hm, hi0, rfl⟩
  by_cases hi : i < s.length
  · have hw := wrap_succ (i := i) (by omega)
    have e := fold_take (h := 14695981039346656037) hi
    have hg : s.getD i 0 = s[i] := by rw [List.getD_eq_getElem?_getD, List.getElem?_eq_getElem hi]; rfl
    simp [lp58_0, hi, idxs hi, hg, hw]
    refine nxt hJ (m - 1) (by omega) ⟨i + 1, by omega, by omega, ?_⟩
    rw [e]
    rfl
  · have e : s.take i = s := List.take_of_length_le (by omega)
    rw [e]
    simp [lp58_0, hi]
    rfl
@[simp] theorem k58 {s : List UInt8} {H : Heap} {K : AV → Heap → Prop} (hl : s.length < 4611686018427387904) : wPu envE 58 (some [.str s]) H K = K (.int .u64 (hashF s)) H := (wPu_eq (c58 s hl)).trans (by simp)
theorem c70 (s : List UInt8) (hl : s.length < 4611686018427387904) : Pu envE 70 [.str s] (.int .u64 (hashF s)) := by
  refine pu_is e70 rfl ?_
  rw [fr_init (by simp [fd70])]
  simp [fd70, b70]
  refine loop_go [0, 3, 6, 7] rfl (fun m vs H => ∃ i, m + i = s.length ∧ i ≤ s.length ∧ vs = [.str s, .int .u64 ((s.take i).foldl hstep 14695981039346656037), I s.length, I i]) ?_ s.length ⟨0, rfl, by omega, rfl⟩
  rintro J hJ m vs H f ⟨i, hm, hi0, rfl⟩
  by_cases hi : i < s.length
  · have hw := wrap_succ (i := i) (by omega)
    have e := fold_take (h := 14695981039346656037) hi
    have hg : s.getD i 0 = s[i] := by rw [List.getD_eq_getElem?_getD, List.getElem?_eq_getElem hi]; rfl
    simp [lp70_0, hi, idxs hi, hg, hw]
    refine nxt hJ (m - 1) (by omega) ⟨i + 1, by omega, by omega, ?_⟩
    rw [e]
    rfl
  · have e : s.take i = s := List.take_of_length_le (by omega)
    rw [e]
    simp [lp70_0, hi]
    rfl
@[simp] theorem k70 {s : List UInt8} {H : Heap} {K : AV → Heap → Prop} (hl : s.length < 4611686018427387904) : wPu envE 70 (some [.str s]) H K = K (.int .u64 (hashF s)) H := (wPu_eq (c70 s hl)).trans (by simp)
theorem c23 (s : List UInt8) : Pu envE 23 [.str s] (I (spotF s)) := by
  refine pu_is e23 rfl ?_
  rw [fr_init (by simp [fd23])]
  cases h : keyOk s
  · simp [fd23, b23, h, spotF]
  · have hl : s.length < 4611686018427387904 := by simp [keyOk] at h; omega
    simp [fd23, b23, h, hl, spotF, spot_wrap]
@[simp] theorem k23 {s : List UInt8} {H : Heap} {K : AV → Heap → Prop} : wPu envE 23 (some [.str s]) H K = K (I (spotF s)) H := (wPu_eq (c23 s)).trans (by simp)
theorem c38 (s : List UInt8) : Pu envE 38 [.str s] (I (spotF s)) := by
  refine pu_is e38 rfl ?_
  rw [fr_init (by simp [fd38])]
  cases h : keyOk s
  · simp [fd38, b38, h, spotF]
  · have hl : s.length < 4611686018427387904 := by simp [keyOk] at h; omega
    simp [fd38, b38, h, hl, spotF, spot_wrap]
@[simp] theorem k38 {s : List UInt8} {H : Heap} {K : AV → Heap → Prop} : wPu envE 38 (some [.str s]) H K = K (I (spotF s)) H := (wPu_eq (c38 s)).trans (by simp)
end Go.Proofs.YtflgfiieaoeknaaA

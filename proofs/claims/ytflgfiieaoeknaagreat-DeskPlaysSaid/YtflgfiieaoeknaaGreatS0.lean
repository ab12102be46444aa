/- Whose part a key is. No statement about the program is proved here. -/
import Derived.Test.YtflgfiieaoeknaaGreatL5
namespace Go.Proofs.YtflgfiieaoeknaaGreatA
open Go
set_option linter.unusedSimpArgs false
set_option linter.unusedVariables false
set_option maxRecDepth 1000000

def numOf : Option AV → Int
  | some (.int _ n) => n
  | _ => 0
def xorF (a b : Int) : Int := numOf (binAV .xor (.int .u64 a) (.int .u64 b))
theorem xor_eq (a b : Int) : binAV .xor (.int .u64 a) (.int .u64 b) = some (.int .u64 (xorF a b)) := by simp [xorF, binAV, binInt, numOf]
theorem xor_nn (a b : Int) : 0 ≤ xorF a b := by
  simp only [xorF, binAV, binInt, if_true, numOf, IntKind.wrap, IntKind.signed, IntKind.bits]
  simp
  omega
def mulF (a b : Int) : Int := numOf (binAV .mul (.int .u64 a) (.int .u64 b))
theorem mul_eq (a b : Int) : binAV .mul (.int .u64 a) (.int .u64 b) = some (.int .u64 (mulF a b)) := by simp [mulF, binAV, binInt, numOf]
def shrF (a b : Int) : Int := numOf (binAV .shr (.int .u64 a) (.int .u64 b))
theorem shr_eq (a : Int) : binAV .shr (.int .u64 a) (.int .u64 32) = some (.int .u64 (shrF a 32)) := by simp [shrF, binAV, binInt, numOf]
attribute [local simp high] xor_eq mul_eq shr_eq
def hstep (h : Int) (b : UInt8) : Int := mulF (xorF h (IntKind.u64.wrap (b.toNat : Int))) 1099511628211
def hashF (s : List UInt8) : Int := xorF (s.foldl hstep 14695981039346656037) (shrF (s.foldl hstep 14695981039346656037) 32)
theorem hash_nn (s : List UInt8) : 0 ≤ hashF s := xor_nn _ _
def spotF (s : List UInt8) : Int := if keyOk s then (hashF s).tmod 16 else -1
theorem spot_ok {s : List UInt8} (h : keyOk s = true) : 0 ≤ spotF s ∧ spotF s < 16 := by
  unfold spotF
  rw [if_pos h, Int.tmod_eq_emod_of_nonneg (hash_nn s)]
  omega
theorem spot_no {s : List UInt8} (h : keyOk s = false) : spotF s = -1 := by simp [spotF, h]
theorem spot_wrap {s : List UInt8} : IntKind.i64.wrap ((hashF s).tmod 16) = (hashF s).tmod 16 := by
  have h := hash_nn s
  rw [Int.tmod_eq_emod_of_nonneg h, wrap_i64] <;> omega
theorem fold_take {s : List UInt8} {i : Nat} {h : Int} (hi : i < s.length) : (s.take (i + 1)).foldl hstep h = hstep ((s.take i).foldl hstep h) s[i] := by
  rw [List.take_succ_eq_append_getElem hi, List.foldl_append]
  rfl
theorem c66 (s : List UInt8) : Pu envE 66 [.str s] (.bool (keyOk s)) := by
  refine pu_is e66 rfl ?_
  rw [fr_init (by simp [fd66])]
  by_cases h1 : (1 : Int) ≤ s.length
  · have h1' : 1 ≤ s.length := by omega
    by_cases h2 : (s.length : Int) ≤ 32
    · have h2' : s.length ≤ 32 := by omega
      simp [fd66, b66, h1, h2, h1', h2', keyOk]
    · have h2' : ¬ s.length ≤ 32 := by omega
      simp [fd66, b66, h1, h2, h1', h2', keyOk]
  · have h1' : ¬ 1 ≤ s.length := by omega
    simp [fd66, b66, h1, h1', keyOk]
@[simp] theorem k66 {s : List UInt8} {H : Heap} {K : AV → Heap → Prop} : wPu envE 66 (some [.str s]) H K = K (.bool (keyOk s)) H := (wPu_eq (c66 s)).trans (by simp)
theorem c54 (s : List UInt8) : Pu envE 54 [.str s] (.bool (keyOk s)) := by
  refine pu_is e54 rfl ?_
  rw [fr_init (by simp [fd54])]
  by_cases h1 : (1 : Int) ≤ s.length
  · have h1' : 1 ≤ s.length := by omega
    by_cases h2 : (s.length : Int) ≤ 32
    · have h2' : s.length ≤ 32 := by omega
      simp [fd54, b54, h1, h2, h1', h2', keyOk]
    · have h2' : ¬ s.length ≤ 32 := by omega
      simp [fd54, b54, h1, h2, h1', h2', keyOk]
  · have h1' : ¬ 1 ≤ s.length := by omega
    simp [fd54, b54, h1, h1', keyOk]
@[simp] theorem k54 {s : List UInt8} {H : Heap} {K : AV → Heap → Prop} : wPu envE 54 (some [.str s]) H K = K (.bool (keyOk s)) H := (wPu_eq (c54 s)).trans (by simp)
theorem idxs {s : List UInt8} {i : Nat} (hi : i < s.length) : idx (.int .i64 (i : Int)) s.length = some i := idx_nat hi
theorem c104 (s : List UInt8) (hl : s.length < 4611686018427387904) : Pu envE 104 [.str s] (.int .u64 (hashF s)) := by
  refine pu_is e104 rfl ?_
  rw [fr_init (by simp [fd104])]
  simp [fd104, b104]
  refine loop_go [0, 3, 6, 7] rfl (fun m vs H => ∃ i, m + i = s.length ∧ i ≤ s.length ∧ vs = [.str s, .int .u64 ((s.take i).foldl hstep 14695981039346656037), I s.length, I i]) ?_ s.length ⟨0, rfl, by omega, rfl⟩
  rintro J hJ m vs H f ⟨i, hm, hi0, rfl⟩
  by_cases hi : i < s.length
  · have hw := wrap_succ (i := i) (by omega)
    have e := fold_take (h := 14695981039346656037) hi
    have hg : s.getD i 0 = s[i] := by rw [List.getD_eq_getElem?_getD, List.getElem?_eq_getElem hi]; rfl
    simp [lp104_0, hi, idxs hi, hg, hw]
    refine nxt hJ (m - 1) (by omega) ⟨i + 1, by omega, by omega, ?_⟩
    rw [e]
    rfl
  · have e : s.take i = s := List.take_of_length_le (by omega)
    rw [e]
    simp [lp104_0, hi]
    rfl
@[simp] theorem k104 {s : List UInt8} {H : Heap} {K : AV → Heap → Prop} (hl : s.length < 4611686018427387904) : wPu envE 104 (some [.str s]) H K = K (.int .u64 (hashF s)) H := (wPu_eq (c104 s hl)).trans (by simp)
theorem c74 (s : List UInt8) (hl : s.length < 4611686018427387904) : Pu envE 74 [.str s] (.int .u64 (hashF s)) := by
  refine pu_is e74 rfl ?_
  rw [fr_init (by simp [fd74])]
  simp [fd74, b74]
  refine loop_go [0, 3, 6, 7] rfl (fun m vs H => ∃ i, m + i = s.length ∧ i ≤ s.length ∧ vs = [.str s, .int .u64 ((s.take i).foldl hstep 14695981039346656037), I s.length, I i]) ?_ s.length ⟨0, rfl, by omega, rfl⟩
  rintro J hJ m vs H f ⟨i, hm, hi0, rfl⟩
  by_cases hi : i < s.length
  · have hw := wrap_succ (i := i) (by omega)
    have e := fold_take (h := 14695981039346656037) hi
    have hg : s.getD i 0 = s[i] := by rw [List.getD_eq_getElem?_getD, List.getElem?_eq_getElem hi]; rfl
    simp [lp74_0, hi, idxs hi, hg, hw]
    refine nxt hJ (m - 1) (by omega) ⟨i + 1, by omega, by omega, ?_⟩
    rw [e]
    rfl
  · have e : s.take i = s := List.take_of_length_le (by omega)
    rw [e]
    simp [lp74_0, hi]
    rfl
@[simp] theorem k74 {s : List UInt8} {H : Heap} {K : AV → Heap → Prop} (hl : s.length < 4611686018427387904) : wPu envE 74 (some [.str s]) H K = K (.int .u64 (hashF s)) H := (wPu_eq (c74 s hl)).trans (by simp)
theorem c63 (s : List UInt8) : Pu envE 63 [.str s] (I (spotF s)) := by
  refine pu_is e63 rfl ?_
  rw [fr_init (by simp [fd63])]
  cases h : keyOk s
  · simp [fd63, b63, h, spotF]
  · have hl : s.length < 4611686018427387904 := by simp [keyOk] at h; omega
    simp [fd63, b63, h, hl, spotF, spot_wrap]
@[simp] theorem k63 {s : List UInt8} {H : Heap} {K : AV → Heap → Prop} : wPu envE 63 (some [.str s]) H K = K (I (spotF s)) H := (wPu_eq (c63 s)).trans (by simp)
theorem c28 (s : List UInt8) : Pu envE 28 [.str s] (I (spotF s)) := by
  refine pu_is e28 rfl ?_
  rw [fr_init (by simp [fd28])]
  cases h : keyOk s
  · simp [fd28, b28, h, spotF]
  · have hl : s.length < 4611686018427387904 := by simp [keyOk] at h; omega
    simp [fd28, b28, h, hl, spotF, spot_wrap]
@[simp] theorem k28 {s : List UInt8} {H : Heap} {K : AV → Heap → Prop} : wPu envE 28 (some [.str s]) H K = K (I (spotF s)) H := (wPu_eq (c28 s)).trans (by simp)
end Go.Proofs.YtflgfiieaoeknaaGreatA

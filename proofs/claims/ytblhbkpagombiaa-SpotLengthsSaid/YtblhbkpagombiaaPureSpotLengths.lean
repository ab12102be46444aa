/- Keys of one byte n times: just those of 1 to 32 bytes may be and have a part, and equal lengths have equal numbers. Conditions: none beyond the row's own. -/
import Derived.Test.YtblhbkpagombiaaPSpotLengthsx1
import Derived.Laws.Bits64
namespace Go.Proofs.Ytblhbkpagombiaa.Pure
open Go.RowKit Go.Proofs.Ytblhbkpagombiaa.PSpotLengths Go.Proofs.YtblhbkpagombiaaW.PrintWords Go.Proofs.YtblhbkpagombiaaW.PrintLast

theorem wrap_next {i : Int} {n : Nat} (h0 : 0 ≤ i) (h : i < (n : Int)) (hn : n ≤ 140737488351232) : wrap64 (i + 1) = i + 1 := by
  unfold wrap64
  omega

/-- one byte more -/
def stp (h c : Int) : Int := IntKind.u64.wrap ((Go.bits .xor .u64 h (IntKind.u64.wrap c)) * 1099511628211)
/-- the end -/
def fin (h : Int) : Int := Go.bits .xor .u64 h (h / 4294967296)
/-- the state behind n bytes -/
def hashN (s : ByteArray) : Nat → Int
  | 0 => 14695981039346656037
  | n + 1 => stp (hashN s n) (bt s n)

theorem stp_bd (h c : Int) : 0 ≤ stp h c ∧ stp h c < 18446744073709551616 := by
  unfold stp
  rw [Go.IntKind.wrap_u64]
  omega
theorem hashN_bd (s : ByteArray) (n : Nat) : 0 ≤ hashN s n ∧ hashN s n < 18446744073709551616 := by
  cases n with
  | zero => exact ⟨by simp [hashN], by simp [hashN]⟩
  | succ n => exact stp_bd _ _
theorem bits_bd (a b : Int) : 0 ≤ Go.bits .xor .u64 a b ∧ Go.bits .xor .u64 a b < 18446744073709551616 := by
  show 0 ≤ IntKind.u64.wrap _ ∧ IntKind.u64.wrap _ < _
  rw [Go.IntKind.wrap_u64]
  omega
theorem fin_bd (h : Int) : 0 ≤ fin h ∧ fin h < 18446744073709551616 := bits_bd _ _

theorem hash_from (s : ByteArray) (hn : s.size ≤ 140737488351232) (d : Nat) : ∀ (k n : Nat), n + d = s.size → d < k →
    spot_Hash.l0 k s (hashN s n) s.size n = some (fin (hashN s s.size)) ∧ starlingref7_Hash.l0 k s (hashN s n) s.size n = some (fin (hashN s s.size)) := by
  induction d with
  | zero =>
    intro k n hd hk
    obtain ⟨k, rfl⟩ : ∃ m, k = m + 1 := ⟨k - 1, by omega⟩
    have e : n = s.size := by omega
    subst e
    constructor
    · simp only [spot_Hash.l0]; rw [if_neg (by omega)]; rfl
    · simp only [starlingref7_Hash.l0]; rw [if_neg (by omega)]; rfl
  | succ d ih =>
    intro k n hd hk
    obtain ⟨k, rfl⟩ : ∃ m, k = m + 1 := ⟨k - 1, by omega⟩
    obtain ⟨i1, i2⟩ := ih k (n + 1) (by omega) (by omega)
    have hw : wrap64 ((n : Int) + 1) = ((n + 1 : Nat) : Int) := by rw [wrap_next (n := s.size) (by omega) (by omega) hn]; rfl
    constructor
    · simp only [spot_Hash.l0]; rw [if_pos (by omega), if_pos (by omega), if_pos (by omega), hw]; exact i1
    · simp only [starlingref7_Hash.l0]; rw [if_pos (by omega), if_pos (by omega), if_pos (by omega), hw]; exact i2

theorem hash_is (s : ByteArray) (hn : s.size ≤ 140737488351232) (k : Nat) (hk : s.size < k) :
    spot_Hash.f k s = some (fin (hashN s s.size)) ∧ starlingref7_Hash.f k s = some (fin (hashN s s.size)) := by
  have h := hash_from s hn s.size k 0 (by omega) hk
  exact h

/-- a key's part -/
def part (s : ByteArray) : Int := if (s.size : Int) ≥ 1 ∧ (s.size : Int) ≤ 32 then wrap64 (Int.tmod (fin (hashN s s.size)) 16) else -1

theorem may_is (s : ByteArray) : spot_May.f s = some (decide ((s.size : Int) ≥ 1 ∧ (s.size : Int) ≤ 32)) := by
  unfold spot_May.f
  by_cases h : (s.size : Int) ≥ 1
  · rw [if_pos h]
    by_cases h2 : (s.size : Int) ≤ 32
    · simp [h, h2]
    · simp [h2]
  · rw [if_neg h]; simp [h]

theorem of_is (s : ByteArray) (hn : s.size ≤ 140737488351232) (k : Nat) (hk : s.size < k) : spot_Of.f k s = some (part s) := by
  unfold spot_Of.f part
  rw [may_is, (hash_is s hn k hk).1]
  by_cases h : (s.size : Int) ≥ 1 ∧ (s.size : Int) ≤ 32
  · rw [if_pos h]; simp [h]
  · rw [if_neg h]; simp only [Option.bind_some, decide_eq_true_eq]; rw [if_neg h]

theorem part_in (s : ByteArray) (h : (s.size : Int) ≥ 1 ∧ (s.size : Int) ≤ 32) : 0 ≤ part s ∧ part s < 16 ∧ part s = wrap64 (Int.tmod (fin (hashN s s.size)) 16) := by
  have b := fin_bd (hashN s s.size)
  unfold part
  rw [if_pos h]
  have e : Int.tmod (fin (hashN s s.size)) 16 = fin (hashN s s.size) % 16 := Int.tmod_eq_emod_of_nonneg b.1
  rw [e]
  refine ⟨?_, ?_, rfl⟩ <;> (unfold wrap64; omega)
theorem part_out (s : ByteArray) (h : ¬ ((s.size : Int) ≥ 1 ∧ (s.size : Int) ≤ 32)) : part s = -1 := by unfold part; rw [if_neg h]

theorem awake_is (k : Nat) (hk : 1 < k) : starlinglaw7_awake.f k = some true := by
  have h1 := hash_is (⟨#[97]⟩ : ByteArray) (by decide) k hk
  have h0 := of_is (⟨#[]⟩ : ByteArray) (by decide) k (by show 0 < k; omega)
  have p0 : part (⟨#[]⟩ : ByteArray) = -1 := part_out _ (by decide)
  unfold starlinglaw7_awake.f
  rw [may_is, may_is, h0, h1.1, h1.2, p0]
  simp [ByteArray.size]

/-- n times one byte -/
def run (c : Int) : Nat → ByteArray
  | 0 => ⟨#[]⟩
  | n + 1 => run c n ++ strOfNums [c]
theorem run_size (c : Int) (n : Nat) : (run c n).size = n := by
  induction n with
  | zero => rfl
  | succ n ih => show (run c n ++ strOfNums [c]).size = _; rw [ByteArray.size_append, ih]; rfl
theorem mod_in (a : Int) : 0 ≤ wrap64 (Int.tmod (IntKind.u64.wrap a) 50) ∧ wrap64 (Int.tmod (IntKind.u64.wrap a) 50) < 50 := by
  rw [Go.IntKind.wrap_u64]
  have e : Int.tmod (a % 18446744073709551616) 50 = (a % 18446744073709551616) % 50 := Int.tmod_eq_emod_of_nonneg (by omega)
  rw [e]
  unfold wrap64
  omega
theorem next_in {i n : Nat} (h : i < n) (hn : n < 50) : wrap64 ((i : Int) + 1) = ((i + 1 : Nat) : Int) := by
  unfold wrap64
  omega

theorem third (c : Int) (n m : Nat) (hn : n < 50) (hm : m < 50) (k : Nat) (hk : 60 < k) (b : Bool) (hb : b = decide ((n : Int) ≥ 1 ∧ (n : Int) ≤ 32)) :
    starlinglaw7_SpotLengths.j2 k n m (run c n) (run c m) b = some true := by
  obtain ⟨k, rfl⟩ : ∃ q, k = q + 1 := ⟨k - 1, by omega⟩
  have zn := run_size c n
  have zm := run_size c m
  have h1 := hash_is (run c n) (by omega) k (by omega)
  have h2 := hash_is (run c m) (by omega) k (by omega)
  have ho := of_is (run c n) (by omega) k (by omega)
  have aw := awake_is k (by omega)
  simp only [starlinglaw7_SpotLengths.j2]
  rw [may_is, ho, h1.1, h2.1, aw, zn]
  simp only [Option.bind_some]
  rw [if_pos (by rw [hb]; simp)]
  have hp : (decide (part (run c n) ≥ 0) == b) = true := by
    rw [hb]
    by_cases q : (n : Int) ≥ 1 ∧ (n : Int) ≤ 32
    · have p := part_in (run c n) (by rw [zn]; exact q)
      simp [q, p.1]
    · have p := part_out (run c n) (by rw [zn]; exact q)
      rw [p]
      simp only [beq_iff_eq, ge_iff_le]
      rw [decide_eq_false q]
      rfl
  rw [if_pos hp]
  by_cases e : (n : Int) = (m : Int)
  · have e' : n = m := by omega
    subst e'
    rw [if_pos rfl, if_pos (by rw [zn])]
  · rw [if_neg e]

theorem second (c : Int) (n m : Nat) (hn : n < 50) (hm : m < 50) (d : Nat) : ∀ (k i : Nat), i + d = m → d + 61 < k →
    starlinglaw7_SpotLengths.l1 k c n m (run c n) (run c i) m i = some true := by
  induction d with
  | zero =>
    intro k i hd hk
    obtain ⟨k, rfl⟩ : ∃ q, k = q + 1 := ⟨k - 1, by omega⟩
    have e : i = m := by omega
    subst e
    simp only [starlinglaw7_SpotLengths.l1]
    rw [if_neg (by omega)]
    by_cases q : (n : Int) ≥ 1
    · rw [if_pos q]
      exact third c n i hn hm k (by omega) _ (by simp [q])
    · rw [if_neg q]
      exact third c n i hn hm k (by omega) _ (by simp [q])
  | succ d ih =>
    intro k i hd hk
    obtain ⟨k, rfl⟩ : ∃ q, k = q + 1 := ⟨k - 1, by omega⟩
    have zi := run_size c i
    have z1 : (strOfNums [c]).size = 1 := rfl
    simp only [starlinglaw7_SpotLengths.l1]
    rw [if_pos (by omega)]
    simp only [Option.bind_some]
    rw [if_pos (by omega), next_in (by omega : i < m) hm]
    exact ih k (i + 1) (by omega) (by omega)

theorem first (c : Int) (n m : Nat) (hn : n < 50) (hm : m < 50) (d : Nat) : ∀ (k i : Nat), i + d = n → d + 150 < k →
    starlinglaw7_SpotLengths.l0 k c n m (run c i) ⟨#[]⟩ n i = some true := by
  induction d with
  | zero =>
    intro k i hd hk
    obtain ⟨k, rfl⟩ : ∃ q, k = q + 1 := ⟨k - 1, by omega⟩
    have e : i = n := by omega
    subst e
    simp only [starlinglaw7_SpotLengths.l0]
    rw [if_neg (by omega)]
    exact second c i m hn hm m k 0 (by omega) (by omega)
  | succ d ih =>
    intro k i hd hk
    obtain ⟨k, rfl⟩ : ∃ q, k = q + 1 := ⟨k - 1, by omega⟩
    have zi := run_size c i
    have z1 : (strOfNums [c]).size = 1 := rfl
    simp only [starlinglaw7_SpotLengths.l0]
    rw [if_pos (by omega)]
    simp only [Option.bind_some]
    rw [if_pos (by omega), next_in (by omega : i < n) hn]
    exact ih k (i + 1) (by omega) (by omega)

theorem SpotLengths : starlinglaw7_SpotLengths.Pure := by
  intro c a b hc ha hb
  refine ⟨300, ?_⟩
  unfold starlinglaw7_SpotLengths.f
  have h1 := mod_in a
  have h2 := mod_in b
  generalize wrap64 (Int.tmod (IntKind.u64.wrap a) 50) = n at *
  generalize wrap64 (Int.tmod (IntKind.u64.wrap b) 50) = m at *
  obtain ⟨n, rfl⟩ := Int.eq_ofNat_of_zero_le h1.1
  obtain ⟨m, rfl⟩ := Int.eq_ofNat_of_zero_le h2.1
  exact first c n m (by omega) (by omega) n 300 0 (by omega) (by omega)

end Go.Proofs.Ytblhbkpagombiaa.Pure

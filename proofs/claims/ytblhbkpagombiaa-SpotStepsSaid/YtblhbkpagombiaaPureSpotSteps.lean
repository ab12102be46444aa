/- The number of a key with one byte more is one step more of the key's own number, undone, changed by that byte and multiplied. Conditions: none beyond the row's own. -/
import Derived.Test.YtblhbkpagombiaaPSpotStepsx1
import Derived.Laws.Bits64
namespace Go.Proofs.Ytblhbkpagombiaa.Pure
open Go.RowKit Go.Proofs.Ytblhbkpagombiaa.PSpotSteps Go.Proofs.YtblhbkpagombiaaW.PrintWords Go.Proofs.YtblhbkpagombiaaW.PrintLast

theorem wrap_next {i : Int} {n : Nat} (h0 : 0 ≤ i) (h : i < (n : Int)) (hn : n ≤ 140737488351232) : wrap64 (i + 1) = i + 1 := by
  unfold wrap64
  omega

/-- one byte more -/
def stp (h c : Int) : Int := IntKind.u64.wrap ((Go.bits .xor .u64 h (IntKind.u64.wrap c)) * 1099511628211)
/-- the end -/
def fin (h : Int) : Int := Go.bits .xor .u64 h (h / 4294967296)
/-- the state behind n bytes -/
def hashN (s : ByteArray) : Nat → Int
  | 0 => 14695981039346656037
  | n + 1 => stp (hashN s n) (bt s n)

theorem stp_bd (h c : Int) : 0 ≤ stp h c ∧ stp h c < 18446744073709551616 := by
  unfold stp
  rw [Go.IntKind.wrap_u64]
  omega
theorem hashN_bd (s : ByteArray) (n : Nat) : 0 ≤ hashN s n ∧ hashN s n < 18446744073709551616 := by
  cases n with
  | zero => exact ⟨by simp [hashN], by simp [hashN]⟩
  | succ n => exact stp_bd _ _
theorem bits_bd (a b : Int) : 0 ≤ Go.bits .xor .u64 a b ∧ Go.bits .xor .u64 a b < 18446744073709551616 := by
  show 0 ≤ IntKind.u64.wrap _ ∧ IntKind.u64.wrap _ < _
  rw [Go.IntKind.wrap_u64]
  omega
theorem fin_bd (h : Int) : 0 ≤ fin h ∧ fin h < 18446744073709551616 := bits_bd _ _

theorem hash_from (s : ByteArray) (hn : s.size ≤ 140737488351232) (d : Nat) : ∀ (k n : Nat), n + d = s.size → d < k →
    spot_Hash.l0 k s (hashN s n) s.size n = some (fin (hashN s s.size)) ∧ starlingref7_Hash.l0 k s (hashN s n) s.size n = some (fin (hashN s s.size)) := by
  induction d with
  | zero =>
    intro k n hd hk
    obtain ⟨k, rfl⟩ : ∃ m, k = m + 1 := ⟨k - 1, by omega⟩
    have e : n = s.size := by omega
    subst e
    constructor
    · simp only [spot_Hash.l0]; rw [if_neg (by omega)]; rfl
    · simp only [starlingref7_Hash.l0]; rw [if_neg (by omega)]; rfl
  | succ d ih =>
    intro k n hd hk
    obtain ⟨k, rfl⟩ : ∃ m, k = m + 1 := ⟨k - 1, by omega⟩
    obtain ⟨i1, i2⟩ := ih k (n + 1) (by omega) (by omega)
    have hw : wrap64 ((n : Int) + 1) = ((n + 1 : Nat) : Int) := by rw [wrap_next (n := s.size) (by omega) (by omega) hn]; rfl
    constructor
    · simp only [spot_Hash.l0]; rw [if_pos (by omega), if_pos (by omega), if_pos (by omega), hw]; exact i1
    · simp only [starlingref7_Hash.l0]; rw [if_pos (by omega), if_pos (by omega), if_pos (by omega), hw]; exact i2

theorem hash_is (s : ByteArray) (hn : s.size ≤ 140737488351232) (k : Nat) (hk : s.size < k) :
    spot_Hash.f k s = some (fin (hashN s s.size)) ∧ starlingref7_Hash.f k s = some (fin (hashN s s.size)) := by
  have h := hash_from s hn s.size k 0 (by omega) hk
  exact h

/-- a key's part -/
def part (s : ByteArray) : Int := if (s.size : Int) ≥ 1 ∧ (s.size : Int) ≤ 32 then wrap64 (Int.tmod (fin (hashN s s.size)) 16) else -1

theorem may_is (s : ByteArray) : spot_May.f s = some (decide ((s.size : Int) ≥ 1 ∧ (s.size : Int) ≤ 32)) := by
  unfold spot_May.f
  by_cases h : (s.size : Int) ≥ 1
  · rw [if_pos h]
    by_cases h2 : (s.size : Int) ≤ 32
    · simp [h, h2]
    · simp [h2]
  · rw [if_neg h]; simp [h]

theorem of_is (s : ByteArray) (hn : s.size ≤ 140737488351232) (k : Nat) (hk : s.size < k) : spot_Of.f k s = some (part s) := by
  unfold spot_Of.f part
  rw [may_is, (hash_is s hn k hk).1]
  by_cases h : (s.size : Int) ≥ 1 ∧ (s.size : Int) ≤ 32
  · rw [if_pos h]; simp [h]
  · rw [if_neg h]; simp only [Option.bind_some, decide_eq_true_eq]; rw [if_neg h]

theorem part_in (s : ByteArray) (h : (s.size : Int) ≥ 1 ∧ (s.size : Int) ≤ 32) : 0 ≤ part s ∧ part s < 16 ∧ part s = wrap64 (Int.tmod (fin (hashN s s.size)) 16) := by
  have b := fin_bd (hashN s s.size)
  unfold part
  rw [if_pos h]
  have e : Int.tmod (fin (hashN s s.size)) 16 = fin (hashN s s.size) % 16 := Int.tmod_eq_emod_of_nonneg b.1
  rw [e]
  refine ⟨?_, ?_, rfl⟩ <;> (unfold wrap64; omega)
theorem part_out (s : ByteArray) (h : ¬ ((s.size : Int) ≥ 1 ∧ (s.size : Int) ≤ 32)) : part s = -1 := by unfold part; rw [if_neg h]

theorem awake_is (k : Nat) (hk : 1 < k) : starlinglaw7_awake.f k = some true := by
  have h1 := hash_is (⟨#[97]⟩ : ByteArray) (by decide) k hk
  have h0 := of_is (⟨#[]⟩ : ByteArray) (by decide) k (by show 0 < k; omega)
  have p0 : part (⟨#[]⟩ : ByteArray) = -1 := part_out _ (by decide)
  unfold starlinglaw7_awake.f
  rw [may_is, may_is, h0, h1.1, h1.2, p0]
  simp [ByteArray.size]

theorem bt_left (s t : ByteArray) (n : Nat) (h : n < s.size) : bt (s ++ t) n = bt s n := by
  unfold bt
  rw [dif_pos (by rw [ByteArray.size_append, Int.toNat_natCast]; omega), dif_pos (by rw [Int.toNat_natCast]; exact h)]
  rw [ByteArray.getElem_append_left (by rw [Int.toNat_natCast]; exact h)]
theorem hashN_left (s t : ByteArray) (n : Nat) (h : n ≤ s.size) : hashN (s ++ t) n = hashN s n := by
  induction n with
  | zero => rfl
  | succ n ih =>
    show stp _ _ = stp _ _
    rw [ih (by omega), bt_left s t n (by omega)]
theorem bt_right (s : ByteArray) (c : Int) (hc : 0 ≤ c ∧ c ≤ 255) : bt (s ++ strOfNums [c]) s.size = c := by
  have z1 : (strOfNums [c]).size = 1 := rfl
  unfold bt
  rw [dif_pos (by rw [ByteArray.size_append, Int.toNat_natCast, z1]; omega)]
  rw [ByteArray.getElem_append_right (by rw [Int.toNat_natCast]; omega)]
  simp only [Int.toNat_natCast, Nat.sub_self]
  show (((UInt8.ofNat c.toNat)).toNat : Int) = c
  simp
  omega
theorem xor_undone (x : Int) (h0 : 0 ≤ x) (h1 : x < 18446744073709551616) : fin (fin x) = x := by
  obtain ⟨X, rfl⟩ := Int.eq_ofNat_of_zero_le h0
  have hX : X < 18446744073709551616 := by omega
  have e1 : fin (X : Int) = ((X ^^^ X / 4294967296 : Nat) : Int) := Go.xorShift_u64 X 4294967296 hX
  have hd : X / 4294967296 < 18446744073709551616 := by omega
  have hY : X ^^^ X / 4294967296 < 18446744073709551616 := Nat.xor_lt_two_pow (n := 64) hX hd
  have e2 : fin ((X ^^^ X / 4294967296 : Nat) : Int) = (((X ^^^ X / 4294967296) ^^^ (X ^^^ X / 4294967296) / 4294967296 : Nat) : Int) := Go.xorShift_u64 _ 4294967296 hY
  rw [e1, e2]
  have key : (X ^^^ X / 4294967296) ^^^ (X ^^^ X / 4294967296) / 4294967296 = X := by
    have sh : ∀ Z : Nat, Z / 4294967296 = Z >>> 32 := fun Z => by rw [Nat.shiftRight_eq_div_pow]
    simp only [sh]
    apply Nat.eq_of_testBit_eq
    intro i
    have hi : X.testBit (32 + (32 + i)) = false := Nat.testBit_lt_two_pow (Nat.lt_of_lt_of_le (show X < 2 ^ 64 from hX) (Nat.pow_le_pow_right (by omega) (by omega)))
    simp only [Nat.testBit_xor, Nat.testBit_shiftRight, hi]
    cases X.testBit i <;> cases X.testBit (32 + i) <;> rfl
  rw [key]
theorem last (X c t : Int) (ht : Go.bits .xor .u64 t (t / 4294967296) = X) : fin (stp X c) = Go.bits .xor .u64 (IntKind.u64.wrap ((Go.bits .xor .u64 (Go.bits .xor .u64 t (t / 4294967296)) (IntKind.u64.wrap c)) * 1099511628211)) ((IntKind.u64.wrap ((Go.bits .xor .u64 (Go.bits .xor .u64 t (t / 4294967296)) (IntKind.u64.wrap c)) * 1099511628211)) / 4294967296) := by
  rw [ht]
  unfold fin stp
  rfl
theorem fin_def (t : Int) : Go.bits .xor .u64 t (t / 4294967296) = fin t := by unfold fin; rfl
theorem SpotSteps : starlinglaw7_SpotSteps.Pure := by
  intro s c hn hc
  refine ⟨s.size + 3, ?_⟩
  have aw := awake_is (s.size + 3) (by omega)
  have hc' : 0 ≤ c ∧ c ≤ 255 := by
    have := hc
    simp [Lit.wf, IntKind.min, IntKind.max, IntKind.bits, IntKind.signed] at this
    omega
  unfold starlinglaw7_SpotSteps.f
  by_cases h : (s.size : Int) > 300
  · rw [if_pos h, aw]; rfl
  · rw [if_neg h]
    have hs := hash_is s hn (s.size + 3) (by omega)
    have z1 : (strOfNums [c]).size = 1 := rfl
    have z2 : (s ++ strOfNums [c]).size = s.size + 1 := by rw [ByteArray.size_append, z1]
    have hs2 := hash_is (s ++ strOfNums [c]) (by omega) (s.size + 3) (by omega)
    have e : hashN (s ++ strOfNums [c]) (s ++ strOfNums [c]).size = stp (hashN s s.size) c := by
      rw [z2]
      show stp _ _ = stp _ _
      rw [hashN_left s _ s.size (Nat.le_refl _), bt_right s c hc']
    rw [hs.1, Option.bind_some, Option.bind_some, hs2.1, aw, e]
    have b := hashN_bd s s.size
    have u := xor_undone (hashN s s.size) b.1 b.2
    generalize hashN s s.size = X at u ⊢
    generalize fin X = t at u ⊢
    rw [← fin_def] at u
    rw [if_pos (by omega), Option.bind_some, if_pos (last X c t u), Option.bind_some]

end Go.Proofs.Ytblhbkpagombiaa.Pure

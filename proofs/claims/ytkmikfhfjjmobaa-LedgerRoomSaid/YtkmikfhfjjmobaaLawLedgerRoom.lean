/- 'starlinglaw17.LedgerRoom' returns true for every room and every number that shall stay: so many deeds, and no more; a crash makes room again. Without further conditions. -/
import Derived.Test.YtkmikfhfjjmobaaRows
import Derived.Test.YtkmikfhfjjmobaaL5
import Derived.WalkKit
import Derived.ProofKit
import Derived.ChangeOld
namespace Go.Proofs.YtkmikfhfjjmobaaA
open Go
set_option linter.unusedSimpArgs false
set_option maxRecDepth 1000000
attribute [local simp] deed_zero

theorem mod_room (x m : Int) (hm : 0 < m) (hm2 : m < 1000000) : ∃ n : Nat, (n : Int) < m ∧ IntKind.i64.wrap ((IntKind.u64.wrap x).tmod m) = (n : Int) := by
  have h0 : 0 ≤ IntKind.u64.wrap x := by simp [IntKind.wrap, IntKind.signed, IntKind.bits]; omega
  have h1 : (IntKind.u64.wrap x).tmod m = (IntKind.u64.wrap x) % m := Int.tmod_eq_emod_of_nonneg h0
  have h2 := Int.emod_nonneg (IntKind.u64.wrap x) (by omega : m ≠ 0)
  have h3 := Int.emod_lt_of_pos (IntKind.u64.wrap x) hm
  refine ⟨((IntKind.u64.wrap x) % m).toNat, by omega, ?_⟩
  rw [h1, wrap_i64] <;> omega
def sureN (n i : Nat) : Nat := if i ≤ n / 2 then 0 else n / 2 + 1
theorem ledgerRoom_pu (x stay : Int) : Pu envE 6 [I x, I stay] (.bool true) := by
  refine pu_is e6 rfl ?_
  rw [fr_init (by simp [fd6])]
  obtain ⟨n, hn, hmod⟩ := mod_room x 60 (by omega) (by omega)
  have hmax : max 0 (min (n : Int) 3000) = (n : Int) := by omega
  have hnew : ∀ K, WCl envE 25 [I n] 0 [] K = K (.ptr (some (0, 0))) [.cells false [.nilsl, I 0, I n]] := fun K => by
    have := WCl_eq (K := K) (c25 (n : Int) 0 [])
    rw [hmax] at this
    exact this
  simp [fd6, b6, hmod, hnew]
  refine loop_go [0, 1, 5, 16, 17] rfl (fun m vs H => ∃ i v ds, m + i = n ∧ ds.length = i ∧ Led H 0 v ds (sureN n i) n ∧ vs = [I n, I stay, .ptr (some (0, 0)), I n, I i]) ?_ n ⟨0, .nilsl, [], rfl, rfl, ⟨by simp [sureN], .nil, by simp⟩, rfl⟩
  rintro J hJ m vs H b ⟨i, v, ds, hm, hds, hL, rfl⟩
  have hdiv : (n : Int).tdiv 2 = ((n / 2 : Nat) : Int) := by rw [Int.tdiv_eq_ediv_of_nonneg (by omega)]; omega
  have hw0 : IntKind.i64.wrap ((n / 2 : Nat) : Int) = ((n / 2 : Nat) : Int) := by rw [wrap_i64] <;> omega
  have hroom : ∀ K, WCl envE 39 [.ptr (some (0, 0))] 0 H K = K (I (n - i : Nat)) H := fun K => by
    have := WCl_eq (K := K) (c39 hL.at' hL.row.len 0 (by omega))
    have e : IntKind.i64.wrap ((n : Int) - ds.length) = ((n - i : Nat) : Int) := by rw [wrap_i64] <;> omega
    rw [e] at this
    exact this
  by_cases hi : i < n
  · have hw := wrap_succ (i := i) (by omega)
    have hw1 : IntKind.i64.wrap ((n : Int) - i) = ((n - i : Nat) : Int) := by rw [wrap_i64] <;> omega
    simp [lp6_0, hi, hroom, hw1]
    refine WCl.mono (write_inc hL (by omega) (by omega) (by omega) i (by omega) (by omega)) ?_
    rintro _ H2 (⟨q, _⟩ | ⟨_, rfl, v', hL2⟩)
    · omega
    obtain ⟨g, hg⟩ : ∃ g, g = n / 2 := ⟨_, rfl⟩
    rw [← hg] at hdiv hw0
    by_cases he : i = g
    · have hsi : sureN n i = 0 := by simp [sureN]; omega
      have hs1 : ((sureN n (i + 1) : Nat) : Int) = ((i + 1 : Nat) : Int) := by simp only [sureN]; split <;> omega
      have hsy : ∀ K, WCl envE 31 [.ptr (some (0, 0))] 0 H2 K = K (I (i + 1 : Nat)) (H2.set 0 (.cells false [v', I (i + 1 : Nat), I n])) := fun K => by
        have := WCl_eq (K := K) (c31 hL2.at' (hL2.row.len))
        have e : IntKind.i64.wrap (((ds ++ [incD i]).length : Int) - (sureN n i : Nat)) = ((i + 1 : Nat) : Int) := by rw [hsi, wrap_i64] <;> simp <;> omega
        have e2 : ((ds ++ [incD (i : Int)]).length : Int) = ((i + 1 : Nat) : Int) := by simp; omega
        rw [e, e2] at this
        exact this
      have he' : (i : Int) = (g : Int) := by omega
      have hgg : ((g : Int) == (g : Int)) = true := by simp
      subst he
      simp [hdiv, hw0, hsy, hw]
      refine nxt hJ (m - 1) (by omega) ⟨i + 1, v', ds ++ [incD i], by omega, by simp; omega, ?_, rfl⟩
      rw [hs1]
      exact hL2.sync _
    · have hs1 : sureN n (i + 1) = sureN n i := by simp only [sureN]; split <;> split <;> omega
      have he' : ¬ (i : Int) = (g : Int) := by omega
      simp [hdiv, hw0, he', hw]
      refine nxt hJ (m - 1) (by omega) ⟨i + 1, v', ds ++ [incD i], by omega, by simp; omega, ?_, rfl⟩
      rw [hs1]
      exact hL2
  · obtain rfl : i = n := by omega
    simp [lp6_0]
    refine WCl.mono (write_inc hL (by omega) (by omega) (by omega) 0 (by omega) (by omega)) ?_
    rintro _ H2 (⟨_, rfl, hL2⟩ | ⟨q, _⟩)
    case inr => omega
    obtain ⟨s, hs⟩ : ∃ s, s = sureN i i := ⟨_, rfl⟩
    have hsl : s ≤ i := by rw [hs, sureN]; split <;> omega
    rw [← hs] at hL2
    have h1 : ∀ K, WCl envE 39 [.ptr (some (0, 0))] 0 H2 K = K (I 0) H2 := fun K => by
      have := WCl_eq (K := K) (c39 hL2.at' hL2.row.len 0 (by omega))
      have e : IntKind.i64.wrap ((i : Int) - ds.length) = 0 := by rw [wrap_i64] <;> omega
      rw [e] at this
      exact this
    have h2 : ∀ K, WCl envE 38 [.ptr (some (0, 0))] 0 H2 K = K (I s) H2 := fun K => WCl_eq (c38 hL2.at' 0)
    obtain ⟨k, hk⟩ : ∃ k, k = stayN stay (ds.length - s) := ⟨_, rfl⟩
    have hkq : (k : Int) = max 0 (min stay (ds.length - s : Nat)) := by rw [hk, stayN]; omega
    have hcr := c33 hL2 (by omega) stay
    have hL3 := hL2.crash (s + k) (by omega) ((s + k : Nat) : Int)
    rw [← hk] at hcr
    obtain ⟨H3, hH3⟩ : ∃ H3, H3 = H2.set 0 (.cells false [subAt v (s + k), I ((s + k : Nat) : Int), I i]) := ⟨_, rfl⟩
    rw [← hH3] at hcr hL3
    obtain ⟨w, hw⟩ : ∃ w, w = i - s - k := ⟨_, rfl⟩
    have hlt : (ds.take (s + k)).length = s + k := by rw [List.length_take]; omega
    have h3 : ∀ K, WCl envE 33 [.ptr (some (0, 0)), I stay] 0 H2 K = K (I w) H3 := fun K => by
      have := WCl_eq (K := K) hcr
      rw [hds, ← hw] at this
      exact this
    have h4 : ∀ K, WCl envE 39 [.ptr (some (0, 0))] 0 H3 K = K (I w) H3 := fun K => by
      have := WCl_eq (K := K) (c39 hL3.at' hL3.row.len 0 (by omega))
      have e : IntKind.i64.wrap ((i : Int) - (ds.take (s + k)).length) = (w : Int) := by rw [hlt, wrap_i64] <;> omega
      rw [e] at this
      exact this
    have h5 : ∀ K, WCl envE 37 [.ptr (some (0, 0))] 0 H3 K = K (I (s + k : Nat)) H3 := fun K => by
      have := WCl_eq (K := K) (c37 hL3.at' hL3.row.len 0)
      rw [hlt] at this
      exact this
    have h6 : ∀ K, WCl envE 38 [.ptr (some (0, 0))] 0 H3 K = K (I (s + k : Nat)) H3 := fun K => WCl_eq (c38 hL3.at' 0)
    have w1 : IntKind.i64.wrap ((i : Int) - s) = ((ds.length - s : Nat) : Int) := by rw [wrap_i64] <;> omega
    have w2 : IntKind.i64.wrap (((ds.length - s : Nat) : Int) - k) = (w : Int) := by rw [wrap_i64] <;> omega
    have w3 : IntKind.i64.wrap ((i : Int) - w) = ((s + k : Nat) : Int) := by rw [wrap_i64] <;> omega
    have e1 : max 0 (min stay ((ds.length - s : Nat) : Int)) = (k : Int) := hkq.symm
    have e2 : max 0 (min ((ds.length - s : Nat) : Int) stay) = (k : Int) := by rw [Int.min_comm]; exact e1
    obtain ⟨q, hq⟩ : ∃ q, q = ds.length - s := ⟨_, rfl⟩
    obtain ⟨p, hp⟩ : ∃ p, p = s + k := ⟨_, rfl⟩
    rw [← hq] at w1 w2 e1 e2
    rw [← hp] at h5 h6 w3
    simp [h1, h2, h3, h4, h5, h6, w1, w2, w3, e1, e2]
theorem ledgerRoom_law (cs : List AV) (h : FitsArgs [(false, .int .i64), (false, .int .i64)] cs) : ∃ n H', callF envE (exec envE n) 6 cs 0 [] = some (.bool true, H') := by
  obtain ⟨a, rest, rfl, h1, t⟩ := fa_one h
  obtain ⟨c, rest, rfl, h2, t⟩ := fa_one t
  cases fa_nil t
  obtain ⟨x, e, _⟩ := fits_int h1
  obtain ⟨y, e2, _⟩ := fits_int h2
  cases e
  cases e2
  exact law_of (ledgerRoom_pu x y) (by simp)
end Go.Proofs.YtkmikfhfjjmobaaA

namespace Go.Proofs.Ytkmikfhfjjmobaa.ledgerRoom
open Go.ChangeShapes Go.WideShapes Go.ChangeAt Go.RowKit
set_option linter.unusedVariables false
theorem own : ownKnob Try.prog.godebug = none := by kernel_rfl
set_option maxRecDepth 1000000 in
theorem lifted (os : Os) (started : os.Started) (H : Type) (enc : TypeId × Value → H) :
    ReturnsInHanded {} Try.checked os 6 .any (Rows.ledgerRoomSpec.pre6 enc Try.prog Try.f6 Rows.ledgerRoomRow.domain false) (Rows.ledgerRoomSpec.post enc Try.prog Try.f6 false true false false) :=
  YtkmikfhfjjmobaaA.law_lifted (C := Try.checked) YtkmikfhfjjmobaaA.env_good (fd := YtkmikfhfjjmobaaA.fd6) (tb := 4) rfl own started (by kernel_rfl) Try.func6
    (ChangeSpec.witness6 (enc := enc) (C := Try.checked) false ⟨#[], #[((Try.prog.info? 3).bind (·.zero)).getD .nilFunc, ((Try.prog.info? 3).bind (·.zero)).getD .nilFunc], []⟩ 8 (by kernel_rfl) (by kernel_rfl) (by kernel_rfl) (by kernel_rfl))
    (by kernel_rfl) (by decide +kernel) (by kernel_rfl) rfl (by kernel_rfl) (by kernel_rfl) (fun ds h => by
      match ds, h with
      | [d0, d1], _ => rfl) YtkmikfhfjjmobaaA.ledgerRoom_law
theorem over : Rows.ledgerRoomRow.holds Try.pinned (OpenSpec.ofChange Rows.ledgerRoomSpec) :=
  OpenClaim.holds_of_wide 6 Try.f6 rfl rfl rfl rfl rfl rfl rfl ⟨rfl, rfl, rfl, rfl, rfl⟩ rfl rfl rfl rfl rfl (by kernel_rfl) Try.func6 (by kernel_rfl)
    (of_decide_eq_true (by kernel_rfl)) (by unfold Func.isWrapper; first | (rw [if_pos (by decide +kernel)]; kernel_rfl) | (rw [if_neg (by decide +kernel)]; exact ⟨rfl, rfl⟩))
    (fun os started H enc _ => lifted os started H enc)
end Go.Proofs.Ytkmikfhfjjmobaa.ledgerRoom
namespace Go.Proofs.Ytkmikfhfjjmobaa
/-- The row, under a short name, for the claim. -/
theorem ledgerRoom_holds : Rows.LedgerRoomSaid := ledgerRoom.over
#print axioms ledgerRoom_holds
end Go.Proofs.Ytkmikfhfjjmobaa


/- 'starlinglaw14.BagTwice' returns true for every list of steps and every place in it, and the list reads behind it as it read before: joined with itself a bag is itself; with what it is made of it is itself. Without further conditions. -/
import Derived.Test.YtkmikfhfjjmobaaRows
import Derived.Test.YtkmikfhfjjmobaaQ2
import Derived.WalkKit
import Derived.ProofKit
import Derived.ChangeOld
namespace Go.Proofs.YtkmikfhfjjmobaaA
open Go
set_option linter.unusedSimpArgs false
set_option linter.unusedVariables false
set_option maxRecDepth 1000000
attribute [local simp] vec_zero

theorem mod_len (x : Int) (n : Nat) (hn : n ≤ 40) : ∃ (p : Nat) (c : Int), p ≤ n ∧ ¬ c = 0 ∧ IntKind.i64.wrap ((n : Int) + 1) = c ∧ IntKind.u64.wrap c = c ∧ IntKind.i64.wrap ((IntKind.u64.wrap x).tmod c) = (p : Int) := by
  have e1 : IntKind.i64.wrap ((n : Int) + 1) = (n : Int) + 1 := by rw [wrap_i64] <;> omega
  have e2 : IntKind.u64.wrap ((n : Int) + 1) = (n : Int) + 1 := by simp [IntKind.wrap, IntKind.signed, IntKind.bits]; omega
  have h0 : 0 ≤ IntKind.u64.wrap x := by simp [IntKind.wrap, IntKind.signed, IntKind.bits]; omega
  have h1 : (IntKind.u64.wrap x).tmod ((n : Int) + 1) = (IntKind.u64.wrap x) % ((n : Int) + 1) := Int.tmod_eq_emod_of_nonneg h0
  have h2 := Int.emod_nonneg (IntKind.u64.wrap x) (by omega : ((n : Int) + 1) ≠ 0)
  have h3 := Int.emod_lt_of_pos (IntKind.u64.wrap x) (by omega : 0 < (n : Int) + 1)
  refine ⟨((IntKind.u64.wrap x) % ((n : Int) + 1)).toNat, (n : Int) + 1, by omega, by omega, e1, e2, ?_⟩
  rw [h1, wrap_i64] <;> omega
set_option maxHeartbeats 8000000 in
theorem bagTwice_pu (l : List PStep) (x : Int) (hl : l.length < 4611686018427387904) : Pu envE 9 [roL stepC l, I x] (.bool true) := by
  refine pu_is e9 rfl ?_
  rw [fr_init (by simp [fd9])]
  by_cases h40 : (40 : Int) < l.length
  · simp [fd9, b9, h40]
  obtain ⟨p, c, hp, hc0, hc1, hc2, hmod⟩ := mod_len x l.length (by omega)
  have hlp : (l.take p).length = p := by rw [List.length_take]; omega
  obtain ⟨K1, L1, ok1, h1, g1⟩ := k45 (l.take p) (by omega)
  obtain ⟨K2, L2, ok2, h2, g2⟩ := k45 l hl
  obtain ⟨R1, X1, e1, r1⟩ := thaws_owL (H := []) (lim := 0) (by simp) K1 L1
  obtain ⟨R2, X2, e2, r2⟩ := thaws_owL (H := X1 ++ [.cells false (arrV K1 R1)]) (lim := 0) (by simp) K2 L2
  have o1 : (∀ x : AV, x ∈ arrV K1 R1 → x.one = true) = True := eq_true (List.all_eq_true.1 (arr_one fun w hw => (r1 w hw).one))
  have o2 : (∀ x : AV, x ∈ arrV K2 R2 → x.one = true) = True := eq_true (List.all_eq_true.1 (arr_one fun w hw => (r2 w hw).one))
  have hover1 : ∀ q : List AV, q.length = 27 → setFrom q 0 (arrV K1 R1) = arrV K1 R1 := fun q hq => setFrom_all _ _ (by rw [hq, arr_len])
  have hover2 : ∀ q : List AV, q.length = 27 → setFrom q 0 (arrV K2 R2) = arrV K2 R2 := fun q hq => setFrom_all _ _ (by rw [hq, arr_len])
  simp at e1 e2
  cases ok1
  · simp [fd9, b9, h40, hc0, hc1, hc2, hmod, cut_roL hp, h1, h2, e1, e2, o1, o2, hover1, hover2]
  cases ok2
  · simp [fd9, b9, h40, hc0, hc1, hc2, hmod, cut_roL hp, h1, h2, e1, e2, o1, o2, hover1, hover2]
  simp [fd9, b9, h40, hc0, hc1, hc2, hmod, cut_roL hp, h1, h2, e1, e2, o1, o2, hover1, hover2]
  obtain ⟨n1, g1⟩ := g1 rfl
  obtain ⟨n2, g2⟩ := g2 rfl
  rw [List.take_of_length_le (by omega)] at g1 g2
  obtain ⟨k1, _⟩ := runF_ok st0_ok g1
  have g3 : runF ⟨K1, L1, n1⟩ (l.drop p) = some ⟨K2, L2, n2⟩ := by
    rw [← List.take_append_drop p l, runF_app, g1] at g2
    exact g2
  obtain ⟨k2, u12⟩ := runF_ok k1 g3
  obtain ⟨a, ha⟩ : ∃ a, a = X1.length := ⟨_, rfl⟩
  obtain ⟨b, hb⟩ : ∃ b, b = X1.length + (X2.length + 1) := ⟨_, rfl⟩
  obtain ⟨H0, hH0⟩ : ∃ H0, H0 = X1 ++ ABlk.cells false (arrV K1 R1) :: (X2 ++ [ABlk.cells false (arrV K2 R2)]) := ⟨_, rfl⟩
  have ca : ∀ Z, Heap.cells? (H0 ++ Z) a = some (arrV K1 R1) := fun Z => by subst hH0 ha; simp [Heap.cells?]
  have cb : ∀ Z, Heap.cells? (H0 ++ Z) b = some (arrV K2 R2) := fun Z => by
    subst hH0 hb
    rw [show X1 ++ ABlk.cells false (arrV K1 R1) :: (X2 ++ [ABlk.cells false (arrV K2 R2)]) ++ Z = (X1 ++ ABlk.cells false (arrV K1 R1) :: X2) ++ (ABlk.cells false (arrV K2 R2) :: Z) by simp, Heap.cells?, List.getElem?_append_right (by simp)]
    simp
  have f1 : ∀ Z w, w < 3 → frz (H0 ++ Z) 11 (R1 w) = some (roL valC (L1 w)) := fun Z w hw => by
    have := ((r1 w hw).app (X := (ABlk.cells false (arrV K1 R1) :: (X2 ++ [ABlk.cells false (arrV K2 R2)])) ++ Z)).frz (d := 9) valC_len val_flat
    subst hH0
    simpa using this
  have f2 : ∀ Z w, w < 3 → frz (H0 ++ Z) 11 (R2 w) = some (roL valC (L2 w)) := fun Z w hw => by
    have := ((r2 w hw).app (X := [ABlk.cells false (arrV K2 R2)] ++ Z)).frz (d := 9) valC_len val_flat
    subst hH0
    simpa using this
  rw [← hb, ← ha, ← hH0]
  clear e1 e2 h1 h2
  refine loop_go [5, 7, 47] rfl (fun m vs H => ∃ i Z, m + i = 3 ∧ H = H0 ++ Z ∧ vs = [.ptr (some (a, 0)), .ptr (some (b, 0)), I i]) ?_ 3 ⟨0, [], rfl, by simp, rfl⟩
  rintro J hJ m vs H f ⟨i, Z, hm, rfl, rfl⟩
  by_cases hi : i < 3
  case neg =>
    have hi' : ¬ (i : Int) < 3 := by omega
    simp [lp9_0, hi']
  have hi' : (i : Int) < 3 := by omega
  have hi2 : i ≤ 2 := by omega
  have hw := wrap_succ (i := i) (by omega)
  have i27 : i * 9 + 9 ≤ 27 := by omega
  obtain ⟨y1, y2, y3, y4, y5⟩ := twice (k1.ok i hi) (k2.ok i hi) (u12 i hi)
  obtain ⟨z1, z2, _, _, _⟩ := twice (k2.ok i hi) (k2.ok i hi) .refl
  have l1 : (L1 i).length < 4611686018427387904 := by have := (k1.ok i hi).len; simp only at this; omega
  have l2 : (L2 i).length < 4611686018427387904 := by have := (k2.ok i hi).len; simp only at this; omega
  simp only at y1 y2 y3 y4 y5 z1 z2
  have jl : ∀ ka la kb lb, (joinR ka la kb lb).length < 4611686018427387904 := fun ka la kb lb => by have := joinR_len (ka := ka) (la := la) (kb := kb) (lb := lb); omega
  have t1 := (r1 i hi).one
  have t2 := (r2 i hi).one
  obtain ⟨v1, Y1, q1, s1⟩ := thaw_owL (H := H0 ++ Z) (lim := 0) (es := 3) val_still (by simp) (joinR (K2 i) (L2 i) (K2 i) (L2 i))
  obtain ⟨v2, Y2, q2, s2⟩ := thaw_owL (H := H0 ++ (Z ++ (Y1 ++ [.cells false (bagV (joinK (K2 i) (L2 i) (K2 i) (L2 i)) v1)]))) (lim := 0) (es := 3) val_still (by simp) (joinR (K1 i) (L1 i) (K2 i) (L2 i))
  obtain ⟨v3, Y3, q3, s3⟩ := thaw_owL (H := H0 ++ (Z ++ (Y1 ++ .cells false (bagV (joinK (K2 i) (L2 i) (K2 i) (L2 i)) v1) :: (Y2 ++ [.cells false (bagV (joinK (K1 i) (L1 i) (K2 i) (L2 i)) v2)])))) (lim := 0) (es := 3) val_still (by simp) (joinR (K2 i) (L2 i) (K1 i) (L1 i))
  have d1 : ∀ T, frz (H0 ++ (Z ++ (Y1 ++ T))) 11 v1 = some (roL valC (joinR (K2 i) (L2 i) (K2 i) (L2 i))) := fun T => by simpa using (s1.app (X := T)).frz (d := 9) valC_len val_flat
  have d2 : ∀ T, frz (H0 ++ (Z ++ (Y1 ++ .cells false (bagV (joinK (K2 i) (L2 i) (K2 i) (L2 i)) v1) :: (Y2 ++ T)))) 11 v2 = some (roL valC (joinR (K1 i) (L1 i) (K2 i) (L2 i))) := fun T => by simpa using (s2.app (X := T)).frz (d := 9) valC_len val_flat
  have d3 : ∀ T, frz (H0 ++ (Z ++ (Y1 ++ .cells false (bagV (joinK (K2 i) (L2 i) (K2 i) (L2 i)) v1) :: (Y2 ++ .cells false (bagV (joinK (K1 i) (L1 i) (K2 i) (L2 i)) v2) :: (Y3 ++ T))))) 11 v3 = some (roL valC (joinR (K2 i) (L2 i) (K1 i) (L1 i))) := fun T => by simpa using (s3.app (X := T)).frz (d := 9) valC_len val_flat
  simp at q1 q2 q3
  simp [lp9_0, hi', hi, hi2, i27, ca, cb, f1, f2, k46 l2 l2, k46 l1 l2, k46 l2 l1, l1, l2, t1, t2, q1, q2, q3, s1.one, s2.one, s3.one, d1, d2, d3, k47 (jl _ _ _ _), y1, y2, y3, y4, y5, z1, z2, hw, -load_tp]
  exact nxt hJ (m - 1) (by omega) ⟨i + 1, _, by omega, rfl, rfl⟩
theorem bagTwice_law (cs : List AV) (h : FitsArgs [(false, .sl 3 24 (.cat [iS, iS, iS])), (false, .int .i64)] cs) : ∃ n H', callF envE (exec envE n) 9 cs 0 [] = some (.bool true, H') := by
  obtain ⟨r, rest, rfl, h1, t⟩ := fa_one h
  obtain ⟨c, rest, rfl, h2, t⟩ := fa_one t
  cases fa_nil t
  obtain ⟨l, e, hl, hb⟩ := of_steps h1
  cases e
  obtain ⟨x, e, _⟩ := fits_int h2
  cases e
  exact law_of (bagTwice_pu l x (by simp only [reachBytes] at hb; omega)) (by simp)
end Go.Proofs.YtkmikfhfjjmobaaA

namespace Go.Proofs.Ytkmikfhfjjmobaa.bagTwice
open Go.ChangeShapes Go.WideShapes Go.ChangeAt Go.RowKit
set_option linter.unusedVariables false
theorem own : ownKnob Try.prog.godebug = none := by kernel_rfl
set_option maxRecDepth 1000000 in
theorem lifted (os : Os) (started : os.Started) (H : Type) (enc : TypeId × Value → H) :
    ReturnsInHanded {} Try.checked os 9 .any (Rows.bagTwiceSpec.pre6 enc Try.prog Try.f9 Rows.bagTwiceRow.domain false) (Rows.bagTwiceSpec.post enc Try.prog Try.f9 false true false false) :=
  YtkmikfhfjjmobaaA.law_lifted (C := Try.checked) YtkmikfhfjjmobaaA.env_good (fd := YtkmikfhfjjmobaaA.fd9) (tb := 4) rfl own started (by kernel_rfl) Try.func9
    (ChangeSpec.witness6 (enc := enc) (C := Try.checked) false ⟨#[], #[((Try.prog.info? 77).bind (·.zero)).getD .nilFunc, ((Try.prog.info? 3).bind (·.zero)).getD .nilFunc], []⟩ 8 (by kernel_rfl) (by kernel_rfl) (by kernel_rfl) (by kernel_rfl))
    (by kernel_rfl) (by decide +kernel) (by kernel_rfl) rfl (by kernel_rfl) (by kernel_rfl) (fun ds h => by
      match ds, h with
      | [d0, d1], _ => rfl) YtkmikfhfjjmobaaA.bagTwice_law
theorem over : Rows.bagTwiceRow.holds Try.pinned (OpenSpec.ofChange Rows.bagTwiceSpec) :=
  OpenClaim.holds_of_wide 9 Try.f9 rfl rfl rfl rfl rfl rfl rfl ⟨rfl, rfl, rfl, rfl, rfl⟩ rfl rfl rfl rfl rfl (by kernel_rfl) Try.func9 (by kernel_rfl)
    (of_decide_eq_true (by kernel_rfl)) (by unfold Func.isWrapper; first | (rw [if_pos (by decide +kernel)]; kernel_rfl) | (rw [if_neg (by decide +kernel)]; exact ⟨rfl, rfl⟩))
    (fun os started H enc _ => lifted os started H enc)
end Go.Proofs.Ytkmikfhfjjmobaa.bagTwice
namespace Go.Proofs.Ytkmikfhfjjmobaa
/-- The row, under a short name, for the claim. -/
theorem bagTwice_holds : Rows.BagTwiceSaid := bagTwice.over
#print axioms bagTwice_holds
end Go.Proofs.Ytkmikfhfjjmobaa


/- 'starlinglaw17.LedgerSure' returns true for every row of calls, and the calls read behind it as they read before: what was sure is there, in order, whatever comes; behind a crash all that is there is sure, and is a beginning of what was. Without further conditions. -/
import Derived.Test.YtkmikfhfjjmobaaRows
import Derived.Test.YtkmikfhfjjmobaaL7
import Derived.WalkKit
import Derived.ProofKit
import Derived.ChangeOld
namespace Go.Proofs.YtkmikfhfjjmobaaA
open Go
set_option linter.unusedSimpArgs false
set_option linter.unusedVariables false
set_option maxRecDepth 1000000
attribute [local simp] deed_zero

theorem deedsSame_refl {l : List Deed} : deedsSame l l = true := deedsSame_iff.2 ⟨rfl, fun i h1 _ => deedSame_refl⟩
theorem fits_take {ds : List Deed} {j : Nat} (h : ∀ d ∈ ds, deedFits d) : ∀ d ∈ ds.take j, deedFits d := fun d hd => h d (List.mem_of_mem_take hd)

set_option maxHeartbeats 4000000 in
theorem ledgerSure_pu (l : List Call17) (hl : l.length < 4611686018427387904) (hb : ∀ c ∈ l, deedFits c.d ∧ c.d.key.length ≤ reachBytes) : Pu envE 5 [roL call17C l] (.bool true) := by
  have hrb : reachBytes = 140737488351232 := rfl
  refine pu_is e5 rfl ?_
  rw [fr_init (by simp [fd5])]
  obtain ⟨g, hg⟩ := c23 l hl (fun c hc => (hb c hc).1)
  cases g
  · simp [fd5, b5, wPu_eq hg]
  have emax : max 0 (min (100 : Int) 3000) = 100 := rfl
  have hnew : ∀ K, WCl envE 25 [I 100] 0 [] K = K (.ptr (some (0, 0))) [.cells false [.nilsl, I 0, I 100]] := fun K => by
    have := WCl_eq (K := K) (c25 100 0 [])
    rw [emax] at this
    exact this
  simp [fd5, b5, wPu_eq hg, hnew]
  refine loop_go [3, 4, 17, 18, 19] rfl (fun m vs H => ∃ i v ds s u, m + i = l.length ∧ Led 0 H 0 v ds (s : Nat) 100 ∧ s ≤ ds.length ∧ ds.length ≤ 100 ∧ (∀ d ∈ ds, deedFits d) ∧ Held 0 v H (ds.take s) u ∧ vs = [.ptr (some (0, 0)), u, roL call17C l, I l.length, I i]) ?_ l.length ⟨0, .nilsl, [], 0, .nilsl, rfl, ⟨rfl, .nil, by simp⟩, by simp, by simp, by simp, Held.nil, rfl⟩
  rintro J hJ m vs H f ⟨i, v, ds, s, u, hm, hL, hs, hds, hfit, hu, rfl⟩
  by_cases hi : i < l.length
  · have hw := wrap_succ (i := i) (by omega)
    obtain ⟨c, hc⟩ : ∃ c, c = l[i] := ⟨_, rfl⟩
    have hld := load_roL call17_len hi (H := H)
    obtain ⟨hcf, hck⟩ := hb l[i] (List.getElem_mem _)
    rw [← hc] at hld hcf hck
    simp [-deedC_eq, lp5_0, hi, idxSl_roL hi, hld, call17_len, call17_one, call17_over, -load_tp]
    obtain ⟨o, ho⟩ : ∃ o, o = H.length := ⟨_, rfl⟩
    have hLa := hL.app (X := [.cells false (call17C c)])
    have hua := hu.app (X := [.cells false (call17C c)])
    obtain ⟨Ha, hHa⟩ : ∃ Ha, Ha = H ++ [.cells false (call17C c)] := ⟨_, rfl⟩
    have cO : Ha[o]? = some (.cells false (call17C c)) := by rw [hHa, ho]; exact get_new
    rw [← hHa] at hLa hua ⊢
    rw [← ho]
    refine WCl.mono (c41 hLa hfit 0 (Nat.zero_le _)) ?_
    rintro x0 _ ⟨X0, rfl, hD0⟩
    have hx0 := Held.fresh hLa hD0
    have hL0 := hLa.app (X := X0)
    have hu0 := hua.app (X := X0)
    have cO0 := get_app (X := X0) cO
    obtain ⟨H0, hH0⟩ : ∃ H0, H0 = Ha ++ X0 := ⟨_, rfl⟩
    rw [← hH0] at hx0 hL0 hu0 cO0 ⊢
    have cc := cells_of cO0
    by_cases h0 : c.what = 0
    · have hlen0 := hx0.row.len
      have hlenu := hu0.row.len
      have ht : (ds.take s).length = s := by rw [List.length_take]; omega
      rw [ht] at hlenu
      have hsy : ∀ K, WCl envE 31 [.ptr (some (0, 0))] 0 H0 K = K (I (IntKind.i64.wrap ((ds.length : Int) - s))) (H0.set 0 (.cells false [v, I ds.length, I 100])) := fun K => WCl_eq (c31 hL0.at' hL0.row.len)
      simp [cc, call17_len, call17_f0, h0, hsy, hlen0, hlenu]
      have hL1 := hL0.sync ds.length
      refine WCl.mono (c41 hL1 hfit 0 (Nat.zero_le _)) ?_
      rintro x1 _ ⟨X1, rfl, hD1⟩
      have hx1 := Held.fresh hL1 hD1
      have hL2 := hL1.app (X := X1)
      simp
      refine WCl.mono (c41 hL2 hfit 0 (Nat.zero_le _)) ?_
      rintro x2 _ ⟨X2, rfl, hD2⟩
      have hx2 := Held.fresh hL2 hD2
      have hx1' := hx1.app (X := X2)
      have hL3 := hL2.app (X := X2)
      have l1 := hx1'.row.len
      have l2 := hx2.row.len
      obtain ⟨q1, q2, q3⟩ := hx2.row.cutv (j := ds.length) (k := .i64) (Nat.le_refl _)
      rw [List.take_length] at q2
      have f1 := q2.frz (n := 9)
      have f2 := hx1'.row.frz (n := 9)
      have hS : ∀ K, WCl envE 38 [.ptr (some (0, 0))] 0 (H0.set 0 (.cells false [v, I ds.length, I 100]) ++ X1 ++ X2) K = K (I ds.length) (H0.set 0 (.cells false [v, I ds.length, I 100]) ++ X1 ++ X2) := fun K => WCl_eq (c38 hL3.at' 0)
      have hll : ds.length < 4611686018427387904 := by omega
      simp only [List.append_assoc] at hS f1 f2
      simp [l1, l2, q1, f1, f2, k40 hll hfit, deedsSame_refl, hS, hw]
      refine nxt hJ (m - 1) (by omega) ⟨i + 1, v, ds, ds.length, x1, by omega, by simpa using hL3, Nat.le_refl _, hds, hfit, ?_, rfl⟩
      rw [List.take_length]
      simpa using hx1'
    by_cases h1 : c.what = 1
    · obtain ⟨k, hk⟩ : ∃ k, k = stayN c.n (ds.length - s) := ⟨_, rfl⟩
      obtain ⟨j, hj⟩ : ∃ j, j = s + k := ⟨_, rfl⟩
      have hkl : k ≤ ds.length - s := by rw [hk, stayN]; omega
      have hjl : j ≤ ds.length := by omega
      obtain ⟨q, hq⟩ : ∃ q, q = ds.length - j := ⟨_, rfl⟩
      have hcr := c33 hL0 hs c.n
      rw [← hk, ← hj, show ds.length - s - k = q from by omega] at hcr
      have hcr' : ∀ K, WCl envE 33 [.ptr (some (0, 0)), I c.n] 0 H0 K = K (I q) (H0.set 0 (.cells false [subAt v j, I j, I 100])) := fun K => WCl_eq hcr
      have hL1 := hL0.crash j hjl (j : Int)
      obtain ⟨_, _, hoff⟩ := hL0.row.cutv (j := j) (k := .i64) hjl
      have hx0' := hx0.setb (z := .cells false [subAt v j, I j, I 100]) hoff
      have hlen0 := hx0'.row.len
      have htj : (ds.take j).length = j := by rw [List.length_take]; omega
      have hfj := fits_take (j := j) hfit
      simp [cc, call17_len, call17_f0, call17_t1, h1, hcr']
      refine WCl.mono (c41 hL1 hfj 0 (Nat.zero_le _)) ?_
      rintro x1 _ ⟨X1, rfl, hD1⟩
      have hx1 := Held.fresh hL1 hD1
      have hL2 := hL1.app (X := X1)
      have hx0'' := hx0'.app (X := X1)
      have l1 := hx1.row.len
      rw [htj] at l1
      obtain ⟨p1, p2, p3⟩ := hx0''.row.cutv (j := j) (k := .i64) hjl
      have f1 := hx1.row.frz (n := 9)
      have f2 := p2.frz (n := 9)
      have hS1 : ∀ K, WCl envE 38 [.ptr (some (0, 0))] 0 (H0.set 0 (.cells false [subAt v j, I j, I 100]) ++ X1) K = K (I j) (H0.set 0 (.cells false [subAt v j, I j, I 100]) ++ X1) := fun K => WCl_eq (c38 hL2.at' 0)
      have hw1 : IntKind.i64.wrap ((j : Int) + q) = (ds.length : Int) := by rw [wrap_i64] <;> omega
      have hjn : ¬ ds.length < j := by omega
      have hll : (ds.take j).length < 4611686018427387904 := by omega
      simp [hlen0, l1, hw1, hjn, p1, f1, f2, k40 hll hfj, deedsSame_refl, hS1]
      refine WCl.mono (c41 hL2 hfj 0 (Nat.zero_le _)) ?_
      rintro x2 _ ⟨X2, rfl, hD2⟩
      have hx2 := Held.fresh hL2 hD2
      have hx1' := hx1.app (X := X2)
      have hL3 := hL2.app (X := X2)
      have l2 := hx2.row.len
      rw [htj] at l2
      obtain ⟨q1, q2, q3⟩ := hx2.row.cutv (j := j) (k := .i64) (by omega)
      rw [List.take_take, Nat.min_self] at q2
      have f3 := q2.frz (n := 9)
      have f4 := hx1'.row.frz (n := 9)
      have hS : ∀ K, WCl envE 38 [.ptr (some (0, 0))] 0 (H0.set 0 (.cells false [subAt v j, I j, I 100]) ++ X1 ++ X2) K = K (I j) (H0.set 0 (.cells false [subAt v j, I j, I 100]) ++ X1 ++ X2) := fun K => WCl_eq (c38 hL3.at' 0)
      simp only [List.append_assoc] at hS f3 f4
      simp [l1, l2, q1, f3, f4, k40 hll hfj, deedsSame_refl, hS, hw]
      refine nxt hJ (m - 1) (by omega) ⟨i + 1, subAt v j, ds.take j, j, x1, by omega, by simpa using hL3, by omega, by omega, hfj, ?_, rfl⟩
      rw [List.take_take, Nat.min_self]
      simpa using hx1'
    · have hlen0 := hx0.row.len
      have hm1 : deedM c.d (roL valC c.d.bag.vals) (roL intC c.d.ring.plan.targets) = deedC c.d := rfl
      have hwr := c35 hL0 (Nat.zero_le _) (by omega) (by omega) (by omega) c.d (roL valC c.d.bag.vals) (roL intC c.d.ring.plan.targets) hcf (by omega) (fun _ => frz_roL) (fun _ => frz_roL) rfl rfl
      rw [hm1] at hwr
      simp [-deedC_eq, cc, call17_len, call17_f0, call17_f2, h0, h1]
      refine WCl.mono hwr ?_
      rintro e H1 ⟨rfl, hlen1, hkeep, hif⟩
      have cc1 := cells_of (hkeep o _ cO0 (by have := lt_of hL.at'; omega) (hL0.row.off cO0))
      have fz : ∀ H, mapO (frz H 11) (deedC c.d) = some (deedC c.d) := fun H => frz_deed (d := 10) _
      obtain ⟨hcf1, hcf2⟩ := hcf
      have hmay : ∀ H K, wPu envE 27 (some [.agg (deedC c.d)]) H K = K (.bool (deedMay c.d)) H := fun H K => (wPu_eq (c27 c.d (by omega) (by omega) (by omega))).trans (by simp)
      obtain ⟨v1, ds1, hL1, hu1, hds1, hfit1, htk, heq⟩ : ∃ v1 ds1, Led 0 H1 0 v1 ds1 (s : Nat) 100 ∧ Held 0 v1 H1 (ds.take s) u ∧ ds1.length ≤ 100 ∧ (∀ d ∈ ds1, deedFits d) ∧ (ds1.take s = ds.take s ∧ s ≤ ds1.length) ∧ (writeE c.d ds 100 == 0) = (if deedMay c.d then decide ((ds.length : Int) < 100) else false) := by
        by_cases hm1 : deedMay c.d = true
        · by_cases h100 : (100 : Int) - ds.length = 0
          · have e : writeE c.d ds 100 = 5 := by simp [writeE, hm1, h100]
            rw [e] at hif
            refine ⟨v, ds, by simpa using hif, hu0.write hkeep fun k _ ho => ho, hds, hfit, ⟨rfl, hs⟩, ?_⟩
            have : ¬ (ds.length : Int) < 100 := by omega
            rw [e, hm1]
            simp [this]
          · have e : writeE c.d ds 100 = 0 := by simp [writeE, hm1, h100]
            rw [e] at hif
            simp at hif
            obtain ⟨v', g1, g2⟩ := hif
            refine ⟨v', ds ++ [c.d], g1, hu0.write hkeep fun k hk _ => g2 k hk, by simp; omega, fun d hd => ?_, ⟨List.take_append_of_le_length hs, by simp; omega⟩, ?_⟩
            · rcases List.mem_append.1 hd with q | q
              · exact hfit d q
              · rw [List.mem_singleton.1 q]; exact ⟨hcf1, hcf2⟩
            · have : (ds.length : Int) < 100 := by omega
              rw [e, hm1]
              simp [this]
        · have e : writeE c.d ds 100 = 1 := by simp [writeE, hm1]
          rw [e] at hif
          refine ⟨v, ds, by simpa using hif, hu0.write hkeep fun k _ ho => ho, hds, hfit, ⟨rfl, hs⟩, ?_⟩
          rw [e]
          simp [hm1]
      have ht : (ds.take s).length = s := by rw [List.length_take]; omega
      have hstep : ∀ K : Prop, K → K := fun _ h => h
      by_cases hm2 : deedMay c.d = true
      all_goals
        simp only [hm2, if_true, if_false, Bool.false_eq_true] at heq
        simp [-deedC_eq, cc1, call17_len, call17_f2, fz, hmay, hm2, hlen0, heq]
        refine WCl.mono (c41 hL1 hfit1 0 (Nat.zero_le _)) ?_
        rintro x2 _ ⟨X2, rfl, hD2⟩
        have hx2 := Held.fresh hL1 hD2
        have hu2 := hu1.app (X := X2)
        have hL3 := hL1.app (X := X2)
        have l1 := hu2.row.len
        rw [ht] at l1
        have l2 := hx2.row.len
        obtain ⟨q1, q2, q3⟩ := hx2.row.cutv (j := s) (k := .i64) htk.2
        rw [htk.1] at q2
        have f3 := q2.frz (n := 9)
        have f4 := hu2.row.frz (n := 9)
        have hS : ∀ K, WCl envE 38 [.ptr (some (0, 0))] 0 (H1 ++ X2) K = K (I s) (H1 ++ X2) := fun K => WCl_eq (c38 hL3.at' 0)
        have hsl : ¬ ds1.length < s := by have := htk.2; omega
        have hsl2 : s ≤ ds1.length := htk.2
        have hll : (ds.take s).length < 4611686018427387904 := by omega
        simp [l1, l2, hsl, q1, f3, f4, k40 hll (fits_take hfit), deedsSame_refl, hS, hw]
        refine nxt hJ (m - 1) (by omega) ⟨i + 1, v1, ds1, s, u, by omega, hL3, hsl2, hds1, hfit1, ?_, rfl⟩
        rw [htk.1]
        exact hu2
  · simp [lp5_0, hi]
theorem ledgerSure_law (cs : List AV) (h : FitsArgs [(false, .sl 58 504 shCall17)] cs) : ∃ n H', callF envE (exec envE n) 5 cs 0 [] = some (.bool true, H') := by
  obtain ⟨c, rest, rfl, h2, t⟩ := fa_one h
  cases fa_nil t
  obtain ⟨l, e2, _, hl, hq⟩ := fits_sl2 (f := call17C) (Q := fun c => deedFits c.d ∧ c.d.key.length ≤ reachBytes) (fun r hr => of_call17 hr) h2
  cases e2
  have hrb : reachBytes = 140737488351232 := rfl
  exact law_of (ledgerSure_pu l (by omega) hq) (by simp)
end Go.Proofs.YtkmikfhfjjmobaaA

namespace Go.Proofs.Ytkmikfhfjjmobaa.ledgerSure
open Go.ChangeShapes Go.WideShapes Go.ChangeAt Go.RowKit
set_option linter.unusedVariables false
theorem own : ownKnob Try.prog.godebug = none := by kernel_rfl
set_option maxRecDepth 1000000 in
theorem lifted (os : Os) (started : os.Started) (H : Type) (enc : TypeId × Value → H) :
    ReturnsInHanded {} Try.checked os 5 .any (Rows.ledgerSureSpec.pre6 enc Try.prog Try.f5 Rows.ledgerSureRow.domain false) (Rows.ledgerSureSpec.post enc Try.prog Try.f5 false true false false) :=
  YtkmikfhfjjmobaaA.law_lifted (C := Try.checked) YtkmikfhfjjmobaaA.env_good (fd := YtkmikfhfjjmobaaA.fd5) (tb := 4) rfl own started (by kernel_rfl) Try.func5
    (ChangeSpec.witness6 (enc := enc) (C := Try.checked) false ⟨#[], #[((Try.prog.info? 42).bind (·.zero)).getD .nilFunc], []⟩ 8 (by kernel_rfl) (by kernel_rfl) (by kernel_rfl) (by kernel_rfl))
    (by kernel_rfl) (by decide +kernel) (by kernel_rfl) rfl (by kernel_rfl) (by kernel_rfl) (fun ds h => by
      match ds, h with
      | [d0], _ => rfl) YtkmikfhfjjmobaaA.ledgerSure_law
theorem over : Rows.ledgerSureRow.holds Try.pinned (OpenSpec.ofChange Rows.ledgerSureSpec) :=
  OpenClaim.holds_of_wide 5 Try.f5 rfl rfl rfl rfl rfl rfl rfl ⟨rfl, rfl, rfl, rfl, rfl⟩ rfl rfl rfl rfl rfl (by kernel_rfl) Try.func5 (by kernel_rfl)
    (of_decide_eq_true (by kernel_rfl)) (by unfold Func.isWrapper; first | (rw [if_pos (by decide +kernel)]; kernel_rfl) | (rw [if_neg (by decide +kernel)]; exact ⟨rfl, rfl⟩))
    (fun os started H enc _ => lifted os started H enc)
end Go.Proofs.Ytkmikfhfjjmobaa.ledgerSure
namespace Go.Proofs.Ytkmikfhfjjmobaa
/-- The row, under a short name, for the claim. -/
theorem ledgerSure_holds : Rows.LedgerSureSaid := ledgerSure.over
#print axioms ledgerSure_holds
end Go.Proofs.Ytkmikfhfjjmobaa


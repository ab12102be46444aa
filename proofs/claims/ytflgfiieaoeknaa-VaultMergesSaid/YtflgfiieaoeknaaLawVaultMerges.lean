/- 'starlinglaw18.VaultMerges' returns true for all puts and every turn: bags of one key that came of puts, merged in whatever order, are the last of them; merged again nothing is written. Without further conditions. -/
import Derived.Test.YtflgfiieaoeknaaRows
import Derived.Test.YtflgfiieaoeknaaR4
import Derived.Test.YtflgfiieaoeknaaAW11
import Derived.WalkKit
import Derived.ProofKit
import Derived.ChangeOld
namespace Go.Proofs.YtflgfiieaoeknaaA
open Go Go.RowKit
set_option linter.unusedSimpArgs false
set_option linter.unusedVariables false
set_option maxRecDepth 1000000
attribute [local simp] vec_zero bagV_zero

theorem k11 {H : Heap} {K : AV → Heap → Prop} : wPu envE 11 (some []) H K = K (.bool true) H := run_pu e11 rfl (fun _ => rfl) awake11
theorem mod_nat (x M : Int) (m : Nat) (hM : M = m) (h0 : 0 < m) (hm : m < 100) : ∃ N : Nat, N < m ∧ IntKind.i64.wrap ((IntKind.u64.wrap x).tmod M) = (N : Int) := by
  subst hM
  have hx : 0 ≤ IntKind.u64.wrap x := by simp [IntKind.wrap, IntKind.signed, IntKind.bits]; omega
  have h1 := Int.emod_nonneg (IntKind.u64.wrap x) (b := (m : Int)) (by omega)
  have h2 := Int.emod_lt_of_pos (IntKind.u64.wrap x) (b := (m : Int)) (by omega)
  refine ⟨((IntKind.u64.wrap x) % m).toNat, by omega, ?_⟩
  rw [Int.tmod_eq_emod_of_nonneg hx, wrap_i64] <;> omega
set_option maxHeartbeats 2000000 in
theorem vaultMerges_pu (ps : List Int) (turn : Int) (hl : ps.length < 4611686018427387904) : Pu envE 3 [roL intC ps, I turn] (.bool true) := by
  refine pu_is e3 rfl ?_
  by_cases h20 : (20 : Int) < ps.length
  · rw [fr_init (by simp [fd3])]
    simp [fd3, b3, h20, k11]
  rw [fr_init (by simp [fd3])]
  simp [fd3, b3, h20]
  have hb0 : BRow 0 [ABlk.cells false (bagV zeroV .nilsl), ABlk.cells true (bagV zeroV .nilsl)] [zBagS] (.sl 1 0 1 9) := by
    refine .inr ⟨1, _, Nat.zero_le _, rfl, rfl, by simp, fun i hi => ?_⟩
    obtain rfl : i = 0 := by simp at hi; omega
    exact ⟨.nilsl, by simp [bagM, zBagS], .nil, Off.nil⟩
  refine loop_go [1, 5, 6, 26, 27, 28] rfl (fun m vs H => ∃ i xs v x q, m + i = ps.length ∧ xs.length = i + 1 ∧ xs[0]? = some zBagS ∧ xs[i]? = some x ∧ H[0]? = some (.cells false (bagV x.known q)) ∧ Row 0 H 3 valC x.vals q ∧ (∀ c, ¬ Off v c → Off q c) ∧ BRow 0 H xs v ∧ Ch xs ∧ vs = [I turn, .ptr (some (0, 0)), v, roL intC ps, I ps.length, I i]) ?_ ps.length ⟨0, [zBagS], .sl 1 0 1 9, zBagS, .nilsl, rfl, rfl, rfl, rfl, rfl, .nil, fun _ _ => Off.nil, hb0, Ch.start, rfl⟩
  rintro J hJ m vs H f ⟨i, xs, v, x, q, hm, hxl, hx0, hxi, hb, hq, hoff, hrow, hch, rfl⟩
  by_cases hi : i < ps.length
  · have hw := wrap_succ (i := i) (by omega)
    have hld := int_load hi (H := H)
    obtain ⟨N, hN3, hN⟩ := mod_nat ps[i] 3 3 rfl (by omega) (by omega)
    have hxe : xs[i]'(by omega) = x := by
      rw [List.getElem?_eq_getElem (by omega)] at hxi
      exact Option.some.inj hxi
    have hxok : BagOk x.known x.vals := by have := hch.ok i (by omega); rw [hxe] at this; exact this
    have hxlen := hxok.len
    simp [lp3_0, hi, idxSl_roL hi, hld, -load_tp]
    generalize (IntKind.i64.wrap _ == 1) = tt
    cases tt
    · obtain ⟨HA, hHA⟩ : ∃ HA, HA = H ++ [ABlk.cells false (vecC (zeroV))] := ⟨_, rfl⟩
      have bA : HA[0]? = some (.cells false (bagV x.known q)) := by rw [hHA]; exact get_app hb
      have cA : HA[H.length]? = some (.cells false (vecC (zeroV))) := by rw [hHA]; exact get_new
      have qA : Row 0 HA 3 valC x.vals q := by rw [hHA]; exact hq.app
      have fzq := qA.frz (d := 9) valC_len val_flat
      have lA : HA.length = H.length + 1 := by rw [hHA]; simp
      obtain ⟨b, hbg⟩ : ∃ b : Bag, b = ⟨putK x.known x.vals (zeroV) N (i + 1) [120], putR x.known x.vals (zeroV) N (i + 1) [120]⟩ := ⟨_, rfl⟩
      obtain ⟨E, hE⟩ : ∃ E, E = putE x.known x.vals (zeroV) N (i + 1) [120] := ⟨_, rfl⟩
      obtain ⟨v1, X1, t1, r1⟩ := thaw_owL (H := HA) (lim := HA.length) (es := 3) val_still (Nat.le_refl _) b.vals
      have k12i : ∀ K, wPu envE 12 (some [.agg (bagV x.known (roL valC x.vals)), .agg (vecC (zeroV)), .agg [I N, I ((i : Int) + 1)], .str [120]]) HA K = K (.tup [.agg (bagV b.known v1), I E]) (HA ++ X1) := fun K => by
        have := k12g (k := x.known) (known := zeroV) (l := x.vals) (a := N) (c := i + 1) (data := [120]) (by omega) (H := HA) (K := K)
        rw [← hE] at this
        have e1 : b.vals = putR x.known x.vals (zeroV) N (i + 1) [120] := by rw [hbg]
        have e2 : b.known = putK x.known x.vals (zeroV) N (i + 1) [120] := by rw [hbg]
        rw [← e1, ← e2, t1] at this
        exact this
      have o1 := r1.one
      simp [← hHA, cells_of bA, cells_of cA, fzq, hN, hw, k12i, o1]
      by_cases hE0 : E = 0
      case neg => simp [hE0, k11]
      have hputok := put_okB (known := zeroV) (a := N) (c := i + 1) (data := [120]) hxok (by rw [← hE]; exact hE0) rfl
      have hbok : BagOk b.known b.vals := by rw [hbg]; exact hputok.1
      have hup : Upon x.known x.vals b.known b.vals := by rw [hbg]; exact hputok.2
      obtain ⟨HC, hHC⟩ : ∃ HC, HC = (HA ++ (X1 ++ [ABlk.cells false (bagV b.known v1)])).set 0 (.cells false (bagV b.known v1)) := ⟨_, rfl⟩
      have bB : (HA ++ (X1 ++ [ABlk.cells false (bagV b.known v1)]))[0]? = some (.cells false (bagV x.known q)) := get_app bA
      have bC : HC[0]? = some (.cells false (bagV b.known v1)) := by rw [hHC, List.getElem?_set_self (lt_of bB)]
      have sB : storeAt 0 (HA ++ (X1 ++ [ABlk.cells false (bagV b.known v1)])) 9 (.ptr (some (0, 0))) (.agg (bagV b.known v1)) = some HC := by
        have := store_of (lim := 0) (n := 9) (o := 0) (v := .agg (bagV b.known v1)) bB (Nat.zero_le _) (by simp [AV.cells]) (by simp) (by simp [AV.cells, o1])
        rw [this, hHC]
        rfl
      obtain ⟨HD, hHD⟩ : ∃ HD, HD = HC ++ [ABlk.cells true (bagV b.known v1)] := ⟨_, rfl⟩
      have r1A : Row HA.length (HA ++ (X1 ++ [ABlk.cells false (bagV b.known v1)])) 3 valC b.vals v1 := by rw [← List.append_assoc]; exact r1.app
      have r1C : Row HA.length HC 3 valC b.vals v1 := by rw [hHC]; exact r1A.setF bB
      have r1D : Row HA.length HD 3 valC b.vals v1 := by rw [hHD]; exact r1C.app
      have rowA : BRow 0 HA xs v := by rw [hHA]; exact hrow.app
      have rowC : BRow 0 HC xs v := by rw [hHC]; exact (rowA.app).setF bB
      have rowD : BRow 0 HD xs v := by rw [hHD]; exact rowC.app
      have lC : HA.length + (X1.length + 1) = HC.length := by rw [hHC]; simp
      have nD : HD[HC.length]? = some (.cells true (bagM b v1)) := by rw [hHD]; exact get_new
      have hoA : ∀ c, ¬ Off v c → c < HA.length := fun c hc => by
        rcases Nat.lt_or_ge c HA.length with p | p
        · exact p
        · exact absurd (rowA.off_ge p) hc
      obtain ⟨v', H', a1, row', l', keep', off', _⟩ := rowD.push (lim2 := 0) nD (r1D.mono (Nat.zero_le _)) (fun c hc => r1D.off (hoA c hc)) (Nat.zero_le _) (by simp only [most]; omega) (Nat.le_refl _)
      have bD : HD[0]? = some (.cells false (bagV b.known v1)) := by rw [hHD]; exact get_app bC
      have b' := keep' 0 _ bD (rowD.off bD)
      have r' : Row 0 H' 3 valC b.vals v1 := (r1D.mono (Nat.zero_le _)).keep fun c y hc ho => keep' c _ hc (by
        rcases Nat.lt_or_ge c HA.length with p | p
        · exact absurd (r1D.off p) ho
        · exact rowA.off_ge p)
      have o' := row'.one
      simp [hE0, sB, cells_of bC, o1, ← hHD, a1, hw]
      refine nxt hJ (m - 1) (by omega) ⟨i + 1, xs ++ [b], v', b, v1, by omega, by simp [hxl], by rw [List.getElem?_append_left (by omega)]; exact hx0, by rw [← hxl]; simp, b', r', fun c hc => ?_, row', hch.push i (by omega) hxl hbok (by rw [hxe]; exact hup), rfl⟩
      rcases Nat.lt_or_ge c HD.length with p | p
      · exact absurd (off' c p) hc
      · exact r1D.off_ge p
    · obtain ⟨HA, hHA⟩ : ∃ HA, HA = H ++ [ABlk.cells false (vecC (x.known))] := ⟨_, rfl⟩
      have bA : HA[0]? = some (.cells false (bagV x.known q)) := by rw [hHA]; exact get_app hb
      have cA : HA[H.length]? = some (.cells false (vecC (x.known))) := by rw [hHA]; exact get_new
      have qA : Row 0 HA 3 valC x.vals q := by rw [hHA]; exact hq.app
      have fzq := qA.frz (d := 9) valC_len val_flat
      have lA : HA.length = H.length + 1 := by rw [hHA]; simp
      obtain ⟨b, hbg⟩ : ∃ b : Bag, b = ⟨putK x.known x.vals (x.known) N (i + 1) [120], putR x.known x.vals (x.known) N (i + 1) [120]⟩ := ⟨_, rfl⟩
      obtain ⟨E, hE⟩ : ∃ E, E = putE x.known x.vals (x.known) N (i + 1) [120] := ⟨_, rfl⟩
      obtain ⟨v1, X1, t1, r1⟩ := thaw_owL (H := HA) (lim := HA.length) (es := 3) val_still (Nat.le_refl _) b.vals
      have k12i : ∀ K, wPu envE 12 (some [.agg (bagV x.known (roL valC x.vals)), .agg (vecC (x.known)), .agg [I N, I ((i : Int) + 1)], .str [120]]) HA K = K (.tup [.agg (bagV b.known v1), I E]) (HA ++ X1) := fun K => by
        have := k12g (k := x.known) (known := x.known) (l := x.vals) (a := N) (c := i + 1) (data := [120]) (by omega) (H := HA) (K := K)
        rw [← hE] at this
        have e1 : b.vals = putR x.known x.vals (x.known) N (i + 1) [120] := by rw [hbg]
        have e2 : b.known = putK x.known x.vals (x.known) N (i + 1) [120] := by rw [hbg]
        rw [← e1, ← e2, t1] at this
        exact this
      have o1 := r1.one
      simp [cells_of (get_app hb), cells_of (get_app (X := [ABlk.cells false (vecC zeroV)]) hb), ← hHA, cells_of bA, cells_of cA, fzq, hN, hw, k12i, o1]
      by_cases hE0 : E = 0
      case neg => simp [hE0, k11]
      have hputok := put_okB (known := x.known) (a := N) (c := i + 1) (data := [120]) hxok (by rw [← hE]; exact hE0) rfl
      have hbok : BagOk b.known b.vals := by rw [hbg]; exact hputok.1
      have hup : Upon x.known x.vals b.known b.vals := by rw [hbg]; exact hputok.2
      obtain ⟨HC, hHC⟩ : ∃ HC, HC = (HA ++ (X1 ++ [ABlk.cells false (bagV b.known v1)])).set 0 (.cells false (bagV b.known v1)) := ⟨_, rfl⟩
      have bB : (HA ++ (X1 ++ [ABlk.cells false (bagV b.known v1)]))[0]? = some (.cells false (bagV x.known q)) := get_app bA
      have bC : HC[0]? = some (.cells false (bagV b.known v1)) := by rw [hHC, List.getElem?_set_self (lt_of bB)]
      have sB : storeAt 0 (HA ++ (X1 ++ [ABlk.cells false (bagV b.known v1)])) 9 (.ptr (some (0, 0))) (.agg (bagV b.known v1)) = some HC := by
        have := store_of (lim := 0) (n := 9) (o := 0) (v := .agg (bagV b.known v1)) bB (Nat.zero_le _) (by simp [AV.cells]) (by simp) (by simp [AV.cells, o1])
        rw [this, hHC]
        rfl
      obtain ⟨HD, hHD⟩ : ∃ HD, HD = HC ++ [ABlk.cells true (bagV b.known v1)] := ⟨_, rfl⟩
      have r1A : Row HA.length (HA ++ (X1 ++ [ABlk.cells false (bagV b.known v1)])) 3 valC b.vals v1 := by rw [← List.append_assoc]; exact r1.app
      have r1C : Row HA.length HC 3 valC b.vals v1 := by rw [hHC]; exact r1A.setF bB
      have r1D : Row HA.length HD 3 valC b.vals v1 := by rw [hHD]; exact r1C.app
      have rowA : BRow 0 HA xs v := by rw [hHA]; exact hrow.app
      have rowC : BRow 0 HC xs v := by rw [hHC]; exact (rowA.app).setF bB
      have rowD : BRow 0 HD xs v := by rw [hHD]; exact rowC.app
      have lC : HA.length + (X1.length + 1) = HC.length := by rw [hHC]; simp
      have nD : HD[HC.length]? = some (.cells true (bagM b v1)) := by rw [hHD]; exact get_new
      have hoA : ∀ c, ¬ Off v c → c < HA.length := fun c hc => by
        rcases Nat.lt_or_ge c HA.length with p | p
        · exact p
        · exact absurd (rowA.off_ge p) hc
      obtain ⟨v', H', a1, row', l', keep', off', _⟩ := rowD.push (lim2 := 0) nD (r1D.mono (Nat.zero_le _)) (fun c hc => r1D.off (hoA c hc)) (Nat.zero_le _) (by simp only [most]; omega) (Nat.le_refl _)
      have bD : HD[0]? = some (.cells false (bagV b.known v1)) := by rw [hHD]; exact get_app bC
      have b' := keep' 0 _ bD (rowD.off bD)
      have r' : Row 0 H' 3 valC b.vals v1 := (r1D.mono (Nat.zero_le _)).keep fun c y hc ho => keep' c _ hc (by
        rcases Nat.lt_or_ge c HA.length with p | p
        · exact absurd (r1D.off p) ho
        · exact rowA.off_ge p)
      have o' := row'.one
      simp [hE0, sB, cells_of bC, o1, ← hHD, a1, hw]
      refine nxt hJ (m - 1) (by omega) ⟨i + 1, xs ++ [b], v', b, v1, by omega, by simp [hxl], by rw [List.getElem?_append_left (by omega)]; exact hx0, by rw [← hxl]; simp, b', r', fun c hc => ?_, row', hch.push i (by omega) hxl hbok (by rw [hxe]; exact hup), rfl⟩
      rcases Nat.lt_or_ge c HD.length with p | p
      · exact absurd (off' c p) hc
      · exact r1D.off_ge p
  · have hip : i = ps.length := by omega
    obtain ⟨n, hn⟩ : ∃ n, n = xs.length := ⟨_, rfl⟩
    have hn21 : n ≤ 21 := by omega
    have hn0 : 0 < n := by omega
    have nr := fun K => new_room (room := 100) (H := H) (lim := 0) (K := K) (by omega) (by omega)
    simp [lp3_0, hi, nr]
    refine open_new 100 H (by omega) (by omega) ?_
    intro X hv
    obtain ⟨k, hkn, hK⟩ := mod_nat turn (n : Int) n rfl hn0 (by omega)
    have hu : IntKind.u64.wrap (n : Int) = (n : Int) := by simp [IntKind.wrap, IntKind.signed, IntKind.bits]; omega
    have hlen := hrow.len
    rw [← hn] at hlen
    have l0 := lt_of hb
    have b1 := get_app (X := X) hb
    have q1 : Row 0 (H ++ X) 3 valC x.vals q := hq.app
    have row1 : BRow 0 (H ++ X) xs v := hrow.app
    have ok0 := empty_ok (room := 100) (by omega) (by omega)
    have hvm0 : Vm (emptyS 100) [107] zBagS 0 := ⟨ok0, by simp [emptyS, bagOf, lookB]; exact .refl, by simp [emptyS], by simp [emptyS], by simp [emptyS], rfl, rfl⟩
    have kk : keyOk [107] = true := rfl
    obtain ⟨p, hp⟩ : ∃ p, p = H.length + 2 := ⟨_, rfl⟩
    obtain ⟨lb, hlb⟩ : ∃ p, p = H.length := ⟨_, rfl⟩
    obtain ⟨mi, hmi⟩ : ∃ p, p = H.length + 1 := ⟨_, rfl⟩
    rw [← hp, ← hmi, ← hlb] at hv
    rw [← hp, ← hlb]
    have hnz0 : ¬ n = 0 := by omega
    simp [hlen, hu, hK, hnz0]
    refine loop_go [5, 6, 12, 13, 14, 72, 73] rfl (fun m vs H' => ∃ j c s t xc vv qq es ck, m + j = n ∧ H'[0]? = some (.cells false (bagV x.known q)) ∧ Row 0 H' 3 valC x.vals q ∧ BRow 0 H' xs v ∧ Vlt H' p lb mi s vv qq es ck ∧ c < n ∧ xs[c]? = some xc ∧ Vm s [107] xc t ∧ t ≤ j ∧ (∀ i', i' < j → (i' + k) % n ≤ c) ∧ vs = [.ptr (some (0, 0)), v, .ptr (some (lb, 0)), .ptr (some (p, 0)), I k, I n, I j]) ?_ n ⟨0, 0, emptyS 100, 0, zBagS, _, _, _, _, rfl, b1, q1, row1, hv, hn0, hx0, hvm0, Nat.le_refl _, by omega, rfl⟩
    rintro J2 hJ2 m2 vs H2 f2 ⟨j, c, s, t, xc, vv, qq, es, ck, hm2, b2, q2, row2, hv2, hcn, hxc, hvm, htj, hvis, rfl⟩
    have hcl : c < xs.length := by omega
    have hxce : xs[c] = xc := by
      rw [List.getElem?_eq_getElem hcl] at hxc
      exact Option.some.inj hxc
    have hxcok : BagOk xc.known xc.vals := by have := hch.ok c hcl; rw [hxce] at this; exact this
    have hlen2 := row2.len
    rw [← hn] at hlen2
    by_cases hj : j < n
    · have hwj := wrap_succ (i := j) (by omega)
      have hw2 : IntKind.i64.wrap ((j : Int) + k) = ((j + k : Nat) : Int) := by rw [wrap_i64] <;> omega
      obtain ⟨d, hd⟩ : ∃ d, d = (j + k) % n := ⟨_, rfl⟩
      have hdn : d < n := by rw [hd]; exact Nat.mod_lt _ hn0
      have hw3 : ((j + k : Nat) : Int).tmod (n : Int) = (d : Int) := by rw [hd, Int.tmod_eq_emod_of_nonneg (by omega)]; rfl
      have hw2' : IntKind.i64.wrap ((j : Int) + k) = (j : Int) + k := by rw [wrap_i64] <;> omega
      have hw3' : ((j : Int) + k).tmod (n : Int) = (d : Int) := by rw [← hw3]; rfl
      have hdl : d < xs.length := by omega
      obtain ⟨w, hld, rw'⟩ := row2.load hdl
      have hdok := hch.ok d hdl
      have hat := row2.at (k := .i64) hdl
      have hnz : ¬ (n : Int) = 0 := by omega
      have hnz2 : ¬ n = 0 := by omega
      have hld' : loadAt H2 (some 9) (ptrAt v d 9) = some (.agg (bagV xs[d].known w)) := hld
      have hrb : reachBytes = 140737488351232 := rfl
      have h15 := c15 hv2 hvm.ok [107] xs[d] w (.inl rw') (by have := hdok.len; omega)
      simp [lp3_1, hj, hlen2, hw2', hw3', hnz, hnz2, hat, hld']
      refine WCl.mono h15 ?_
      rintro _ H3 ⟨rfl, k3, v3, q3, es3, ck3, hv3⟩
      have hl2 : 0 < H.length := by omega
      have b3 := k3.2 0 _ b2 (by omega) (by omega) (by omega) (by intro y e; cases e)
      have q3' := q2.keepD (isD_val _) (k3.rows hv2)
      have row3 := row2.keepD (k3.rows hv2)
      rcases Nat.lt_or_ge c d with hcd | hcd
      · obtain ⟨s', hmg, hvm'⟩ := merge_up hvm kk hxcok hdok (by have := hch.up c d hcl hdl (by omega); rw [hxce] at this; exact this) (by omega)
        rw [hmg] at hv3
        simp [hmg, hwj]
        exact nxt hJ2 (m2 - 1) (by omega) ⟨j + 1, d, s', t + 1, xs[d], v3, q3, es3, ck3, by omega, b3, q3', row3, hv3, hdn, List.getElem?_eq_getElem hdl, hvm', by omega, fun i' hi' => by
          rcases Nat.lt_or_ge i' j with z | z
          · have := hvis i' z; omega
          · obtain rfl : i' = j := by omega
            omega, rfl⟩
      · have hmg := merge_down hvm kk hxcok hdok (by have := hch.up d c hdl hcl hcd; rw [hxce] at this; exact this)
        rw [hmg] at hv3
        simp [hmg, hwj]
        exact nxt hJ2 (m2 - 1) (by omega) ⟨j + 1, c, s, t, xc, v3, q3, es3, ck3, by omega, b3, q3', row3, hv3, hcn, hxc, hvm, by omega, fun i' hi' => by
          rcases Nat.lt_or_ge i' j with z | z
          · exact hvis i' z
          · obtain rfl : i' = j := by omega
            omega, rfl⟩
    · have hc1 : c = n - 1 := by
        have := hvis (n - 1 - k) (by omega)
        rw [show n - 1 - k + k = n - 1 from by omega, Nat.mod_eq_of_lt (by omega)] at this
        omega
      have hxx : xc = x := by
        have : c = i := by omega
        rw [this, hxi] at hxc
        exact (Option.some.inj hxc).symm
      subst hxx
      have z1 : ∀ H9 K lim vv qq es ck, Vlt H9 p lb mi s vv qq es ck → WCl envE 16 [.ptr (some (lb, 0))] lim H9 K = K (I s.ds.length) H9 := fun H9 K lim vv qq es ck h9 => WCl_eq (c16 h9.led.at' h9.led.row.len lim)
      simp [lp3_1, hj, z1 H2 _ _ _ _ _ _ hv2, hlen2]
      refine loop_go [5, 12, 13, 16, 91, 92, 93] rfl (fun m vs H' => ∃ j vv qq es ck, m + j = n ∧ H'[0]? = some (.cells false (bagV xc.known q)) ∧ Row 0 H' 3 valC xc.vals q ∧ BRow 0 H' xs v ∧ Vlt H' p lb mi s vv qq es ck ∧ vs = [.ptr (some (0, 0)), .ptr (some (lb, 0)), .ptr (some (p, 0)), I s.ds.length, v, I n, I j]) ?_ n ⟨0, _, _, _, _, rfl, b2, q2, row2, hv2, rfl⟩
      rintro J3 hJ3 m3 vs H3 f3 ⟨j3, v3, qq3, es3, ck3, hm3, b3, q3, row3, hv3, rfl⟩
      have hl2 : 0 < H.length := by omega
      have hrb : reachBytes = 140737488351232 := rfl
      by_cases hj3 : j3 < n
      · have hwj := wrap_succ (i := j3) (by omega)
        have hdl : j3 < xs.length := by omega
        obtain ⟨w, hld, rw'⟩ := row3.load hdl
        have hdok := hch.ok j3 hdl
        have hat := row3.at (k := .i64) hdl
        have hld' : loadAt H3 (some 9) (ptrAt v j3 9) = some (.agg (bagV xs[j3].known w)) := hld
        have ow := rw'.one
        have hmg := merge_down hvm kk hxcok hdok (by have := hch.up j3 c hdl hcl (by omega); rw [hxce] at this; exact this)
        have h15 := c15 (hv3.app (X := [ABlk.cells false (bagV xs[j3].known w)])) hvm.ok [107] xs[j3] w (.inl rw'.app) (by have := hdok.len; omega)
        rw [hmg] at h15
        simp [lp3_2, hj3, hat, hld', ow]
        refine WCl.mono h15 ?_
        rintro _ H4 ⟨rfl, k4, v4, q4, es4, ck4, hv4⟩
        have hv3a := hv3.app (X := [ABlk.cells false (bagV xs[j3].known w)])
        have b4 := k4.2 0 _ (get_app b3) (by omega) (by omega) (by omega) (by intro y e; cases e)
        have q4' := (q3.app (X := [ABlk.cells false (bagV xs[j3].known w)])).keepD (isD_val _) (k4.rows hv3a)
        have row4 := (row3.app (X := [ABlk.cells false (bagV xs[j3].known w)])).keepD (k4.rows hv3a)
        simp [z1 H4 _ _ _ _ _ _ hv4, hwj]
        exact nxt hJ3 (m3 - 1) (by omega) ⟨j3 + 1, v4, q4, es4, ck4, by omega, b4, q4', row4, hv4, rfl⟩
      · simp [lp3_2, hj3]
        refine WCl.mono (c18 hv3 hvm.ok [107] H3.length (Nat.le_refl _)) ?_
        rintro _ _ ⟨Y, q9, rfl, rfl, hq9⟩
        have o9 := hq9.one
        have f9 := hq9.frz (d := 9) valC_len val_flat
        have f3 := (q3.app (X := Y)).frz (d := 9) valC_len val_flat
        have hsame : bagSame (bagOf s [107]).known (bagOf s [107]).vals xc.known xc.vals = true := by
          simp only [bagSame, hvm.is'.vals, Bool.and_eq_true, decide_eq_true_eq, and_true]
          exact vecEq_iff.2 hvm.is'.known
        have hblen : (bagOf s [107]).vals.length < 4611686018427387904 := bag_len hvm.ok
        have k17i := fun H K => k17 (k := (bagOf s [107]).known) (k' := xc.known) (l := (bagOf s [107]).vals) (l' := xc.vals) hblen (H := H) (K := K)
        rw [hsame] at k17i
        have hvY := hv3.app (X := Y)
        have z19 : ∀ K lim, WCl envE 19 [.ptr (some (p, 0))] lim (H3 ++ Y) K = K (I 0) (H3 ++ Y) := fun K lim => by
          have := c19 hvY lim
          rw [hvm.dots] at this
          exact WCl_eq this
        have bY := cells_of (get_app (X := Y) b3)
        have hmg : mergeO s [] xc = ⟨1, s⟩ := by
          unfold mergeO
          rw [if_pos (.inl rfl)]
        have h15 := c15 hvY hvm.ok [] xc q (.inl q3.app) (by have := hxcok.len; omega)
        rw [hmg] at h15
        simp [bY, f9, f3, k17i, z19]
        refine WCl.mono h15 ?_
        rintro _ H5 ⟨rfl, k5, _⟩
        have := k5.1
        simp at this
        simp [k11, this]
theorem vaultMerges_law (cs : List AV) (h : FitsArgs [(false, .sl 1 8 (.int .i64)), (false, .int .i64)] cs) : ∃ n H', callF envE (exec envE n) 3 cs 0 [] = some (.bool true, H') := by
  obtain ⟨a, rest, rfl, h1, t⟩ := fa_one h
  obtain ⟨c, rest, rfl, h2, t⟩ := fa_one t
  cases fa_nil t
  obtain ⟨l, e2, _, hl⟩ := fits_sl (f := intC) (fun r hr => by obtain ⟨n, rfl, _⟩ := fits_int hr; exact ⟨n, rfl⟩) h1
  cases e2
  obtain ⟨y, e, _⟩ := fits_int h2
  cases e
  have hrb : reachBytes = 140737488351232 := rfl
  exact law_of (vaultMerges_pu l y (by omega)) (by simp)
end Go.Proofs.YtflgfiieaoeknaaA


namespace Go.Proofs.Ytflgfiieaoeknaa.vaultMerges
open Go.ChangeShapes Go.WideShapes Go.ChangeAt Go.RowKit
set_option linter.unusedVariables false
theorem own : ownKnob Try.prog.godebug = none := by kernel_rfl
set_option maxRecDepth 1000000 in
theorem lifted (os : Os) (started : os.Started) (H : Type) (enc : TypeId × Value → H) :
    ReturnsInHanded {} Try.checked os 3 .any (Rows.vaultMergesSpec.pre6 enc Try.prog Try.f3 Rows.vaultMergesRow.domain false) (Rows.vaultMergesSpec.post enc Try.prog Try.f3 false true false false) :=
  YtflgfiieaoeknaaA.law_lifted (C := Try.checked) YtflgfiieaoeknaaA.env_good (fd := YtflgfiieaoeknaaA.fd3) (tb := 4) rfl own started (by kernel_rfl) Try.func3
    (ChangeSpec.witness6 (enc := enc) (C := Try.checked) false ⟨#[], #[((Try.prog.info? 22).bind (·.zero)).getD .nilFunc, ((Try.prog.info? 3).bind (·.zero)).getD .nilFunc], []⟩ 8 (by kernel_rfl) (by kernel_rfl) (by kernel_rfl) (by kernel_rfl))
    (by kernel_rfl) (by decide +kernel) (by kernel_rfl) rfl (by kernel_rfl) (by kernel_rfl) (fun ds h => by
      match ds, h with
      | [d0, d1], _ => rfl) YtflgfiieaoeknaaA.vaultMerges_law
theorem over : Rows.vaultMergesRow.holds Try.pinned (OpenSpec.ofChange Rows.vaultMergesSpec) :=
  OpenClaim.holds_of_wide 3 Try.f3 rfl rfl rfl rfl rfl rfl rfl ⟨rfl, rfl, rfl, rfl, rfl⟩ rfl rfl rfl rfl rfl (by kernel_rfl) Try.func3 (by kernel_rfl)
    (of_decide_eq_true (by kernel_rfl)) (by unfold Func.isWrapper; first | (rw [if_pos (by decide +kernel)]; kernel_rfl) | (rw [if_neg (by decide +kernel)]; exact ⟨rfl, rfl⟩))
    (fun os started H enc _ => lifted os started H enc)
end Go.Proofs.Ytflgfiieaoeknaa.vaultMerges
namespace Go.Proofs.Ytflgfiieaoeknaa
/-- The row, under a short name, for the claim. -/
theorem vaultMerges_holds : Rows.VaultMergesSaid := vaultMerges.over
#print axioms vaultMerges_holds
end Go.Proofs.Ytflgfiieaoeknaa


/- 'starlinglaw18.VaultKeys' returns true for all rows of keys and every part: the keys of a part are those that were put and are of it, rising; a Drop takes just these. Without further conditions. -/
import Derived.Test.YtflgfiieaoeknaaRows
import Derived.Test.YtflgfiieaoeknaaK3
import Derived.Test.YtflgfiieaoeknaaAW11
import Derived.WalkKit
import Derived.ProofKit
import Derived.ChangeOld
namespace Go.Proofs.YtflgfiieaoeknaaA
open Go Go.RowKit
set_option linter.unusedSimpArgs false
set_option linter.unusedVariables false
set_option maxRecDepth 1000000
attribute [local simp] vec_zero bagV_zero

theorem k11 {H : Heap} {K : AV → Heap → Prop} : wPu envE 11 (some []) H K = K (.bool true) H := run_pu e11 rfl (fun _ => rfl) awake11
theorem mod16 (x : Int) : ∃ N : Nat, N < 16 ∧ IntKind.i64.wrap ((IntKind.u64.wrap x).tmod 16) = (N : Int) := by
  have hx : 0 ≤ IntKind.u64.wrap x := by simp [IntKind.wrap, IntKind.signed, IntKind.bits]; omega
  have h1 := Int.emod_nonneg (IntKind.u64.wrap x) (b := 16) (by omega)
  have h2 := Int.emod_lt_of_pos (IntKind.u64.wrap x) (b := 16) (by omega)
  refine ⟨((IntKind.u64.wrap x) % 16).toNat, by omega, ?_⟩
  rw [Int.tmod_eq_emod_of_nonneg hx, wrap_i64] <;> omega
/-- A vault and a map of marks beside it. -/
structure Mk (H : Heap) (mI : Nat) (ks : List (List UInt8)) (s : VSt) : Prop where
  mark : ∃ ie ic, H[mI]? = some (.map ie ic) ∧ InM ks ie
  vlt : ∃ v q es ck, Vlt H 2 0 1 s v q es ck
  big : 2 < mI
theorem Mk.app {H X : Heap} {mI : Nat} {ks : List (List UInt8)} {s : VSt} (h : Mk H mI ks s) : Mk (H ++ X) mI ks s := by
  obtain ⟨⟨ie, ic, h1, h2⟩, ⟨v, q, es, ck, h3⟩, hb⟩ := h
  exact ⟨⟨ie, ic, get_app h1, h2⟩, ⟨v, q, es, ck, h3.app⟩, hb⟩
theorem Mk.step {H H' : Heap} {mI : Nat} {ks : List (List UInt8)} {s s' : VSt} (h : Mk H mI ks s) (k : VStep H H' 2 0 1 s') : Mk H' mI ks s' := by
  obtain ⟨⟨ie, ic, h1, h2⟩, _, hb⟩ := h
  exact ⟨⟨ie, ic, k.1.2 _ _ h1 (by omega) (by omega) (by omega) (by intro y e; cases e), h2⟩, k.2, hb⟩
theorem Vlt.setMap {H : Heap} {p lb mi j c : Nat} {s : VSt} {v q : AV} {es a : List (AV × AV × Nat)} {ck : Nat} {z : ABlk} (h : Vlt H p lb mi s v q es ck) (hm : H[j]? = some (.map a c)) (n1 : j ≠ p) (n2 : j ≠ lb) (n3 : j ≠ mi) : Vlt (H.set j z) p lb mi s v q es ck := by
  have keep : ∀ (b : Nat) (y : List AV), H[b]? = some (.cells true y) → (H.set j z)[b]? = some (.cells true y) := fun b y hb => get_set hb fun e => by
    subst e
    rw [hm] at hb
    cases hb
  exact ⟨get_set h.box n1, ⟨get_set h.led.at' n2, h.led.row.keep fun b y _ hb => keep b y hb, h.led.few⟩, h.tgt.keep fun b y hb _ => keep b y hb, get_set h.map n3, h.ents.keep fun b y hb _ => keep b y hb, h.vn⟩
theorem Mk.set {H : Heap} {mI : Nat} {ks ks' : List (List UInt8)} {s : VSt} {ie : List (AV × AV × Nat)} {ic : Nat} (h : Mk H mI ks s) (hi : InM ks' ie) : Mk (H.set mI (.map ie ic)) mI ks' s := by
  obtain ⟨⟨a, c, h1, h2⟩, ⟨v, q, es, ck, h3⟩, hb⟩ := h
  exact ⟨⟨ie, ic, by rw [List.getElem?_set_self (lt_of h1)], hi⟩, ⟨v, q, es, ck, h3.setMap h1 (by omega) (by omega) (by omega)⟩, hb⟩
theorem addK_ok {ks : List (List UInt8)} {key : List UInt8} (h : ∀ k ∈ ks, keyOk k = true) (hk : keyOk key = true) : ∀ k ∈ addK ks key, keyOk k = true := by
  unfold addK
  split
  · exact h
  · intro k hk'
    rcases List.mem_append.1 hk' with q | q
    · exact h k q
    · rw [List.mem_singleton.1 q]; exact hk
theorem addK_len {ks : List (List UInt8)} {key : List UInt8} : (addK ks key).length ≤ ks.length + 1 := by
  unfold addK
  split <;> simp
set_option maxHeartbeats 2000000 in
theorem vaultKeys_pu (l : List (List UInt8)) (part : Int) (hl : l.length < 4611686018427387904) : Pu envE 9 [roL strC l, I part] (.bool true) := by
  refine pu_is e9 rfl ?_
  by_cases h40 : (40 : Int) < l.length
  · rw [fr_init (by simp [fd9])]
    simp [fd9, b9, h40, k11]
  obtain ⟨N, hN, hNe⟩ := mod16 part
  have nr := fun K => new_room (room := 200) (H := []) (lim := 0) (K := K) (by omega) (by omega)
  rw [fr_init (by simp [fd9])]
  simp [fd9, b9, h40, hNe, nr]
  refine open_new 200 [] (by omega) (by omega) ?_
  intro X hv
  simp only [List.nil_append, List.length_nil, Nat.zero_add] at hv ⊢
  obtain ⟨mI, hmI⟩ : ∃ mI, mI = X.length := ⟨_, rfl⟩
  obtain ⟨H0, hH0⟩ : ∃ H0, H0 = X ++ [ABlk.map [] 0] := ⟨_, rfl⟩
  have big : 2 < mI := by rw [hmI]; exact lt_of hv.box
  have mk0 : Mk H0 mI [] (emptyS 200) := ⟨⟨[], 0, by rw [hH0, hmI]; simp, trivial⟩, ⟨_, _, _, _, by rw [hH0]; exact hv.app⟩, big⟩
  simp [← hH0, ← hmI]
  refine loop_go [1, 5, 6, 30, 31, 32] rfl (fun m vs H => ∃ i s, m + i = l.length ∧ Mk H mI (s.bags.map Prod.fst) s ∧ VOk s ∧ s.room = 200 ∧ s.ds.length ≤ i ∧ (∀ k ∈ s.bags.map Prod.fst, keyOk k = true) ∧ (s.bags.map Prod.fst).length ≤ i ∧ vs = [I N, .ptr (some (2, 0)), .mapv (some mI), roL strC l, I l.length, I i]) ?_ l.length ⟨0, emptyS 200, rfl, mk0, empty_ok (by omega) (by omega), rfl, Nat.le_refl _, by simp [emptyS], by simp [emptyS], rfl⟩
  rintro J hJ m vs H f ⟨i, s, hm, mk, ok, hroom, hds, hks, hkl, rfl⟩
  by_cases hi : i < l.length
  · have hw := wrap_succ (i := i) (by omega)
    have hld := str_load hi (H := H)
    obtain ⟨key, hkey⟩ : ∃ key, key = l[i] := ⟨_, rfl⟩
    rw [← hkey] at hld
    by_cases h100 : (100 : Int) < key.length
    · simp [lp9_0, hi, idxSl_roL hi, hld, -load_tp, h100, k11]
    simp [lp9_0, hi, idxSl_roL hi, hld, -load_tp, h100]
    obtain ⟨_, ⟨v, q, es, ck, hv2⟩, _⟩ := id mk
    refine WCl.mono (c39 hv2 ok 0 key zeroV [120]) ?_
    rintro _ H2 ⟨rfl, hs2⟩
    obtain ⟨R, hR⟩ : ∃ R, R = putO s 0 key zeroV [120] := ⟨_, rfl⟩
    have okR : VOk R.s := by rw [hR]; exact ok.putV
    have hput := put_keys (s := s) (node := 0) (key := key) (known := zeroV) (data := [120])
    rw [← hR] at hput hs2 ⊢
    have mk2 := mk.step hs2
    obtain ⟨H3, hH3⟩ : ∃ H3, H3 = H2 ++ [ABlk.cells false [I R.a, I R.c]] := ⟨_, rfl⟩
    have mk3 : Mk H3 mI (s.bags.map Prod.fst) R.s := by rw [hH3]; exact mk2.app
    rcases hput with ⟨he, hko, hbg, hdl, hrm⟩ | ⟨he, hsame⟩
    · obtain ⟨⟨ie, ic, g1, g2⟩, ⟨v3, q3, es3, ck3, hv3⟩, _⟩ := id mk3
      rcases g2.find (key := key) 0 with ⟨f1, f2⟩ | ⟨f1, j, f2, f3⟩
      · have hadd : addK (s.bags.map Prod.fst) key = s.bags.map Prod.fst ++ [key] := if_neg f1
        have mk4 := mk3.set (ic := ic + 1) (g2.put (key := key) (n := ic))
        rw [← hadd, ← hbg] at mk4
        simp [he, ← hH3, g1, isKey, f2, hw]
        exact nxt hJ (m - 1) (by omega) ⟨i + 1, R.s, by omega, mk4, okR, hrm.trans hroom, by omega, by rw [hbg]; exact addK_ok hks hko, by rw [hbg]; have := addK_len (ks := s.bags.map Prod.fst) (key := key); omega, rfl⟩
      · have hadd : addK (s.bags.map Prod.fst) key = s.bags.map Prod.fst := if_pos f1
        rw [Nat.zero_add] at f2
        have mk4 := mk3.set (ic := ic) f3
        rw [← hadd, ← hbg] at mk4
        simp [he, ← hH3, g1, isKey, f2, hw]
        exact nxt hJ (m - 1) (by omega) ⟨i + 1, R.s, by omega, mk4, okR, hrm.trans hroom, by omega, by rw [hbg]; exact addK_ok hks hko, by rw [hbg]; have := addK_len (ks := s.bags.map Prod.fst) (key := key); omega, rfl⟩
    · rw [hsame] at mk3 okR
      simp [he, hsame, ← hH3, hw]
      exact nxt hJ (m - 1) (by omega) ⟨i + 1, s, by omega, mk3, okR, hroom, by omega, hks, by omega, rfl⟩
  simp [lp9_0, hi]
  have hb40 : (s.bags.map Prod.fst).length ≤ 40 := by omega
  obtain ⟨ks, hKs⟩ : ∃ ks, ks = s.bags.map Prod.fst := ⟨_, rfl⟩
  refine loop_go [1, 5, 6, 11, 52] rfl (fun m vs H => ∃ i, m + i = 16 ∧ i ≤ 16 ∧ Mk H mI (s.bags.map Prod.fst) s ∧ vs = [I N, .ptr (some (2, 0)), .mapv (some mI), I (total (s.bags.map Prod.fst) i), I i]) ?_ 16 ⟨0, rfl, by omega, mk, rfl⟩
  rintro J2 hJ2 m2 vs2 H2 f2 ⟨j, hm2, hj16, mk2, rfl⟩
  by_cases hj : j < 16
  · have hjI : (j : Int) < 16 := by omega
    have hw := wrap_succ (i := j) (by omega)
    obtain ⟨⟨ie, ic, g1, g2⟩, ⟨v, q, es, ck, hv2⟩, _⟩ := id mk2
    have few : s.bags.length < 1000000000000 := by rw [List.length_map] at hb40; omega
    have huniq := hv2.ents.uniq
    simp [lp9_1, hj, hjI]
    refine WCl.mono (c40k hv2 few (j : Int) (by omega) 0) ?_
    rintro r _ ⟨X2, rfl, hr⟩
    obtain ⟨H3, hH3⟩ : ∃ H3, H3 = H2 ++ X2 := ⟨_, rfl⟩
    rw [← hH3] at hr
    have mk3 : Mk H3 mI (s.bags.map Prod.fst) s := by rw [hH3]; exact mk2.app
    have g3 : H3[mI]? = some (.map ie ic) := by rw [hH3]; exact get_app g1
    have hlen := hr.len
    have hkl2 : (keysS s j).length ≤ 40 := by
      rw [keysS_len]
      exact Nat.le_trans (List.length_filter_le _ _) hb40
    simp [← hH3, hlen]
    refine loop_go [1, 5, 6, 11, 12, 13, 52, 58, 59, 60] rfl (fun m vs H => ∃ a, m + a = (keysS s j).length ∧ H = H3 ∧ vs = [I N, .ptr (some (2, 0)), .mapv (some mI), I (total (s.bags.map Prod.fst) j), I j, r, I j, r, I (keysS s j).length, I a]) ?_ (keysS s j).length ⟨0, rfl, rfl, rfl⟩
    rintro J3 hJ3 m3 vs3 _ f3 ⟨a, hm3, rfl, rfl⟩
    by_cases ha : a < (keysS s j).length
    · have hw3 := wrap_succ (i := a) (by omega)
      obtain ⟨b, i1, i2⟩ := hr.idx (k := .i64) ha
      obtain ⟨key, hkey⟩ : ∃ key, key = (keysS s j)[a] := ⟨_, rfl⟩
      have hcut := cut_flat strC_len ha
      rw [← hkey] at hcut
      have hmem : key ∈ keysS s j := by rw [hkey]; exact List.getElem_mem _
      obtain ⟨km, ks⟩ := keysS_mem.1 hmem
      simp only [Nat.mul_one] at i1 hcut
      rcases g2.find (key := key) 0 with ⟨f1, _⟩ | ⟨_, jj, f2, _⟩
      · exact absurd km f1
      by_cases ha0 : 0 < a
      · have hwm : IntKind.i64.wrap ((a : Int) - 1) = ((a - 1 : Nat) : Int) := by rw [wrap_i64] <;> omega
        have ham : a - 1 < (keysS s j).length := by omega
        obtain ⟨b2, i3, i4⟩ := hr.idx (k := .i64) ham
        have hcut2 := cut_flat strC_len ham
        simp only [Nat.mul_one] at i3 hcut2
        obtain ⟨r1, r2⟩ := keysS_rising (p := (j : Int)) huniq ha0 ha
        rw [← hkey] at r1 r2
        obtain ⟨prev, hprev⟩ : ∃ prev, prev = (keysS s j)[a - 1] := ⟨_, rfl⟩
        rw [← hprev] at r1 r2 hcut2
        simp [lp9_2, ha, i1, i2, hcut, strC, shapeOf, g3, isKey, f2, ks, hw3, ha0, hwm, i3, i4, hcut2, binStr, r1, r2]
        exact nxt hJ3 (m3 - 1) (by omega) ⟨a + 1, by omega, rfl, rfl⟩
      · simp [lp9_2, ha, i1, i2, hcut, strC, shapeOf, g3, isKey, f2, ks, hw3, ha0]
        exact nxt hJ3 (m3 - 1) (by omega) ⟨a + 1, by omega, rfl, rfl⟩
    · have hwt : IntKind.i64.wrap (((total (s.bags.map Prod.fst) j : Nat) : Int) + (((keysS s j).length : Nat) : Int)) = ((total (s.bags.map Prod.fst) (j + 1) : Nat) : Int) := by
        have h1 := total_le (ks := s.bags.map Prod.fst) (n := j)
        have h2 := keysS_len (s := s) (p := (j : Int))
        have h3 : total (s.bags.map Prod.fst) (j + 1) = total (s.bags.map Prod.fst) j + (partF (s.bags.map Prod.fst) j).length := rfl
        have h4 : j * (s.bags.map Prod.fst).length ≤ 16 * 40 := Nat.mul_le_mul (by omega) hb40
        rw [wrap_i64] <;> omega
      simp [lp9_2, ha, hlen, hwt, hw]
      exact nxt hJ2 (m2 - 1) (by omega) ⟨j + 1, by omega, by omega, mk3, rfl⟩
  have hj16 : j = 16 := by omega
  subst hj16
  rw [total_all hks]
  simp [lp9_1]
  obtain ⟨_, ⟨v, q, es, ck, hv2⟩, _⟩ := id mk2
  have few : s.bags.length < 1000000000000 := by rw [List.length_map] at hb40; omega
  refine WCl.mono (c40k hv2 few (N : Int) (by omega) 0) ?_
  rintro r _ ⟨X2, rfl, hr⟩
  have mk3 := mk2.app (X := X2)
  have hlen := hr.len
  obtain ⟨_, ⟨v3, q3, es3, ck3, hv3⟩, _⟩ := id mk3
  simp [hlen]
  refine WCl.mono (c41g hv3 ok few (N : Int) (by omega)) ?_
  rintro r2 H4 hdrop
  obtain ⟨s', hs4, rfl, hbg⟩ : ∃ s', VStep (H2 ++ X2) H4 2 0 1 s' ∧ r2 = I 0 ∧ s'.bags.map Prod.fst = (s.bags.map Prod.fst).filter fun k => !decide (spotF k = (N : Int)) := by
    rcases hdrop with ⟨h1, h2, h3⟩ | ⟨h1, h2, h3⟩
    · refine ⟨s, h3, h2, (List.filter_eq_self.2 fun k hk => ?_).symm⟩
      by_cases e : spotF k = (N : Int)
      · have : k ∈ keysS s N := keysS_mem.2 ⟨hk, e⟩
        rw [h1] at this
        cases this
      · simp [e]
    · have hw : writeE (dropD (N : Int)) s.ds s.room = 0 := by
        unfold writeE
        rw [drop_may (by omega) (by omega), hroom]
        rw [if_pos rfl, if_neg (by omega)]
      rw [dropS, if_pos hw] at h3
      exact ⟨_, h3, by rw [h2, hw], rest_fst⟩
  have mk4 : Mk H4 mI (s.bags.map Prod.fst) s' := mk3.step hs4
  obtain ⟨_, ⟨v4, q4, es4, ck4, hv4⟩, _⟩ := id mk4
  have hb40' : (s'.bags.map Prod.fst).length ≤ 40 := by rw [hbg]; exact Nat.le_trans (List.length_filter_le _ _) hb40
  have few' : s'.bags.length < 1000000000000 := by rw [List.length_map] at hb40'; omega
  have hks' : ∀ k ∈ s'.bags.map Prod.fst, keyOk k = true := fun k hk => by rw [hbg] at hk; exact hks k (List.mem_filter.1 hk).1
  have hno : (keysS s' N).length = 0 := by rw [keysS_len, hbg, rest_none]; rfl
  have hsplit := part_split (s.bags.map Prod.fst) (N : Int)
  rw [← hbg, ← keysS_len] at hsplit
  simp
  refine WCl.mono (c40k hv4 few' (N : Int) (by omega) 0) ?_
  rintro r3 _ ⟨X5, rfl, hr5⟩
  have mk5 := mk4.app (X := X5)
  have hlen5 := hr5.len
  rw [hno] at hlen5
  simp [hlen5]
  refine loop_go [5, 6, 11, 16, 17, 109] rfl (fun m vs H => ∃ i, m + i = 16 ∧ i ≤ 16 ∧ Mk H mI (s.bags.map Prod.fst) s' ∧ vs = [.ptr (some (2, 0)), .mapv (some mI), I (s.bags.length : Nat), I ((keysS s N).length : Nat), I (total (s'.bags.map Prod.fst) i), I i]) ?_ 16 ⟨0, rfl, by omega, mk5, rfl⟩
  rintro J6 hJ6 m6 vs6 H6 f6 ⟨j, hm6, hj6, mk6, rfl⟩
  obtain ⟨⟨ie, ic, g1, g2⟩, ⟨v6, q6, es6, ck6, hv6⟩, _⟩ := id mk6
  by_cases hj : j < 16
  · have hjI : (j : Int) < 16 := by omega
    have hw := wrap_succ (i := j) (by omega)
    simp [lp9_3, hj, hjI]
    refine WCl.mono (c40k hv6 few' (j : Int) (by omega) 0) ?_
    rintro r7 _ ⟨X7, rfl, hr7⟩
    have hlen7 := hr7.len
    have hwt : IntKind.i64.wrap (((total (s'.bags.map Prod.fst) j : Nat) : Int) + (((keysS s' j).length : Nat) : Int)) = ((total (s'.bags.map Prod.fst) (j + 1) : Nat) : Int) := by
      have h1 := total_le (ks := s'.bags.map Prod.fst) (n := j)
      have h2 := keysS_len (s := s') (p := (j : Int))
      have h3 : total (s'.bags.map Prod.fst) (j + 1) = total (s'.bags.map Prod.fst) j + (partF (s'.bags.map Prod.fst) j).length := rfl
      have h4 : j * (s'.bags.map Prod.fst).length ≤ 16 * 40 := Nat.mul_le_mul (by omega) hb40'
      have h5 : (partF (s'.bags.map Prod.fst) j).length ≤ 40 := Nat.le_trans (List.length_filter_le _ _) hb40'
      rw [wrap_i64] <;> omega
    simp [hlen7, hwt, hw]
    exact nxt hJ6 (m6 - 1) (by omega) ⟨j + 1, by omega, by omega, mk6.app, rfl⟩
  have : j = 16 := by omega
  subst this
  rw [total_all hks']
  have hil := g2.len
  have z41 : ∀ K, WCl envE 41 [.ptr (some (2, 0)), I (-1)] 0 H6 K = K (I 1) H6 := fun K => WCl_eq (c41b hv6 (-1) (by omega) 0)
  simp only [List.length_map] at hil hsplit hb40 hb40'
  have hsub : IntKind.i64.wrap ((s.bags.length : Int) - ((keysS s N).length : Int)) = (s'.bags.length : Int) := by rw [wrap_i64] <;> omega
  simp [lp9_3, g1, hil, hsub, z41, k11]
theorem vaultKeys_law (cs : List AV) (h : FitsArgs [(false, .sl 1 16 .str), (false, .int .i64)] cs) : ∃ n H', callF envE (exec envE n) 9 cs 0 [] = some (.bool true, H') := by
  obtain ⟨a, rest, rfl, h1, t⟩ := fa_one h
  obtain ⟨c, rest, rfl, h2, t⟩ := fa_one t
  cases fa_nil t
  obtain ⟨l, e1, _, hl⟩ := fits_sl (f := strC) (fun r hr => by obtain ⟨x, e, _⟩ := fits_str hr; exact ⟨x, e⟩) h1
  obtain ⟨y, e2, _⟩ := fits_int h2
  cases e1
  cases e2
  have hrb : reachBytes = 140737488351232 := rfl
  exact law_of (vaultKeys_pu l y (by omega)) (by simp)
end Go.Proofs.YtflgfiieaoeknaaA

namespace Go.Proofs.Ytflgfiieaoeknaa.vaultKeys
open Go.ChangeShapes Go.WideShapes Go.ChangeAt Go.RowKit
set_option linter.unusedVariables false
theorem own : ownKnob Try.prog.godebug = none := by kernel_rfl
set_option maxRecDepth 1000000 in
theorem lifted (os : Os) (started : os.Started) (H : Type) (enc : TypeId × Value → H) :
    ReturnsInHanded {} Try.checked os 9 .any (Rows.vaultKeysSpec.pre6 enc Try.prog Try.f9 Rows.vaultKeysRow.domain false) (Rows.vaultKeysSpec.post enc Try.prog Try.f9 false true false false) :=
  YtflgfiieaoeknaaA.law_lifted (C := Try.checked) YtflgfiieaoeknaaA.env_good (fd := YtflgfiieaoeknaaA.fd9) (tb := 4) rfl own started (by kernel_rfl) Try.func9
    (ChangeSpec.witness6 (enc := enc) (C := Try.checked) false ⟨#[], #[((Try.prog.info? 62).bind (·.zero)).getD .nilFunc, ((Try.prog.info? 3).bind (·.zero)).getD .nilFunc], []⟩ 8 (by kernel_rfl) (by kernel_rfl) (by kernel_rfl) (by kernel_rfl))
    (by kernel_rfl) (by decide +kernel) (by kernel_rfl) rfl (by kernel_rfl) (by kernel_rfl) (fun ds h => by
      match ds, h with
      | [d0, d1], _ => rfl) YtflgfiieaoeknaaA.vaultKeys_law
theorem over : Rows.vaultKeysRow.holds Try.pinned (OpenSpec.ofChange Rows.vaultKeysSpec) :=
  OpenClaim.holds_of_wide 9 Try.f9 rfl rfl rfl rfl rfl rfl rfl ⟨rfl, rfl, rfl, rfl, rfl⟩ rfl rfl rfl rfl rfl (by kernel_rfl) Try.func9 (by kernel_rfl)
    (of_decide_eq_true (by kernel_rfl)) (by unfold Func.isWrapper; first | (rw [if_pos (by decide +kernel)]; kernel_rfl) | (rw [if_neg (by decide +kernel)]; exact ⟨rfl, rfl⟩))
    (fun os started H enc _ => lifted os started H enc)
end Go.Proofs.Ytflgfiieaoeknaa.vaultKeys
namespace Go.Proofs.Ytflgfiieaoeknaa
/-- The row, under a short name, for the claim. -/
theorem vaultKeys_holds : Rows.VaultKeysSaid := vaultKeys.over
#print axioms vaultKeys_holds
end Go.Proofs.Ytflgfiieaoeknaa


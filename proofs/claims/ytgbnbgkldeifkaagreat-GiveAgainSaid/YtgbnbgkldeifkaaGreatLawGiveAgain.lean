/- 'starlinglaw20.GiveAgain' returns true for all rows of keys' numbers and every number of ticks: what is out is sent again, as it was, so many ticks later, till it is got; no more than so many are out at once. Without further conditions. -/
import Derived.Test.YtgbnbgkldeifkaaGreatRows
import Derived.Test.YtgbnbgkldeifkaaGreatGB
import Derived.WalkKit
import Derived.ProofKit
import Derived.ChangeOld
namespace Go.Proofs.YtgbnbgkldeifkaaGreatA
open Go Go.RowKit
set_option linter.unusedSimpArgs false
set_option linter.unusedVariables false
set_option maxRecDepth 1000000
attribute [local simp] vec_zero
noncomputable def keyF (n : Int) : List UInt8 := Classical.choose (c44 n)
theorem c44k (n : Int) : Pu envE 44 [I n] (.str (keyF n)) ∧ (keyF n).length = 2 := Classical.choose_spec (c44 n)
theorem key_fine {k : List UInt8} (h : k.length = 2) : keyOk k = true := by simp [keyOk, h]
theorem pe0 : putE zBagS.known zBagS.vals zeroV 0 (0 + 1) [118] = 0 := by kernel_rfl
theorem first_put {k : List UInt8} (h : k.length = 2) : (putO (emptyS 100) 0 k zeroV [118]).e = 0 := by
 have he : putE (bagOf (emptyS 100) k).known (bagOf (emptyS 100) k).vals zeroV 0 ((emptyS 100).dots + 1) [118] = 0 := pe0
 obtain ⟨s', h1, _⟩ := putO_ok (key := k) (key_fine h) (by omega) (by omega) (by simp [emptyS]) (by simp [emptyS]) (by simp [fullS, emptyS]) he (by simp [emptyS])
 rw [h1]
theorem addK_len {ks : List (List UInt8)} {key : List UInt8} : (addK ks key).length ≤ ks.length + 1 := by
 unfold addK
 split <;> simp
theorem addK_mem {ks : List (List UInt8)} {key x : List UInt8} : x ∈ addK ks key ↔ x ∈ ks ∨ x = key := by
 unfold addK
 split
 · rename_i h
   exact ⟨.inl, fun q => q.elim id fun e => by rw [e]; exact h⟩
 · simp
theorem put_len {s : VSt} {node : Int} {key : List UInt8} {known : Nat → Int} {data : List UInt8} : (putO s node key known data).s.bags.length ≤ s.bags.length + 1 ∧ ∀ x ∈ s.bags.map Prod.fst, x ∈ (putO s node key known data).s.bags.map Prod.fst := by
 rcases put_keys (s := s) (node := node) (key := key) (known := known) (data := data) with ⟨_, _, hb, _⟩ | ⟨_, e⟩
 · have h1 := congrArg List.length hb
   have h2 := addK_len (ks := s.bags.map Prod.fst) (key := key)
   simp only [List.length_map] at h1 h2
   exact ⟨by omega, fun x hx => by rw [hb]; exact addK_mem.2 (.inl hx)⟩
 · rw [e]; exact ⟨by omega, fun x hx => hx⟩
theorem put_in {s : VSt} {key : List UInt8} (h : (putO s 0 key zeroV [118]).e = 0) : key ∈ (putO s 0 key zeroV [118]).s.bags.map Prod.fst := by
 rcases put_keys (s := s) (node := 0) (key := key) (known := zeroV) (data := [118]) with ⟨_, _, hb, _⟩ | ⟨e, _⟩
 · rw [hb]; exact addK_mem.2 (.inr rfl)
 · exact absurd h e
theorem mod12 (x : Int) : ∃ N : Nat, N < 12 ∧ IntKind.i64.wrap ((IntKind.u64.wrap x).tmod 12) = (N : Int) := by
 have hx : 0 ≤ IntKind.u64.wrap x := by simp [IntKind.wrap, IntKind.signed, IntKind.bits]; omega
 have h1 := Int.emod_nonneg (IntKind.u64.wrap x) (b := 12) (by omega)
 have h2 := Int.emod_lt_of_pos (IntKind.u64.wrap x) (b := 12) (by omega)
 refine ⟨((IntKind.u64.wrap x) % 12).toNat, by omega, ?_⟩
 rw [Int.tmod_eq_emod_of_nonneg hx, wrap_i64] <;> omega
theorem filter_no {l : List OutM} {now : Int} (h : ∀ o ∈ l, dueO now o = false) : l.filter (dueO now) = [] ∧ l.map (updO now) = l := by
 refine ⟨List.filter_eq_nil_iff.2 fun o ho => by rw [h o ho]; simp, ?_⟩
 have : l.map (updO now) = l.map id := List.map_congr_left fun o ho => by simp [updO, h o ho]
 rw [this, List.map_id]
theorem filter_all {l : List OutM} {now : Int} (h : ∀ o ∈ l, dueO now o = true) : l.filter (dueO now) = l ∧ ∀ o ∈ l.map (updO now), o.when_ = now := by
 refine ⟨List.filter_eq_self.2 fun o ho => h o ho, fun o ho => ?_⟩
 obtain ⟨x, hx, rfl⟩ := List.mem_map.1 ho
 simp [updO, h x hx]
theorem map_upd {l : List OutM} {now : Int} : (l.map (updO now)).map OutM.p = l.map OutM.p := by
 rw [List.map_map]
 exact List.map_congr_left fun o _ => upd_p
set_option maxHeartbeats 800000 in
theorem giveAgain_pu (l : List Int) (tk : Int) (hl : l.length < 4611686018427387904) : Pu envE 8 [roL intC l, I tk] (.bool true) := by
 by_cases hsmall : l.length < 1
 · have hs2 : (l.length : Int) < 1 := by omega
   refine pu_is e8 rfl ?_
   rw [fr_init (by simp [fd8])]
   simp [fd8, b8, hs2, k43]
 by_cases hbig : (40 : Int) < l.length
 · have hs2 : ¬ (l.length : Int) < 1 := by omega
   refine pu_is e8 rfl ?_
   rw [fr_init (by simp [fd8])]
   simp [fd8, b8, hs2, hbig, k43]
 have hs2 : ¬ (l.length : Int) < 1 := by omega
 obtain ⟨N, hN, hNe⟩ := mod12 tk
 have h0 : 0 < l.length := by omega
 obtain ⟨k0, hk0⟩ : ∃ k0, k0 = keyF l[0] := ⟨_, rfl⟩
 obtain ⟨q1, q2⟩ := c44k l[0]
 rw [← hk0] at q1 q2
 obtain ⟨p0, p1⟩ := spot_ok (key_fine q2)
 obtain ⟨pt, hpt⟩ : ∃ pt, pt = spotF k0 := ⟨_, rfl⟩
 rw [← hpt] at p0 p1
 have ld0 : ∀ H, loadAt H none (.tp (l.flatMap intC)) = some (I l[0]) := fun H => by
  have := int_load h0 (H := H)
  simpa using this
 have ix0 : idxSlAV 1 (I 0) (roL intC l) = some (.tp (List.drop (0 * 1) (List.flatMap intC l))) := idxSl_roL h0 (k := .i64)
 have nr := fun K => new_room (room := 100) (H := []) (lim := 0) (K := K) (by omega) (by omega)
 refine pu_is e8 rfl ?_
 rw [fr_init (by simp [fd8])]
 simp [fd8, b8, hs2, hbig, hNe, ix0, ld0, -load_tp, wPu_eq q1, ← hpt, nr]
 refine open_new 100 [] (by omega) (by omega) ?_
 intro X hv
 simp only [List.nil_append, List.length_nil, Nat.zero_add] at hv ⊢
 simp
 refine loop_go [1, 5, 6, 35, 36, 37] rfl (fun m vs H => ∃ i s v q es ck, m + i = l.length ∧ Vlt H 2 0 1 s v q es ck ∧ VOk s ∧ s.bags.length ≤ i ∧ (i = 0 → s = emptyS 100) ∧ (0 < i → k0 ∈ s.bags.map Prod.fst) ∧ vs = [I N, I pt, .ptr (some (2, 0)), roL intC l, I l.length, I i]) ?_ l.length ⟨0, emptyS 100, _, _, _, _, rfl, hv, empty_ok (by omega) (by omega), by simp [emptyS], fun _ => rfl, fun h => by omega, rfl⟩
 rintro J hJ m vs H f ⟨i, s, v, q, es, ck, hm, hv, ok, hb, hs0, hin, rfl⟩
 by_cases hi : i < l.length
 · have hw := wrap_succ (i := i) (by omega)
   have hld := int_load hi (H := H)
   obtain ⟨hk, hk2⟩ := c44k l[i]
   simp [lp8_0, hi, idxSl_roL hi, hld, -load_tp, wPu_eq hk]
   refine WCl.mono (c24 hv ok 0 (keyF l[i]) zeroV [118]) ?_
   rintro _ H2 ⟨rfl, k2, v2, q2', es2, ck2, hv2⟩
   simp [hw]
   obtain ⟨hp1, hp2⟩ := put_len (s := s) (node := 0) (key := keyF l[i]) (known := zeroV) (data := [118])
   refine nxt hJ (m - 1) (by omega) ⟨i + 1, _, v2, q2', es2, ck2, by omega, hv2, ok.putV, by omega, fun e => by omega, fun _ => ?_, rfl⟩
   by_cases h00 : i = 0
   · subst h00
     rw [hs0 rfl, ← hk0]
     exact put_in (first_put q2)
   · exact hp2 _ (hin (by omega))
 have hin := hin (by omega)
 obtain ⟨K, hK⟩ : ∃ K, K = keysS s pt := ⟨_, rfl⟩
 have hKs : Strict K := by rw [hK]; exact keys_strict hv.ents.uniq
 have hKn : ∀ k ∈ K, k ≠ [] := by rw [hK]; exact keysS_ne p0
 have hk0K : k0 ∈ K := by rw [hK, keysS_mem]; exact ⟨hin, hpt.symm⟩
 have hKpos : 0 < K.length := List.length_pos_of_mem hk0K
 have hKl : K.length ≤ 40 := by
  rw [hK, keysS_len]
  have : (partF (s.bags.map Prod.fst) pt).length ≤ (s.bags.map Prod.fst).length := List.length_filter_le _ _
  simp only [List.length_map] at this
  omega
 obtain ⟨n, hn⟩ : ∃ n, n = min 4 K.length := ⟨_, rfl⟩
 have n1 : 1 ≤ n := by omega
 have n4 : n ≤ 4 := by omega
 have k45 := fun K => WCl_eq (K := K) (c45 0 pt 1 1 0 H (by omega) (by omega) (by omega) (by omega) (by omega))
 have hG := gs_new hv 0 pt 1 1
 obtain ⟨g, hg⟩ : ∃ g : Giv, g = ⟨0, pt, 1, 1, 0, 0, false⟩ := ⟨_, rfl⟩
 obtain ⟨cb, hcb⟩ : ∃ cb, cb = H.length := ⟨_, rfl⟩
 obtain ⟨gb, hgb⟩ : ∃ gb, gb = cb + 1 := ⟨_, rfl⟩
 obtain ⟨H2, hH2⟩ : ∃ H2, H2 = H ++ [curB pt .nilsl [], givB g cb .nilsl] := ⟨_, rfl⟩
 rw [← hg, ← hcb, ← hH2, ← hgb] at k45
 rw [← hg, ← hcb, ← hH2, ← hgb] at hG
 simp [lp8_0, hi, k45]
 have gpt : g.part = pt := by rw [hg]
 have gseq : g.seq = 0 := by rw [hg]
 have gnow : g.now = 0 := by rw [hg]
 refine WCl.mono (gs_tick hG (by simp) (by omega) (by omega) (by omega) ok (by omega)) ?_
 rintro r0 H3 ⟨l1, told, l', ms0, tp, h3, hM0, fr⟩
 have hT : tellsF K 4 [] [] = (K.take 4, [], lastAt K n) := by
  have := tells_at hKs hKn 4 0 (Nat.zero_le _)
  rw [Nat.zero_add, ← hn] at this
  exact this
 rw [gpt, ← hK] at tp h3
 rw [show 4 - ([] : List OutM).length = 4 from rfl, hT] at tp h3
 obtain ⟨P0, hP0⟩ : ∃ P0, P0 = toldP s 0 (K.take 4) := ⟨_, rfl⟩
 have lP0 : P0.length = n := by rw [hP0, toldP_len, List.length_take, hn]
 have ltP0 : P0.Pairwise fun a b => a.2.1 < b.2.1 := by rw [hP0]; exact toldP_lt
 have e1 : l1 = [] := tp.p1.eq_nil
 have htold := tp.tolds
 rw [gseq, ← hP0] at htold
 have hl1 : l'.Perm told := by
  have := tp.p2
  rw [e1] at this
  exact this
 have hlp : (l'.map OutM.p).Perm P0 := by rw [← htold]; exact hl1.map _
 have hln : l'.length = n := by
  have := hlp.length_eq
  rw [List.length_map, lP0] at this
  exact this
 have hne : l' ≠ [] := fun e => by rw [e] at hln; simp at hln; omega
 have hd : ∀ l : List OutM, l.length = n → ∀ a b c, doneB l a b c = false := fun l hl a b c => by
  have : l ≠ [] := fun e => by rw [e] at hl; simp at hl; omega
  simp [doneB, this]
 have hms := tp.msgs
 rw [e1, hd _ hln, gseq, ← hP0] at hms
 have hms : ms0.map MsgM.p = P0 := by simpa [endL] using hms
 have hwhen : ∀ o ∈ l', o.when_ = 1 := fun o ho => by
  have := tp.nows o (hl1.subset ho)
  rw [gnow] at this
  exact this
 rw [hd _ hln] at h3
 have hg1 : tickG g (K.take 4).length false = ⟨0, pt, 1, 1, n, 1, false⟩ := by
  rw [hg, List.length_take, ← hn]
  show Giv.mk 0 pt 1 1 (0 + (n : Int)) (0 + 1) (false || false) = _
  rw [Int.zero_add, Int.zero_add]
  rfl
 rw [hg1] at h3
 have hlen0 : ms0.length = n := by rw [← lP0, ← hms, List.length_map]
 have hM0' : MRow 0 H3 g ms0 r0 := ⟨hM0.row.mono (Nat.zero_le _), fun m hm => (hM0.vals m hm).mono (Nat.zero_le _)⟩
 obtain ⟨v3, q3, es3, ck3, hv3⟩ := h3.vlt
 simp
 refine WCl.mono (c40k hv3 (by omega) pt p0 0) ?_
 rintro kv _ ⟨Y, rfl, hkv⟩
 rw [← hK] at hkv
 have hmin : min (K.length : Int) (4 : Int) = (n : Int) := by omega
 have nn1 : ¬ (n : Int) < 1 := by omega
 have h4 := h3.app (X := Y)
 have hM4 := hM0'.app (X := Y)
 have rl := hM0.row.len
 rw [hlen0] at rl
 obtain ⟨H4, hH4⟩ : ∃ H4, H4 = H3 ++ Y := ⟨_, rfl⟩
 rw [← hH4] at h4 hM4 ⊢
 simp [hkv.len, rl, hmin, nn1]
 refine WCl.mono (gs_out h4 (by omega)) ?_
 rintro r5 H5 ⟨hl5, h5, len5, kp5⟩
 rw [hln] at hl5
 have hM5 : MRow 0 H5 g ms0 r0 := ⟨hM4.row.keepAll kp5, fun m hm => (hM4.vals m hm).keepAll kp5⟩
 simp [hl5]
 have hbig0 : ∀ x ∈ P0, x.2.2.2.2.length ≤ 4398046511104 := fun x hx => by
  rw [← hlp.mem_iff] at hx
  obtain ⟨o, ho, rfl⟩ := List.mem_map.1 hx
  exact h5.ok.vals o ho
 have bfew : s.bags.length < 1000000000 := by omega
 clear hv hb hs0 h3 h4 hM4 hM0 hM0' tp kp5 fr hH2 hH4 hkv hv3 k45 hG
 have k48 : ∀ (H' : Heap) (K' : AV → Heap → Prop), wPu envE 48 (some [roL (msgZ g) P0, roL (msgZ g) P0]) H' K' = K' (I 0) H' := fun (H' : Heap) (K' : AV → Heap → Prop) => (wPu_eq (H := H') (K := K') (c48 g P0 (by rw [lP0]; omega) hbig0)).trans (by simp)
 refine loop_go [6, 9, 10, 11, 72, 73] rfl (fun m vs H' => ∃ i l', m + i = N ∧ GivS H' gb cb 2 0 1 ⟨0, pt, 1, 1, n, 1 + (i : Int), false⟩ l' [] (lastAt K n) s ∧ MRow 0 H' g ms0 r0 ∧ (l'.map OutM.p).Perm P0 ∧ (∀ o ∈ l', o.when_ = 1 + 2 * ((i / 2 : Nat) : Int)) ∧ vs = [.ptr (some (2, 0)), .ptr (some (gb, 0)), r0, I n, I N, I i]) ?_ N ⟨0, l', rfl, by rw [Int.natCast_zero, Int.add_zero]; exact h5, hM5, hlp, fun o ho => by rw [hwhen o ho]; rfl, rfl⟩
 clear hwhen hl1 hne hln hlp h5 hM5 hl5
 rintro J2 hJ2 m2 vs H6 f2 ⟨i2, l2, hm2, h6, hM6, hlp, hwhen, rfl⟩
 have hln : l2.length = n := by
  have := hlp.length_eq
  rw [List.length_map, lP0] at this
  exact this
 by_cases hi2 : i2 < N
 · have hi2' : (i2 : Int) < (N : Int) := by omega
   have hw := wrap_succ (i := i2) (by omega)
   simp [lp8_1, hi2]
   refine WCl.mono (gs_tick h6 (by omega) (by show 0 ≤ 1 + (i2 : Int) ∧ 1 + (i2 : Int) < 100000000000; omega) (by show 0 ≤ (n : Int) ∧ (n : Int) < 100000000000; omega) p0 ok bfew) ?_
   rintro r7 H7 ⟨l1', told', l7, ms7, tp, h7, hM7, fr7⟩
   have hT2 : tellsF K (4 - l2.length) [] (lastAt K n) = ([], [], lastAt K n) := by
    have := tells_at hKs hKn (4 - l2.length) n (by omega)
    rw [this, hln]
    by_cases h4 : n = 4
    · rw [h4]
      simp
      rw [Nat.min_eq_left (by omega)]
    · have : n = K.length := by omega
      rw [this]
      simp
   have e7 : keysS s (Giv.mk 0 pt 1 1 n (1 + (i2 : Int)) false).part = K := hK.symm
   rw [e7, hT2] at tp h7
   have e8 : told' = [] := by simpa [toldP] using tp.tolds
   have p2 := tp.p2
   rw [e8, List.append_nil] at p2
   have hn7 : (Giv.mk 0 pt 1 1 n (1 + (i2 : Int)) false).now + 1 = 2 + (i2 : Int) := by show 1 + (i2 : Int) + 1 = _; omega
   have p1 := tp.p1
   have srt := tp.srt
   have hw1 : ∀ o ∈ l1', o.when_ = 1 + 2 * ((i2 / 2 : Nat) : Int) := fun o ho => hwhen o (p1.subset ho)
   have hl1p : (l1'.map OutM.p).Perm P0 := (p1.map _).trans hlp
   have heq : l1'.map OutM.p = P0 := sorted_one hl1p (srt_pair (by rw [p1.length_eq]; exact srt)) ltP0
   have hl7n : l7.length = n := by
    have := p2.length_eq
    rw [List.length_map, p1.length_eq, hln] at this
    exact this
   have hms7 := tp.msgs
   rw [hd _ hl7n, hn7] at hms7
   rw [hn7] at p2
   have hms7 : ms7.map MsgM.p = (l1'.filter (dueO (2 + (i2 : Int)))).map OutM.p := by simpa [endL, toldP] using hms7
   rw [hd _ hl7n] at h7
   have hg7 : tickG (Giv.mk 0 pt 1 1 n (1 + (i2 : Int)) false) ([] : List (List UInt8)).length false = ⟨0, pt, 1, 1, n, 1 + ((i2 + 1 : Nat) : Int), false⟩ := by
    show Giv.mk 0 pt 1 1 ((n : Int) + 0) (1 + (i2 : Int) + 1) (false || false) = _
    rw [Int.add_zero, show 1 + (i2 : Int) + 1 = 1 + ((i2 + 1 : Nat) : Int) by omega]
    rfl
   rw [hg7] at h7
   have hM6' := hM6.keepT fr7
   have hlp7 : (l7.map OutM.p).Perm P0 := by
    have := (p2.map OutM.p)
    rw [map_upd] at this
    exact this.trans hl1p
   have hMn : MRow H6.length H7 g ms7 r7 := hM7.giv (by rw [hg]) (by rw [hg]) (by rw [hg]) (by rw [hg])
   have hlr := hMn.row.len
   by_cases hpar : i2 % 2 = 0
   · -- nothing is due
     have hd0 : ∀ o ∈ l1', dueO (2 + (i2 : Int)) o = false := fun o ho => by
      simp only [dueO, decide_eq_false_iff_not, hw1 o ho]
      omega
     obtain ⟨d1, d2⟩ := filter_no hd0
     rw [d1] at hms7
     have hms0 : ms7 = [] := by simpa using hms7
     rw [hms0] at hlr
     rw [d2] at p2
     have hrem : ((i2 + 1 : Nat) : Int).tmod 2 ≠ 0 := by rw [Int.tmod_eq_emod_of_nonneg (by omega)]; omega
     have hrem2 : ¬ ((i2 : Int) + 1).tmod 2 = 0 := by rw [Int.tmod_eq_emod_of_nonneg (by omega)]; omega
     simp [hw, hrem, hrem2, hlr]
     refine nxt hJ2 (m2 - 1) (by omega) ⟨i2 + 1, l7, by omega, h7, hM6', hlp7, fun o ho => ?_, rfl⟩
     rw [hw1 o (p2.subset ho), show (i2 + 1) / 2 = i2 / 2 by omega]
   · have hd1 : ∀ o ∈ l1', dueO (2 + (i2 : Int)) o = true := fun o ho => by
      simp only [dueO, decide_eq_true_eq, hw1 o ho]
      omega
     obtain ⟨d1, d2⟩ := filter_all hd1
     rw [d1, heq] at hms7
     have f1 : frz H7 12 r7 = some (roL (msgZ g) P0) := by rw [← hms7]; exact hMn.frz (d := 9)
     have f2 : frz H7 12 r0 = some (roL (msgZ g) P0) := by rw [← hms]; exact hM6'.frz (d := 9)
     have hrem2 : ((i2 : Int) + 1).tmod 2 = 0 := by rw [Int.tmod_eq_emod_of_nonneg (by omega)]; omega
     simp [hw, hrem2, f1, f2, k48]
     refine nxt hJ2 (m2 - 1) (by omega) ⟨i2 + 1, l7, by omega, h7, hM6', hlp7, fun o ho => ?_, rfl⟩
     rw [d2 o (p2.subset ho)]
     omega
 -- the first of them is got
 have hms0n : 0 < ms0.length := by omega
 obtain ⟨b, i1, i2x, _⟩ := hM6.at hms0n (k := .i64)
 have i1' : idxSlAV 62 (I 0) r0 = some (.ptr (some (b, 0))) := by simpa using i1
 obtain ⟨m1, hm1⟩ : ∃ m1, m1 = ms0[0] := ⟨_, rfl⟩
 have hm1m : m1 ∈ ms0 := by rw [hm1]; exact List.getElem_mem _
 have hrow := hM6.vals _ hm1m
 have hm1p : P0[0]? = some m1.p := by rw [← hms, List.getElem?_map, List.getElem?_eq_getElem hms0n, hm1]; rfl
 have hkpos : 0 < (K.take 4).length := by rw [List.length_take]; omega
 have hP00 := toldP_at (s := s) (n := 0) hkpos
 rw [← hP0, hm1p] at hP00
 obtain ⟨mk, mseq, mkey, mkn, mvals, mr⟩ := m1
 simp only [MsgM.p, Option.some.injEq, Prod.mk.injEq] at hP00 hm1p
 obtain ⟨rfl, e2, rfl, rfl, rfl⟩ := hP00
 have e2 : mseq = 1 := by rw [e2]; rfl
 subst e2
 have i2' := i2x []
 have hone := hrow.one
 have hmo : msgOf g ⟨5, 1, (K.take 4)[0], (bagOf s (K.take 4)[0]).known, (bagOf s (K.take 4)[0]).vals, mr⟩ = msgG 5 0 1 1 pt 1 (K.take 4)[0] (bagOf s (K.take 4)[0]).known mr := by
  unfold msgOf
  rw [oneR_of hone, hg]
 simp only [← hm1, Nat.zero_mul, List.append_nil, hmo] at i2'
 obtain ⟨kk, hkk⟩ : ∃ kk, kk = (K.take 4)[0] := ⟨_, rfl⟩
 rw [← hkk] at i2' hrow hmo hm1p
 obtain ⟨kn, hkn⟩ : ∃ kn, kn = (bagOf s kk).known := ⟨_, rfl⟩
 obtain ⟨vals, hvals⟩ : ∃ vals, vals = (bagOf s kk).vals := ⟨_, rfl⟩
 rw [← hkn] at i2' hm1p
 rw [← hvals] at hrow hm1p
 obtain ⟨z1, hz1⟩ : ∃ z, z = msgG 5 0 1 1 pt 1 kk kn mr := ⟨_, rfl⟩
 obtain ⟨z2, hz2⟩ : ∃ z, z = msgG 6 0 1 1 pt 1 kk kn mr := ⟨_, rfl⟩
 obtain ⟨z3, hz3⟩ : ∃ z, z = msgG 6 1 1 1 pt 1 kk kn mr := ⟨_, rfl⟩
 obtain ⟨zx, hzx⟩ : ∃ z, z = msgG 6 1 0 1 pt 1 kk kn mr := ⟨_, rfl⟩
 rw [← hz1] at i2'
 have z1l : z1.length = 62 := by rw [hz1]; exact msgG_len
 have z2l : z2.length = 62 := by rw [hz2]; exact msgG_len
 have z3l : z3.length = 62 := by rw [hz3]; exact msgG_len
 have z1one : (∀ x : AV, x ∈ z1 → x.one = true) = True := eq_true (List.all_eq_true.1 (by rw [hz1]; exact msgG_one hone))
 have z1s : setFrom (msgG 0 0 0 0 0 0 [] zeroV .nilsl) 0 z1 = z1 := setFrom_all _ _ (by rw [z1l, msgG_len])
 have xl : zx.length = 62 := by rw [hzx]; exact msgG_len
 have s1 : z1.set 0 (I 6) = z2 := by rw [hz1, hz2]; rfl
 have s2 : z2.set 1 (I 1) = z3 := by rw [hz2, hz3]; rfl
 have s3 : z3.set 2 (I 0) = zx := by rw [hz3, hzx]; rfl
 have xcut : cut zx 0 62 = some zx := cut_all xl
 obtain ⟨tb, htb⟩ : ∃ tb, tb = H6.length := ⟨_, rfl⟩
 obtain ⟨G, hGx⟩ : ∃ G, G = H6 ++ [ABlk.cells false zx] := ⟨_, rfl⟩
 have bx : ∀ X, (G ++ X)[tb]? = some (.cells false zx) := fun X => get_app (by rw [hGx, htb]; simp)
 have ldx0 : loadAt G (some 62) (.ptr (some (H6.length, 0))) = some (.agg zx) := by
  have := bx []
  rw [List.append_nil] at this
  rw [← htb]
  exact row_ld this xcut
 have hG3 : GivS G gb cb 2 0 1 ⟨0, pt, 1, 1, n, 1 + (i2 : Int), false⟩ l2 [] (lastAt K n) s := by rw [hGx]; exact h6.app
 have hrG : Row 0 G 3 valC vals mr := by rw [hGx]; exact hrow.app
 have hi2N : ¬ (i2 : Int) < (N : Int) := by omega
 simp [lp8_1, hi2, i1', i2', msg_zero, msgG_len, z1l, z2l, z3l, z1one, z1s, s1, s2, s3, xl, xcut, ← hGx, ldx0, -load_ptr]
 simp only [← htb]
 rw [hzx]
 refine WCl.mono (gs_got hG3 hrG (by omega)) ?_
 rintro _ G1 (⟨rfl, hno, _⟩ | ⟨rfl, _, o', l3, hso, hp3, h8, f8⟩)
 · exfalso
   rcases hno with hno | hno
   · simp [ofB] at hno
   · have hm0 : (5, 1, kk, kn, vals) ∈ P0 := List.mem_of_getElem? hm1p
     rw [← hlp.mem_iff] at hm0
     obtain ⟨o, ho, e⟩ := List.mem_map.1 hm0
     have hno := hno o ho
     simp only [OutM.p, Prod.mk.injEq, true_and] at e
     obtain ⟨e1, e2, e3, e4⟩ := e
     have hsm : bagSame kn vals kn vals = true := bagSame_refl (b := ⟨kn, vals⟩)
     simp [sameO, e1, e2, e3, e4, hsm] at hno
 · have h3n : l3.length + 1 = n := by
    have := hp3.length_eq
    rw [List.length_cons, hln] at this
    exact this
   have b8 : G1[tb]? = some (.cells false zx) := by
    have := bx []
    rw [List.append_nil] at this
    exact f8.2 _ _ this (by rw [hzx]; rfl) rfl
   have hr8 : Row 0 G1 3 valC vals mr := hrG.keepG f8
   have ld8 := row_ld (n := 62) b8 xcut
   simp [ld8, -load_ptr]
   rw [hzx]
   have huniq : ∀ o ∈ l3, sameO o 1 kk kn vals = false := fun o ho => by
    have hsq : o'.seq = 1 := by
     simp only [sameO, Bool.and_eq_true, decide_eq_true_eq] at hso
     exact hso.1.1
    have hnd : (l2.map fun o => o.seq).Nodup := by
     have h1 : (P0.map fun x => x.2.1).Nodup := List.nodup_iff_pairwise_ne.2 ((List.pairwise_map.2 (ltP0.imp fun {a b} q => q)).imp fun {a b} q => Int.ne_of_lt q)
     have h2 := (hlp.map fun x => x.2.1).nodup_iff.2 h1
     rw [List.map_map] at h2
     exact h2
    have hnd2 := (hp3.map fun o => o.seq).nodup_iff.2 hnd
    rw [List.map_cons, List.nodup_cons] at hnd2
    have : o.seq ≠ 1 := fun e => hnd2.1 (by rw [hsq, ← e]; exact List.mem_map.2 ⟨o, ho, rfl⟩)
    simp [sameO, this]
   refine WCl.mono (gs_got h8 hr8 (by omega)) ?_
   rintro _ G2 (⟨rfl, _, Y, rfl⟩ | ⟨_, _, o2, l4, hs4, hp4, _⟩)
   · have h9 := h8.app (X := Y)
     simp [-load_ptr]
     refine WCl.mono (gs_out h9 (by omega)) ?_
     rintro r9 H9 ⟨hl9, _, _, _⟩
     have hwn : IntKind.i64.wrap ((n : Int) - 1) = (l3.length : Int) := by rw [wrap_i64] <;> omega
     simp [hl9, hwn, k43]
   · have := huniq o2 (hp4.subset (.head _))
     rw [hs4] at this
     cases this
theorem giveAgain_law (cs : List AV) (h : FitsArgs [(false, .sl 1 8 (.int .i64)), (false, .int .i64)] cs) : ∃ n H', callF envE (exec envE n) 8 cs 0 [] = some (.bool true, H') := by
 obtain ⟨a, rest, rfl, h1, t⟩ := fa_one h
 obtain ⟨c, rest, rfl, h2, t⟩ := fa_one t
 cases fa_nil t
 obtain ⟨l, e1, _, hl⟩ := fits_sl (f := intC) (fun r hr => by obtain ⟨x, e, _⟩ := fits_int hr; exact ⟨x, e⟩) h1
 obtain ⟨y, e2, _⟩ := fits_int h2
 cases e1
 cases e2
 have hrb : reachBytes = 140737488351232 := rfl
 exact law_of (giveAgain_pu l y (by omega)) (by simp)
end Go.Proofs.YtgbnbgkldeifkaaGreatA

namespace Go.Proofs.YtgbnbgkldeifkaaGreat.giveAgain
open Go.ChangeShapes Go.WideShapes Go.ChangeAt Go.RowKit
set_option linter.unusedVariables false
theorem own : ownKnob Tryz.prog.godebug = none := by kernel_rfl
set_option maxRecDepth 1000000 in
theorem lifted (os : Os) (started : os.Started) (H : Type) (enc : TypeId × Value → H) :
    ReturnsInHanded {} Tryz.checked os 8 .any (Rows.giveAgainSpec.pre6 enc Tryz.prog Tryz.f8 Rows.giveAgainRow.domain false) (Rows.giveAgainSpec.post enc Tryz.prog Tryz.f8 false true false false) :=
  YtgbnbgkldeifkaaGreatA.law_lifted (C := Tryz.checked) YtgbnbgkldeifkaaGreatA.env_good (fd := YtgbnbgkldeifkaaGreatA.fd8) (tb := 4) rfl own started (by kernel_rfl) Tryz.func8
    (ChangeSpec.witness6 (enc := enc) (C := Tryz.checked) false ⟨#[], #[((Tryz.prog.info? 32).bind (·.zero)).getD .nilFunc, ((Tryz.prog.info? 3).bind (·.zero)).getD .nilFunc], []⟩ 8 (by kernel_rfl) (by kernel_rfl) (by kernel_rfl) (by kernel_rfl))
    (by kernel_rfl) (by decide +kernel) (by kernel_rfl) rfl (by kernel_rfl) (by kernel_rfl) (fun ds h => by
      match ds, h with
      | [d0, d1], _ => rfl) YtgbnbgkldeifkaaGreatA.giveAgain_law
theorem over : Rows.giveAgainRow.holds Tryz.pinned (OpenSpec.ofChange Rows.giveAgainSpec) :=
  OpenClaim.holds_of_wide 8 Tryz.f8 rfl rfl rfl rfl rfl rfl rfl ⟨rfl, rfl, rfl, rfl, rfl⟩ rfl rfl rfl rfl rfl (by kernel_rfl) Tryz.func8 (by kernel_rfl)
    (of_decide_eq_true (by kernel_rfl)) (by unfold Func.isWrapper; first | (rw [if_pos (by decide +kernel)]; kernel_rfl) | (rw [if_neg (by decide +kernel)]; exact ⟨rfl, rfl⟩))
    (fun os started H enc _ => lifted os started H enc)
end Go.Proofs.YtgbnbgkldeifkaaGreat.giveAgain
namespace Go.Proofs.YtgbnbgkldeifkaaGreat
/-- The row, under a short name, for the claim. -/
theorem giveAgain_holds : Rows.GiveAgainSaid := giveAgain.over
#print axioms giveAgain_holds
end Go.Proofs.YtgbnbgkldeifkaaGreat


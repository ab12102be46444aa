/- 'starlinglaw19.FoldDrops' returns true for all numbers: what is due, and is gone, is not told; keys of other parts are never due. Without further conditions. -/
import Derived.Test.YtgbnbgkldeifkaaGreatRows
import Derived.Test.YtgbnbgkldeifkaaGreatAW34
import Derived.Test.YtgbnbgkldeifkaaGreatFT
import Derived.Test.YtgbnbgkldeifkaaGreatV7
import Derived.WalkKit
import Derived.ProofKit
import Derived.ChangeOld
namespace Go.Proofs.YtgbnbgkldeifkaaGreatA
open Go Go.RowKit
set_option linter.unusedSimpArgs false
set_option linter.unusedVariables false
set_option maxRecDepth 1000000
attribute [local simp] vec_zero
theorem addK_len {ks : List (List UInt8)} {key : List UInt8} : (addK ks key).length ≤ ks.length + 1 := by
 unfold addK
 split <;> simp
theorem put_len {s : VSt} {node : Int} {key : List UInt8} {known : Nat → Int} {data : List UInt8} : (putO s node key known data).s.bags.length ≤ s.bags.length + 1 := by
 rcases put_keys (s := s) (node := node) (key := key) (known := known) (data := data) with ⟨_, _, hb, _⟩ | ⟨_, e⟩
 · have h1 := congrArg List.length hb
   have h2 := addK_len (ks := s.bags.map Prod.fst) (key := key)
   simp only [List.length_map] at h1 h2
   omega
 · rw [e]; omega
theorem key_fine {k : List UInt8} (h : k.length = 2) : keyOk k = true := by simp [keyOk, h]
theorem pe0 : putE zBagS.known zBagS.vals zeroV 0 (0 + 1) [118] = 0 := by kernel_rfl
theorem first_put {k : List UInt8} (h : k.length = 2) : (putO (emptyS 20) 0 k zeroV [118]).e = 0 := by
 have he : putE (bagOf (emptyS 20) k).known (bagOf (emptyS 20) k).vals zeroV 0 ((emptyS 20).dots + 1) [118] = 0 := by
  exact pe0
 obtain ⟨s', h1, _⟩ := putO_ok (key := k) (key_fine h) (by omega) (by omega) (by simp [emptyS]) (by simp [emptyS]) (by simp [fullS, emptyS]) he (by simp [emptyS])
 rw [h1]
set_option maxHeartbeats 4000000 in
theorem foldDrops_pu (a b : Int) : Pu envE 7 [I a, I b] (.bool true) := by
 refine pu_is e7 rfl ?_
 obtain ⟨k, hk, hk2⟩ := c27 a
 obtain ⟨o, ho, ho2⟩ := c27 b
 have zone : ∀ B : List AV, (B.all AV.one = true) → (∀ x : AV, x ∈ B → x.one = true) = True := fun B h => eq_true (List.all_eq_true.1 h)
 have nr := fun K => new_room (room := 20) (H := []) (lim := 0) (K := K) (by omega) (by omega)
 obtain ⟨p0, p1⟩ := spot_ok (key_fine hk2)
 rw [fr_init (by simp [fd7])]
 simp [fd7, b7, nr]
 refine open_new 20 [] (by omega) (by omega) ?_
 intro X hv
 have ok0 := empty_ok (room := 20) (by omega) (by omega)
 simp only [List.nil_append, List.length_nil, Nat.zero_add] at hv ⊢
 simp [wPu_eq hk, wPu_eq ho]
 refine WCl.mono (c24 hv ok0 0 k zeroV [118]) ?_
 rintro _ H1 ⟨rfl, k1, v1, q1, es1, ck1, hv1⟩
 obtain ⟨R, hR⟩ : ∃ R, R = putO (emptyS 20) 0 k zeroV [118] := ⟨_, rfl⟩
 have hRe : R.e = 0 := by rw [hR]; exact first_put hk2
 have okR : VOk R.s := by rw [hR]; exact ok0.putV
 have hRk := fun x => keysS_put (s := emptyS 20) (node := 0) (key := k) (known := zeroV) (data := [118]) (p := spotF k) (by rw [← hR]; exact hRe) x
 have hRl := put_len (s := emptyS 20) (node := 0) (key := k) (known := zeroV) (data := [118])
 have hRd := put_ds (s := emptyS 20) (node := 0) (key := k) (known := zeroV) (data := [118])
 rw [← hR] at hv1 hRk hRl hRd ⊢
 have hE0 : (emptyS 20).bags.length = 0 := rfl
 have hE1 : (emptyS 20).ds.length = 0 := rfl
 have hE2 : (emptyS 20).room = 20 := rfl
 simp
 refine WCl.mono (c24 hv1 okR 0 o zeroV [118]) ?_
 rintro _ H2 ⟨rfl, k2, v2, q2, es2, ck2, hv2⟩
 obtain ⟨Q, hQ⟩ : ∃ Q, Q = putO R.s 0 o zeroV [118] := ⟨_, rfl⟩
 obtain ⟨s, hs⟩ : ∃ s, s = Q.s := ⟨_, rfl⟩
 have ok : VOk s := by rw [hs, hQ]; exact okR.putV
 have hsl := put_len (s := R.s) (node := 0) (key := o) (known := zeroV) (data := [118])
 have hsd := put_ds (s := R.s) (node := 0) (key := o) (known := zeroV) (data := [118])
 have hsk : k ∈ keysS s (spotF k) := by
  have h1 : k ∈ keysS R.s (spotF k) := (hRk k).2 (.inr ⟨rfl, rfl⟩)
  rcases put_keys (s := R.s) (node := 0) (key := o) (known := zeroV) (data := [118]) with ⟨he, _⟩ | ⟨_, e⟩
  · have := (keysS_put he (p := spotF k) k).2 (.inl h1)
    rwa [← hQ, ← hs] at this
  · rw [hs, hQ, e]; exact h1
 rw [← hQ, ← hs] at hv2 hsl hsd
 obtain ⟨N, hN⟩ : ∃ N, N = spotF k := ⟨_, rfl⟩
 rw [← hN] at hsk p0 p1
 have few : s.bags.length < 1000000000 := by omega
 have hds : (s.ds.length : Int) < s.room := by rw [hsd.2, hRd.2, hE2]; omega
 obtain ⟨K, hK⟩ : ∃ K, K = keysS s N := ⟨_, rfl⟩
 rw [← hK] at hsk
 have hKs : Strict K := by rw [hK]; exact keys_strict hv2.ents.uniq
 have hKl : K.length ≤ 2 := by
  rw [hK, keysS_len]
  have : (partF (s.bags.map Prod.fst) N).length ≤ (s.bags.map Prod.fst).length := List.length_filter_le _ _
  simp only [List.length_map] at this
  omega
 have kN := fun K' => WCl_eq (K := K') (c26 N 0 H2 p0 p1)
 obtain ⟨cb, hcb⟩ : ∃ cb, cb = H2.length := ⟨_, rfl⟩
 obtain ⟨G, hG⟩ : ∃ G, G = H2 ++ [curB N .nilsl []] := ⟨_, rfl⟩
 have hvG : Vlt G 2 0 1 s v2 q2 es2 ck2 := by rw [hG]; exact hv2.app
 have hcG : CurM G cb N [] [] .nilsl := cur_new (X := []) (by rw [hG, hcb]; simp)
 have hT0 : Told K [] [] [] (bagOf s) := ⟨by simp, fun x hx hl _ => by
  rw [hK] at hx
  have := keysS_ne p0 x hx
  cases x with
  | nil => exact absurd rfl this
  | cons c t => simp [strLess] at hl, by simp⟩
 have hrem0 : remF K [] [] = K.length := by
  unfold remF
  rw [List.filter_eq_self.2 fun x hx => ?_]
  · simp
  · rw [hK] at hx
    have := keysS_ne p0 x hx
    cases x with
    | nil => exact absurd rfl this
    | cons c t => rfl
 simp [← hN, kN, ← hG, ← hcb]
 refine loop_go [5, 6, 7, 8, 9, 10, 33] rfl (fun m vs H => ∃ j n L cv M, m + j = 3 ∧ Vlt H 2 0 1 s v2 q2 es2 ck2 ∧ CurM H cb N [] L cv ∧ Told K [] L M (bagOf s) ∧ n + remF K [] L = K.length ∧ (n = j ∨ aheadF K L = none) ∧ n ≤ j ∧ vs = [.ptr (some (2, 0)), .str k, .str o, I N, .ptr (some (cb, 0)), I (n : Nat), I (j : Nat)]) ?_ 3 ⟨0, 0, [], .nilsl, [], rfl, hvG, hcG, hT0, by omega, .inl rfl, Nat.le_refl _, rfl⟩
 clear hvG hcG hT0 kN hG hv2 hv1 hv
 rintro J hJ m vs H f ⟨j, n, L, cv, M, hm, hv, hc, hT, hrem, hor, hnj, rfl⟩
 by_cases hj : j < 3
 · have hj' : (j : Int) < 3 := by omega
   have hwj := wrap_succ (i := j) (by omega)
   have hwn := wrap_succ (i := n) (by omega)
   simp [lp7_0, hj, hj']
   refine WCl.mono (c28 hv ok few p0 hc) ?_
   rintro r H3 ⟨hr, v3, h3, fr3⟩
   rw [← hK] at hr h3
   have hv3 : Vlt H3 2 0 1 s v2 q2 es2 ck2 := hv.keepC fun b z hb hi => fr3.still hc hb hi
   rcases hT.next .nil hKs with ⟨k', D', L', hn, hkm, hT', hrem', hDD⟩ | ⟨hn, hD0, hah⟩
   · rw [hn] at hr h3
     obtain ⟨k2, q', e, rfl, hrow⟩ := hr.resolve_left (by rintro ⟨e, _⟩; cases e)
     cases e
     obtain rfl : D' = [] := List.eq_nil_of_length_eq_zero (by simpa using hDD)
     have o1 := hrow.one
     obtain ⟨B, hB_⟩ : ∃ B, B = pairC k' (bagOf s k').known q' := ⟨_, rfl⟩
     have Blen : B.length = 10 := by rw [hB_]; exact pairC_len
     have hover : ∀ (l : List AV), l.length = 10 → setFrom l 0 B = B := fun l a => setFrom_all _ _ (by rw [a, Blen])
     have Bone := zone B (by rw [hB_]; exact pairC_one o1)
     obtain ⟨H4, hH4⟩ : ∃ H4, H4 = H3 ++ [ABlk.cells false B] := ⟨_, rfl⟩
     have hv4 : Vlt H4 2 0 1 s v2 q2 es2 ck2 := by rw [hH4]; exact hv3.app
     have hc4 : CurM H4 cb N [] L' v3 := by rw [hH4]; exact h3.app
     have hnn : n = j := by
      rcases hor with q | q
      · exact q
      · simp [nextF, q] at hn
     simp [← hB_, hover, Blen, Bone, ← hH4, hwj, hwn]
     exact nxt hJ (m - 1) (by omega) ⟨j + 1, n + 1, L', v3, _, by omega, hv4, hc4, hT', by omega, .inl (by omega), by omega, rfl⟩
   · rw [hn] at hr h3
     obtain ⟨_, rfl⟩ := hr.resolve_right (by rintro ⟨_, _, e, _⟩; cases e)
     have hz : ∀ (l : List AV), l.length = 10 → setFrom l 0 pairZ = pairZ := fun l a => setFrom_all _ _ (by rw [a, pairZ_len])
     obtain ⟨H4, hH4⟩ : ∃ H4, H4 = H3 ++ [ABlk.cells false pairZ] := ⟨_, rfl⟩
     have hv4 : Vlt H4 2 0 1 s v2 q2 es2 ck2 := by rw [hH4]; exact hv3.app
     have hc4 : CurM H4 cb N [] L v3 := by rw [hH4]; exact h3.app
     simp [hz, pairZ_len, zone _ pairZ_one, ← hH4, hwj]
     exact nxt hJ (m - 1) (by omega) ⟨j + 1, n, L, v3, M, by omega, hv4, hc4, hT, hrem, .inr hah, by omega, rfl⟩
 obtain rfl : j = 3 := by omega
 have hah : aheadF K L = none := by
  rcases hor with q | q
  · omega
  · exact q
 have hrz : remF K [] L = 0 := by
  unfold remF
  unfold aheadF at hah
  rw [List.filter_eq_nil_iff.2 fun x hx => List.find?_eq_none.1 hah x hx]
  rfl
 have hnK : n = K.length := by omega
 have hLk : strLess L k = false := by
  unfold aheadF at hah
  have := List.find?_eq_none.1 hah k hsk
  simpa using this
 have hbk : backOk N L k = true := by simp [backOk, ← hN, hLk]
 have hbf : backF N [] L k = [k] := by simp [backF, hbk, insF]
 simp [lp7_0]
 refine WCl.mono (c40k hv (by omega) N p0 0) ?_
 rintro kv _ ⟨Y, rfl, hkv⟩
 rw [← hK] at hkv
 have hnI : (n : Int) = K.length := by omega
 simp [hkv.len, hnK]
 refine WCl.mono (c30 (hc.app (X := Y)) k (by simp)) ?_
 rintro _ H4 ⟨rfl, v4, h4, fr4⟩
 rw [hbf] at h4
 have hv4 : Vlt H4 2 0 1 s v2 q2 es2 ck2 := (hv.app (X := Y)).keepC fun b z hb hi => fr4.still hc.app hb hi
 have rest : ∀ (H5 : Heap) (v5 : AV), CurM H5 cb N [k] L v5 → Vlt H5 2 0 1 s v2 q2 es2 ck2 → True := fun _ _ _ _ => trivial
 obtain ⟨hw, hdb⟩ := drop_bags (s := s) p0 p1 hds
 have okD : VOk (dropS s N) := ok.dropV
 have hKD : keysS (dropS s N) N = [] := by
  have : (keysS (dropS s N) N).length = 0 := by
   rw [keysS_len, hdb, rest_fst, rest_none]
   rfl
  exact List.eq_nil_of_length_eq_zero this
 have fewD : (dropS s N).bags.length < 1000000000 := by
  rw [hdb]
  have : (restB N s.bags).length ≤ s.bags.length := List.length_filter_le _ _
  omega
 have hKne : keysS s N ≠ [] := by rw [← hK]; exact List.ne_nil_of_mem hsk
 have hn0 : nextF [] [k] L = (none, [], L) := by simp [nextF, aheadF]
 have hz : ∀ (l : List AV), l.length = 10 → setFrom l 0 pairZ = pairZ := fun l a => setFrom_all _ _ (by rw [a, pairZ_len])
 by_cases hso : spotF o = N
 · simp [hbk, hso]
   refine WCl.mono (c33 h4 0 (Nat.zero_le _)) ?_
   rintro r _ ⟨Y5, rfl, hrow⟩
   simp [hrow.len]
   refine WCl.mono (c41g (hv4.app (X := Y5)) ok (by omega) N ⟨p0, p1⟩) ?_
   rintro r6 H6 hor6
   obtain ⟨_, rfl, k6, v6, q6, es6, ck6, hv6⟩ := hor6.resolve_left (by rintro ⟨e, _⟩; exact hKne e)
   have hc6 := (h4.app (X := Y5)).keepK (hv4.app (X := Y5)) k6
   simp
   refine WCl.mono (c28 hv6 okD fewD p0 hc6) ?_
   rintro r H7 ⟨hr, v7, h7, fr7⟩
   rw [hKD, hn0] at hr h7
   obtain ⟨_, rfl⟩ := hr.resolve_right (by rintro ⟨_, _, e, _⟩; cases e)
   have hv7 : Vlt H7 2 0 1 (dropS s N) v6 q6 es6 ck6 := hv6.keepC fun b z hb hi => fr7.still hc6 hb hi
   obtain ⟨H8, hH8⟩ : ∃ H8, H8 = H7 ++ [ABlk.cells false pairZ] := ⟨_, rfl⟩
   have hv8 : Vlt H8 2 0 1 (dropS s N) v6 q6 es6 ck6 := by rw [hH8]; exact hv7.app
   have hc8 : CurM H8 cb N [] L v7 := by rw [hH8]; exact h7.app
   simp [hz, pairZ_len, zone _ pairZ_one, ← hH8]
   refine WCl.mono (c33 hc8 0 (Nat.zero_le _)) ?_
   rintro r _ ⟨Y8, rfl, hrow8⟩
   simp [hrow8.len]
   refine WCl.mono (c32 (hv8.app (X := Y8)) fewD p0 (hc8.app (X := Y8)) 0 (Nat.zero_le _)) ?_
   rintro _ _ ⟨rfl, Y9, rfl⟩
   have hov : overF (keysS (dropS s N) N) [] L = true := by rw [hKD]; simp [overF, aheadF]
   simp [hov, k34]
 · have hbo : backOk N L o = false := by simp [backOk, hso]
   have hbfo : backF N [k] L o = [k] := by simp [backF, hbo]
   simp [hbk, hso]
   refine WCl.mono (c30 h4 o (by simp)) ?_
   rintro _ H5 ⟨rfl, v5, h5, fr5⟩
   rw [hbfo] at h5
   have hv5 : Vlt H5 2 0 1 s v2 q2 es2 ck2 := hv4.keepC fun b z hb hi => fr5.still h4 hb hi
   simp [hbo]
   refine WCl.mono (c33 h5 0 (Nat.zero_le _)) ?_
   rintro r _ ⟨Y5, rfl, hrow⟩
   simp [hrow.len]
   refine WCl.mono (c41g (hv5.app (X := Y5)) ok (by omega) N ⟨p0, p1⟩) ?_
   rintro r6 H6 hor6
   obtain ⟨_, rfl, k6, v6, q6, es6, ck6, hv6⟩ := hor6.resolve_left (by rintro ⟨e, _⟩; exact hKne e)
   have hc6 := (h5.app (X := Y5)).keepK (hv5.app (X := Y5)) k6
   simp
   refine WCl.mono (c28 hv6 okD fewD p0 hc6) ?_
   rintro r H7 ⟨hr, v7, h7, fr7⟩
   rw [hKD, hn0] at hr h7
   obtain ⟨_, rfl⟩ := hr.resolve_right (by rintro ⟨_, _, e, _⟩; cases e)
   have hv7 : Vlt H7 2 0 1 (dropS s N) v6 q6 es6 ck6 := hv6.keepC fun b z hb hi => fr7.still hc6 hb hi
   obtain ⟨H8, hH8⟩ : ∃ H8, H8 = H7 ++ [ABlk.cells false pairZ] := ⟨_, rfl⟩
   have hv8 : Vlt H8 2 0 1 (dropS s N) v6 q6 es6 ck6 := by rw [hH8]; exact hv7.app
   have hc8 : CurM H8 cb N [] L v7 := by rw [hH8]; exact h7.app
   simp [hz, pairZ_len, zone _ pairZ_one, ← hH8]
   refine WCl.mono (c33 hc8 0 (Nat.zero_le _)) ?_
   rintro r _ ⟨Y8, rfl, hrow8⟩
   simp [hrow8.len]
   refine WCl.mono (c32 (hv8.app (X := Y8)) fewD p0 (hc8.app (X := Y8)) 0 (Nat.zero_le _)) ?_
   rintro _ _ ⟨rfl, Y9, rfl⟩
   have hov : overF (keysS (dropS s N) N) [] L = true := by rw [hKD]; simp [overF, aheadF]
   simp [hov, k34]
theorem foldDrops_law (cs : List AV) (h : FitsArgs [(false, .int .i64), (false, .int .i64)] cs) : ∃ n H', callF envE (exec envE n) 7 cs 0 [] = some (.bool true, H') := by
 obtain ⟨a, rest, rfl, h1, t⟩ := fa_one h
 obtain ⟨c, rest, rfl, h2, t⟩ := fa_one t
 cases fa_nil t
 obtain ⟨x, e1, _⟩ := fits_int h1
 obtain ⟨y, e2, _⟩ := fits_int h2
 cases e1
 cases e2
 exact law_of (foldDrops_pu x y) (by simp)
end Go.Proofs.YtgbnbgkldeifkaaGreatA

namespace Go.Proofs.YtgbnbgkldeifkaaGreat.foldDrops
open Go.ChangeShapes Go.WideShapes Go.ChangeAt Go.RowKit
set_option linter.unusedVariables false
theorem own : ownKnob Tryz.prog.godebug = none := by kernel_rfl
set_option maxRecDepth 1000000 in
theorem lifted (os : Os) (started : os.Started) (H : Type) (enc : TypeId × Value → H) :
    ReturnsInHanded {} Tryz.checked os 7 .any (Rows.foldDropsSpec.pre6 enc Tryz.prog Tryz.f7 Rows.foldDropsRow.domain false) (Rows.foldDropsSpec.post enc Tryz.prog Tryz.f7 false true false false) :=
  YtgbnbgkldeifkaaGreatA.law_lifted (C := Tryz.checked) YtgbnbgkldeifkaaGreatA.env_good (fd := YtgbnbgkldeifkaaGreatA.fd7) (tb := 4) rfl own started (by kernel_rfl) Tryz.func7
    (ChangeSpec.witness6 (enc := enc) (C := Tryz.checked) false ⟨#[], #[((Tryz.prog.info? 3).bind (·.zero)).getD .nilFunc, ((Tryz.prog.info? 3).bind (·.zero)).getD .nilFunc], []⟩ 8 (by kernel_rfl) (by kernel_rfl) (by kernel_rfl) (by kernel_rfl))
    (by kernel_rfl) (by decide +kernel) (by kernel_rfl) rfl (by kernel_rfl) (by kernel_rfl) (fun ds h => by
      match ds, h with
      | [d0, d1], _ => rfl) YtgbnbgkldeifkaaGreatA.foldDrops_law
theorem over : Rows.foldDropsRow.holds Tryz.pinned (OpenSpec.ofChange Rows.foldDropsSpec) :=
  OpenClaim.holds_of_wide 7 Tryz.f7 rfl rfl rfl rfl rfl rfl rfl ⟨rfl, rfl, rfl, rfl, rfl⟩ rfl rfl rfl rfl rfl (by kernel_rfl) Tryz.func7 (by kernel_rfl)
    (of_decide_eq_true (by kernel_rfl)) (by unfold Func.isWrapper; first | (rw [if_pos (by decide +kernel)]; kernel_rfl) | (rw [if_neg (by decide +kernel)]; exact ⟨rfl, rfl⟩))
    (fun os started H enc _ => lifted os started H enc)
end Go.Proofs.YtgbnbgkldeifkaaGreat.foldDrops
namespace Go.Proofs.YtgbnbgkldeifkaaGreat
/-- The row, under a short name, for the claim. -/
theorem foldDrops_holds : Rows.FoldDropsSaid := foldDrops.over
#print axioms foldDrops_holds
end Go.Proofs.YtgbnbgkldeifkaaGreat


/- 'starlinglaw19.FoldOrder' returns true for all rows of keys' numbers and every part: without writes between, the keys of the part come rising, each once. Without further conditions. -/
import Derived.Test.YtgbnbgkldeifkaaGreatRows
import Derived.Test.YtgbnbgkldeifkaaGreatAW34
import Derived.WalkKit
import Derived.ProofKit
import Derived.ChangeOld
namespace Go.Proofs.YtgbnbgkldeifkaaGreatA
open Go Go.RowKit
set_option linter.unusedSimpArgs false
set_option linter.unusedVariables false
set_option maxRecDepth 1000000
attribute [local simp] vec_zero

theorem mod16 (x : Int) : ∃ N : Nat, N < 16 ∧ IntKind.i64.wrap ((IntKind.u64.wrap x).tmod 16) = (N : Int) := by
  have hx : 0 ≤ IntKind.u64.wrap x := by simp [IntKind.wrap, IntKind.signed, IntKind.bits]; omega
  have h1 := Int.emod_nonneg (IntKind.u64.wrap x) (b := 16) (by omega)
  have h2 := Int.emod_lt_of_pos (IntKind.u64.wrap x) (b := 16) (by omega)
  refine ⟨((IntKind.u64.wrap x) % 16).toNat, by omega, ?_⟩
  rw [Int.tmod_eq_emod_of_nonneg hx, wrap_i64] <;> omega
theorem addK_len {ks : List (List UInt8)} {key : List UInt8} : (addK ks key).length ≤ ks.length + 1 := by
  unfold addK
  split <;> simp
/-- A put, at most one key more. -/
theorem put_len {s : VSt} {node : Int} {key : List UInt8} {known : Nat → Int} {data : List UInt8} : (putO s node key known data).s.bags.length ≤ s.bags.length + 1 := by
  rcases put_keys (s := s) (node := node) (key := key) (known := known) (data := data) with ⟨_, _, hb, _⟩ | ⟨_, e⟩
  · have h1 := congrArg List.length hb
    have h2 := addK_len (ks := s.bags.map Prod.fst) (key := key)
    simp only [List.length_map] at h1 h2
    omega
  · rw [e]; omega
set_option maxHeartbeats 4000000 in
theorem foldOrder_pu (l : List Int) (part : Int) (hl : l.length < 4611686018427387904) : Pu envE 5 [roL intC l, I part] (.bool true) := by
  refine pu_is e5 rfl ?_
  by_cases h60 : (60 : Int) < l.length
  · rw [fr_init (by simp [fd5])]
    simp [fd5, b5, h60, k34]
  obtain ⟨N, hN, hNe⟩ := mod16 part
  have nr := fun K => new_room (room := 200) (H := []) (lim := 0) (K := K) (by omega) (by omega)
  rw [fr_init (by simp [fd5])]
  simp [fd5, b5, h60, hNe, nr]
  refine open_new 200 [] (by omega) (by omega) ?_
  intro X hv
  simp only [List.nil_append, List.length_nil, Nat.zero_add] at hv ⊢
  simp
  refine loop_go [1, 5, 28, 29, 30] rfl (fun m vs H => ∃ i s v q es ck, m + i = l.length ∧ Vlt H 2 0 1 s v q es ck ∧ VOk s ∧ s.bags.length ≤ i ∧ vs = [I N, .ptr (some (2, 0)), roL intC l, I l.length, I i]) ?_ l.length ⟨0, emptyS 200, _, _, _, _, rfl, hv, empty_ok (by omega) (by omega), by simp [emptyS], rfl⟩
  rintro J hJ m vs H f ⟨i, s, v, q, es, ck, hm, hv, ok, hb, rfl⟩
  by_cases hi : i < l.length
  · have hw := wrap_succ (i := i) (by omega)
    have hld := int_load hi (H := H)
    obtain ⟨k, hk, hk2⟩ := c27 l[i]
    simp [lp5_0, hi, idxSl_roL hi, hld, -load_tp, wPu_eq hk]
    refine WCl.mono (c24 hv ok 0 k zeroV [118]) ?_
    rintro _ H2 ⟨rfl, k2, v2, q2, es2, ck2, hv2⟩
    simp [hw]
    have hp := put_len (s := s) (node := 0) (key := k) (known := zeroV) (data := [118])
    exact nxt hJ (m - 1) (by omega) ⟨i + 1, _, v2, q2, es2, ck2, by omega, hv2, ok.putV, by omega, rfl⟩
  obtain ⟨K, hK⟩ : ∃ K, K = keysS s N := ⟨_, rfl⟩
  have few : s.bags.length < 1000000000 := by omega
  have hKs : Strict K := by rw [hK]; exact keys_strict hv.ents.uniq
  have hKn : ∀ k ∈ K, k ≠ [] := by rw [hK]; exact keysS_ne (by omega)
  have hKl : K.length ≤ 60 := by
    rw [hK, keysS_len]
    have : (partF (s.bags.map Prod.fst) N).length ≤ (s.bags.map Prod.fst).length := List.length_filter_le _ _
    simp only [List.length_map] at this
    omega
  have hKp : ∀ k ∈ K, spotF k = (N : Int) := fun k hk => by
    rw [hK] at hk
    exact (keysS_mem.1 hk).2
  have kN := fun K' => WCl_eq (K := K') (c26 N 0 H (by omega) (by omega))
  have hv1 := hv.app (X := [curB N .nilsl []])
  have hc1 := cur_new (X := []) (H := H ++ [curB N .nilsl []]) (cb := H.length) (part := N) (by simp)
  simp [lp5_0, hi, kN]
  refine WCl.mono (c40k hv1 (by omega) N (by omega) 0) ?_
  rintro kv _ ⟨Y, rfl, hkv⟩
  rw [← hK] at hkv
  have hc2 := hc1.app (X := Y)
  have hv2 := hv1.app (X := Y)
  have hap := hkv.apart fun c hc => hc1.off_ge hc
  have hkv0 := hkv.mono (Nat.zero_le _)
  obtain ⟨G, hG⟩ : ∃ G, G = H ++ [curB N .nilsl []] ++ Y := ⟨_, rfl⟩
  obtain ⟨cb, hcb⟩ : ∃ cb, cb = H.length := ⟨_, rfl⟩
  rw [← hG, ← hcb] at hc2
  rw [← hG] at hv2 hkv0
  have hG' : H ++ curB N .nilsl [] :: Y = G := by rw [hG]; simp
  have lastS : ∀ j (hj : j < K.length), lastAt K (j + 1) = K[j] := fun j hj => by
    unfold lastAt
    rw [if_neg (by omega), Nat.add_sub_cancel, List.getElem?_eq_getElem hj]
    rfl
  simp [hkv.len, hG', ← hcb]
  refine loop_go [5, 8, 9, 45, 46, 47] rfl (fun m vs H' => ∃ i cv, m + i = K.length ∧ Vlt H' 2 0 1 s v q es ck ∧ CurM H' cb N [] (lastAt K i) cv ∧ Row 0 H' 1 strC K kv ∧ (∀ b o n z, kv = .sl b o n z → Off cv b) ∧ vs = [.ptr (some (2, 0)), .ptr (some (cb, 0)), kv, kv, I K.length, I i]) ?_ K.length ⟨0, .nilsl, rfl, hv2, hc2, hkv0, hap, rfl⟩
  clear hkv hkv0 hap hc2 hv2 hG hG' hc1 hv1 kN
  rintro J2 hJ2 m2 vs H1 f2 ⟨i, cv, hm2, hv1, hc1, hr1, ap1, rfl⟩
  have hpN : (0 : Int) ≤ N := by omega
  have zone : ∀ B : List AV, (B.all AV.one = true) → (∀ x : AV, x ∈ B → x.one = true) = True := fun B h => eq_true (List.all_eq_true.1 h)
  by_cases hi2 : i < K.length
  case neg =>
    obtain rfl : i = K.length := by omega
    have hah : aheadF K (lastAt K K.length) = none := by rw [ahead_at hKs hKn (Nat.le_refl _), List.getElem?_eq_none (Nat.le_refl _)]
    simp [lp5_1]
    refine WCl.mono (c28 hv1 ok few hpN hc1) ?_
    rintro r H2 ⟨hr, v2, h2, fr2⟩
    rw [← hK] at hr h2
    have hn : nextF K [] (lastAt K K.length) = (none, [], lastAt K K.length) := by simp [nextF, hah]
    rw [hn] at hr h2
    obtain ⟨_, rfl⟩ := hr.resolve_right (by rintro ⟨_, _, e, _⟩; cases e)
    have hv2 : Vlt H2 2 0 1 s v q es ck := hv1.keepC fun b z hb hi => fr2.still hc1 hb hi
    have hz : ∀ (l : List AV), l.length = 10 → setFrom l 0 pairZ = pairZ := fun l a => setFrom_all _ _ (by rw [a, pairZ_len])
    obtain ⟨H3, hH3⟩ : ∃ H3, H3 = H2 ++ [ABlk.cells false pairZ] := ⟨_, rfl⟩
    have hv3 : Vlt H3 2 0 1 s v q es ck := by rw [hH3]; exact hv2.app
    have hc3 : CurM H3 cb N [] (lastAt K K.length) v2 := by rw [hH3]; exact h2.app
    simp [hz, pairZ_len, zone _ pairZ_one, ← hH3]
    refine WCl.mono (c32 hv3 few hpN hc3 0 (Nat.zero_le _)) ?_
    rintro _ _ ⟨rfl, Y2, rfl⟩
    have hov : overF (keysS s N) [] (lastAt K K.length) = true := by rw [← hK]; simp [overF, hah]
    simp [hov]
    refine WCl.mono (c33 (hc3.app (X := Y2)) 0 (Nat.zero_le _)) ?_
    rintro r _ ⟨Y3, rfl, hrow⟩
    simp [hrow.len, k34]
  obtain ⟨k, hk⟩ : ∃ k, k = K[i] := ⟨_, rfl⟩
  have hkm : k ∈ K := by rw [hk]; exact List.getElem_mem _
  have hah : aheadF K (lastAt K i) = some k := by rw [ahead_at hKs hKn (by omega), List.getElem?_eq_getElem hi2, hk]
  have hgt : strLess (lastAt K i) k = true := by
    have := List.find?_some hah
    simpa using this
  obtain ⟨p1, hp1, hp2⟩ := row_str0 hr1 hi2 (k := .i64)
  rw [← hk] at hp2
  have hov : overF (keysS s N) [] (lastAt K i) = false := by rw [← hK]; simp [overF, hah]
  have hbk : backOk N (lastAt K i) k = false := by simp [backOk, hgt]
  have hn : nextF K [] (lastAt K i) = (some k, [], k) := by simp [nextF, hah]
  simp [lp5_1, hi2, hp1, hp2]
  refine WCl.mono (c32 hv1 few hpN hc1 0 (Nat.zero_le _)) ?_
  rintro _ _ ⟨rfl, Y2, rfl⟩
  have hv2 := hv1.app (X := Y2)
  have hc2 := hc1.app (X := Y2)
  have hr2 := hr1.app (X := Y2)
  simp [hov]
  refine WCl.mono (c30 hc2 k (by simp)) ?_
  rintro _ H3 ⟨rfl, v3, h3, fr3⟩
  have hbf : backF (↑N) [] (lastAt K i) k = [] := by simp [backF, hbk]
  rw [hbf] at h3
  have hv3 : Vlt H3 2 0 1 s v q es ck := hv2.keepC fun b z hb hi => fr3.still hc2 hb hi
  have hr3 := hr2.frV fr3 hc2.box ap1
  have ap3 : ∀ b o n z, kv = .sl b o n z → Off v3 b := fun b o n z e => by
    have hb : b < (H1 ++ Y2).length := by
      rcases hr2 with ⟨_, e2⟩ | ⟨_, c, _, e2, g⟩
      · rw [e2] at e; cases e
      · rw [e2] at e; cases e; exact lt_of g
    exact fr3.offs b hb (ap1 b o n z e)
  simp [hbk]
  refine WCl.mono (c28 hv3 ok few hpN h3) ?_
  rintro r H4 ⟨hr, v4, h4, fr4⟩
  rw [← hK, hn] at hr h4
  obtain ⟨k', q', e, rfl, hrow⟩ := hr.resolve_left (by rintro ⟨e, _⟩; cases e)
  cases e
  have hv4 : Vlt H4 2 0 1 s v q es ck := hv3.keepC fun b z hb hi => fr4.still h3 hb hi
  have hr4 := hr3.frV fr4 h3.box ap3
  have bl3 : ∀ b o n z, kv = .sl b o n z → b < H3.length := fun b o n z e => by
    rcases hr3 with ⟨_, e2⟩ | ⟨_, c, _, e2, g⟩
    · rw [e2] at e; cases e
    · rw [e2] at e; cases e; exact lt_of g
  have ap4 : ∀ b o n z, kv = .sl b o n z → Off v4 b := fun b o n z e => fr4.offs b (bl3 b o n z e) (ap3 b o n z e)
  have o1 := hrow.one
  obtain ⟨B, hB⟩ : ∃ B, B = pairC k (bagOf s k).known q' := ⟨_, rfl⟩
  have Blen : B.length = 10 := by rw [hB]; exact pairC_len
  have hover : ∀ (l : List AV), l.length = 10 → setFrom l 0 B = B := fun l a => setFrom_all _ _ (by rw [a, Blen])
  have Bone := zone B (by rw [hB]; exact pairC_one o1)
  have B0 : B.take 1 = [.str k] := by rw [hB]; rfl
  obtain ⟨H5, hH5⟩ : ∃ H5, H5 = H4 ++ [ABlk.cells false B] := ⟨_, rfl⟩
  have hv5 : Vlt H5 2 0 1 s v q es ck := by rw [hH5]; exact hv4.app
  have hc5 : CurM H5 cb N [] k v4 := by rw [hH5]; exact h4.app
  have hr5 : Row 0 H5 1 strC K kv := by rw [hH5]; exact hr4.app
  have b5 := cells_of (show H5[H4.length]? = some (.cells false B) by rw [hH5]; simp)
  have hw := wrap_succ (i := i) (by omega)
  have bl5 : ∀ b o n z, kv = .sl b o n z → b < H5.length := fun b o n z e => by
    rcases hr5 with ⟨_, e2⟩ | ⟨_, c, _, e2, g⟩
    · rw [e2] at e; cases e
    · rw [e2] at e; cases e; exact lt_of g
  have hlast := lastS i hi2
  rw [← hk] at hlast
  by_cases h0 : i = 0
  · subst h0
    simp [← hB, hover, Blen, Bone, ← hH5, b5, B0, shapeOf, binStr, hw]
    exact nxt hJ2 (m2 - 1) (by omega) ⟨1, v4, by omega, hv5, by rw [hlast]; exact hc5, hr5, ap4, rfl⟩
  have hpos : 0 < i := by omega
  have h0K : 0 < K.length := by omega
  obtain ⟨k0, hk0⟩ : ∃ k0, k0 = K[0] := ⟨_, rfl⟩
  have hk0m : k0 ∈ K := by rw [hk0]; exact List.getElem_mem _
  obtain ⟨p5, hp5, hp6⟩ := row_str0 hr5 h0K (k := .i64)
  rw [← hk0] at hp6
  have hp5' : idxSlAV 1 (.int .i64 0) kv = some p5 := hp5
  simp [← hB, hover, Blen, Bone, ← hH5, b5, B0, shapeOf, binStr, hpos, hp5', hp6]
  refine WCl.mono (c30 hc5 k0 (by simp)) ?_
  rintro _ H6 ⟨rfl, v6, h6, fr6⟩
  have hlt0 : strLess k0 k = true := by
    rw [hk0, hk]
    exact List.pairwise_iff_getElem.1 hKs 0 i h0K hi2 hpos
  have hbk0 : backOk N k k0 = true := by simp [backOk, hKp k0 hk0m, sless_ord.asym _ _ hlt0]
  have hbf0 : backF (↑N) [] k k0 = [k0] := by simp [backF, hbk0, insF]
  rw [hbf0] at h6
  have hv6 : Vlt H6 2 0 1 s v q es ck := hv5.keepC fun b z hb hi => fr6.still hc5 hb hi
  have hr6 := hr5.frV fr6 hc5.box ap4
  have ap6 : ∀ b o n z, kv = .sl b o n z → Off v6 b := fun b o n z e => fr6.offs b (bl5 b o n z e) (ap4 b o n z e)
  simp [hbk0, hpos]
  refine WCl.mono (c28 hv6 ok few hpN h6) ?_
  rintro r H7 ⟨hr, v7, h7, fr7⟩
  have hn0 : nextF K [k0] k = (some k0, [], k) := by simp [nextF, hk0m]
  rw [← hK, hn0] at hr h7
  obtain ⟨k', q2, e, rfl, hrow2⟩ := hr.resolve_left (by rintro ⟨e, _⟩; cases e)
  cases e
  have hv7 : Vlt H7 2 0 1 s v q es ck := hv6.keepC fun b z hb hi => fr7.still h6 hb hi
  have hr7 := hr6.frV fr7 h6.box ap6
  have bl6 : ∀ b o n z, kv = .sl b o n z → b < H6.length := fun b o n z e => by have := bl5 b o n z e; have := fr6.len; omega
  have ap7 : ∀ b o n z, kv = .sl b o n z → Off v7 b := fun b o n z e => fr7.offs b (bl6 b o n z e) (ap6 b o n z e)
  have o2 := hrow2.one
  obtain ⟨C, hC⟩ : ∃ C, C = pairC k0 (bagOf s k0).known q2 := ⟨_, rfl⟩
  have Clen : C.length = 10 := by rw [hC]; exact pairC_len
  have hoverC : ∀ (l : List AV), l.length = 10 → setFrom l 0 C = C := fun l a => setFrom_all _ _ (by rw [a, Clen])
  have Cone := zone C (by rw [hC]; exact pairC_one o2)
  have C0 : C.take 1 = [.str k0] := by rw [hC]; rfl
  obtain ⟨H8, hH8⟩ : ∃ H8, H8 = H7 ++ [ABlk.cells false C] := ⟨_, rfl⟩
  have hv8 : Vlt H8 2 0 1 s v q es ck := by rw [hH8]; exact hv7.app
  have hc8 : CurM H8 cb N [] k v7 := by rw [hH8]; exact h7.app
  have hr8 : Row 0 H8 1 strC K kv := by rw [hH8]; exact hr7.app
  have b8 := cells_of (show H8[H7.length]? = some (.cells false C) by rw [hH8]; simp)
  obtain ⟨p8, hp8, hp9⟩ := row_str0 hr8 h0K (k := .i64)
  rw [← hk0] at hp9
  have hp8' : idxSlAV 1 (.int .i64 0) kv = some p8 := hp8
  simp [← hC, hoverC, Clen, Cone, ← hH8, b8, C0, shapeOf, binStr, hp8', hp9, hw]
  exact nxt hJ2 (m2 - 1) (by omega) ⟨i + 1, v7, by omega, hv8, by rw [hlast]; exact hc8, hr8, ap7, rfl⟩
theorem foldOrder_law (cs : List AV) (h : FitsArgs [(false, .sl 1 8 (.int .i64)), (false, .int .i64)] cs) : ∃ n H', callF envE (exec envE n) 5 cs 0 [] = some (.bool true, H') := by
  obtain ⟨a, rest, rfl, h1, t⟩ := fa_one h
  obtain ⟨c, rest, rfl, h2, t⟩ := fa_one t
  cases fa_nil t
  obtain ⟨l, e1, _, hl⟩ := fits_sl (f := intC) (fun r hr => by obtain ⟨x, e, _⟩ := fits_int hr; exact ⟨x, e⟩) h1
  obtain ⟨y, e2, _⟩ := fits_int h2
  cases e1
  cases e2
  have hrb : reachBytes = 140737488351232 := rfl
  exact law_of (foldOrder_pu l y (by omega)) (by simp)
end Go.Proofs.YtgbnbgkldeifkaaGreatA

namespace Go.Proofs.YtgbnbgkldeifkaaGreat.foldOrder
open Go.ChangeShapes Go.WideShapes Go.ChangeAt Go.RowKit
set_option linter.unusedVariables false
theorem own : ownKnob Tryz.prog.godebug = none := by kernel_rfl
set_option maxRecDepth 1000000 in
theorem lifted (os : Os) (started : os.Started) (H : Type) (enc : TypeId × Value → H) :
    ReturnsInHanded {} Tryz.checked os 5 .any (Rows.foldOrderSpec.pre6 enc Tryz.prog Tryz.f5 Rows.foldOrderRow.domain false) (Rows.foldOrderSpec.post enc Tryz.prog Tryz.f5 false true false false) :=
  YtgbnbgkldeifkaaGreatA.law_lifted (C := Tryz.checked) YtgbnbgkldeifkaaGreatA.env_good (fd := YtgbnbgkldeifkaaGreatA.fd5) (tb := 4) rfl own started (by kernel_rfl) Tryz.func5
    (ChangeSpec.witness6 (enc := enc) (C := Tryz.checked) false ⟨#[], #[((Tryz.prog.info? 32).bind (·.zero)).getD .nilFunc, ((Tryz.prog.info? 3).bind (·.zero)).getD .nilFunc], []⟩ 8 (by kernel_rfl) (by kernel_rfl) (by kernel_rfl) (by kernel_rfl))
    (by kernel_rfl) (by decide +kernel) (by kernel_rfl) rfl (by kernel_rfl) (by kernel_rfl) (fun ds h => by
      match ds, h with
      | [d0, d1], _ => rfl) YtgbnbgkldeifkaaGreatA.foldOrder_law
theorem over : Rows.foldOrderRow.holds Tryz.pinned (OpenSpec.ofChange Rows.foldOrderSpec) :=
  OpenClaim.holds_of_wide 5 Tryz.f5 rfl rfl rfl rfl rfl rfl rfl ⟨rfl, rfl, rfl, rfl, rfl⟩ rfl rfl rfl rfl rfl (by kernel_rfl) Tryz.func5 (by kernel_rfl)
    (of_decide_eq_true (by kernel_rfl)) (by unfold Func.isWrapper; first | (rw [if_pos (by decide +kernel)]; kernel_rfl) | (rw [if_neg (by decide +kernel)]; exact ⟨rfl, rfl⟩))
    (fun os started H enc _ => lifted os started H enc)
end Go.Proofs.YtgbnbgkldeifkaaGreat.foldOrder
namespace Go.Proofs.YtgbnbgkldeifkaaGreat
/-- The row, under a short name, for the claim. -/
theorem foldOrder_holds : Rows.FoldOrderSaid := foldOrder.over
#print axioms foldOrder_holds
end Go.Proofs.YtgbnbgkldeifkaaGreat


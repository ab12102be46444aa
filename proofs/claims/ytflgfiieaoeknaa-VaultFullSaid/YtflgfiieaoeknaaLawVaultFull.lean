/- 'starlinglaw18.VaultFull' returns true for every number and both choices: so many keys, and no more; those that are there are still written to; a Drop makes room. Without further conditions. -/
import Derived.Test.YtflgfiieaoeknaaRows
import Derived.Test.YtflgfiieaoeknaaK4
import Derived.Test.YtflgfiieaoeknaaAW11
import Derived.WalkKit
import Derived.ProofKit
import Derived.ChangeOld
namespace Go.Proofs.YtflgfiieaoeknaaA
open Go Go.RowKit
set_option linter.unusedSimpArgs false
set_option linter.unusedVariables false
set_option maxRecDepth 1000000
attribute [local simp] vec_zero bagV_zero

theorem k11 {H : Heap} {K : AV → Heap → Prop} : wPu envE 11 (some []) H K = K (.bool true) H := run_pu e11 rfl (fun _ => rfl) awake11
theorem mod5 (x : Int) : ∃ N : Nat, N < 5 ∧ IntKind.i64.wrap ((IntKind.u64.wrap x).tmod 5) = (N : Int) := by
  have hx : 0 ≤ IntKind.u64.wrap x := by simp [IntKind.wrap, IntKind.signed, IntKind.bits]; omega
  have h1 := Int.emod_nonneg (IntKind.u64.wrap x) (b := 5) (by omega)
  have h2 := Int.emod_lt_of_pos (IntKind.u64.wrap x) (b := 5) (by omega)
  refine ⟨((IntKind.u64.wrap x) % 5).toNat, by omega, ?_⟩
  rw [Int.tmod_eq_emod_of_nonneg hx, wrap_i64] <;> omega
theorem c42 (i : Nat) (hi : i < 300) : Pu envE 42 [I i] (.str (nmF i)) := by
  have h1 : (i : Int).tmod 26 = ((i % 26 : Nat) : Int) := by rw [Int.tmod_eq_emod_of_nonneg (by omega)]; omega
  have h2 : (i : Int).tdiv 26 = ((i / 26 : Nat) : Int) := by rw [Int.tdiv_eq_ediv_of_nonneg (by omega)]; omega
  have w1 : IntKind.i64.wrap (97 + ((i % 26 : Nat) : Int)) = ((97 + i % 26 : Nat) : Int) := by rw [wrap_i64] <;> omega
  have w2 : IntKind.i64.wrap ((i / 26 : Nat) : Int) = ((i / 26 : Nat) : Int) := by rw [wrap_i64] <;> omega
  have w3 : IntKind.i64.wrap (97 + ((i / 26 : Nat) : Int)) = ((97 + i / 26 : Nat) : Int) := by rw [wrap_i64] <;> omega
  have w4 : IntKind.u8.wrap ((97 + i % 26 : Nat) : Int) = ((97 + i % 26 : Nat) : Int) := by simp [IntKind.wrap, IntKind.signed, IntKind.bits]; omega
  have w5 : IntKind.u8.wrap ((97 + i / 26 : Nat) : Int) = ((97 + i / 26 : Nat) : Int) := by simp [IntKind.wrap, IntKind.signed, IntKind.bits]; omega
  obtain ⟨a, ha⟩ : ∃ a, a = 97 + i % 26 := ⟨_, rfl⟩
  obtain ⟨b, hb⟩ : ∃ b, b = 97 + i / 26 := ⟨_, rfl⟩
  obtain ⟨c, hc⟩ : ∃ c, c = i % 26 := ⟨_, rfl⟩
  obtain ⟨d, hd⟩ : ∃ d, d = i / 26 := ⟨_, rfl⟩
  rw [← ha] at w1 w4
  rw [← hb] at w3 w5
  rw [← hc] at h1 w1
  rw [← hd] at h2 w2 w3
  have hn : nmF i = [UInt8.ofNat a, UInt8.ofNat b] := by rw [nmF, ← ha, ← hb]
  rw [hn]
  refine pu_is e42 rfl ?_
  rw [fr_init (by simp [fd42])]
  have h3 : (i : Int) / 26 = (d : Int) := by rw [hd]; omega
  simp [fd42, b42, h1, h3, w1, w2, w3, w4, w5, elems, Heap.cells?, cut, bytesOf]
theorem k42 {i : Nat} (hi : i < 300) {H : Heap} {K : AV → Heap → Prop} : wPu envE 42 (some [I i]) H K = K (.str (nmF i)) H := (wPu_eq (c42 i hi)).trans (by simp)
def VAt (H : Heap) (s : VSt) : Prop := ∃ v q es ck, Vlt H 2 0 1 s v q es ck
theorem VAt.app {H X : Heap} {s : VSt} (h : VAt H s) : VAt (H ++ X) s := by
  obtain ⟨v, q, es, ck, h⟩ := h
  exact ⟨v, q, es, ck, h.app⟩
set_option maxHeartbeats 4000000 in
theorem vaultFull_pu (more : Int) (mg : Bool) : Pu envE 10 [I more, .bool mg] (.bool true) := by
  refine pu_is e10 rfl ?_
  obtain ⟨N, hN, hNe⟩ := mod5 more
  have nr := fun K => new_room (room := 3000) (H := []) (lim := 0) (K := K) (by omega) (by omega)
  rw [fr_init (by simp [fd10])]
  simp [fd10, b10, hNe, nr]
  refine open_new 3000 [] (by omega) (by omega) ?_
  intro X hv
  simp only [List.nil_append, List.length_nil, Nat.zero_add] at hv ⊢
  simp
  refine loop_go [0, 1, 5, 29] rfl (fun m vs H => ∃ i s, m + i = 200 ∧ i ≤ 200 ∧ VAt H s ∧ Fu s i ∧ vs = [I N, .bool mg, .ptr (some (2, 0)), I i]) ?_ 200 ⟨0, emptyS 3000, rfl, by omega, ⟨_, _, _, _, hv⟩, fu_zero, rfl⟩
  rintro J hJ m vs H f ⟨i, s, hm, hi200, ⟨v, q, es, ck, hv2⟩, fu, rfl⟩
  by_cases hi : i < 200
  · have hiI : (i : Int) < 200 := by omega
    have hw := wrap_succ (i := i) (by omega)
    have kn := fun H K => k42 (i := i) (by omega) (H := H) (K := K)
    simp [lp10_0, hi, hiI, kn]
    refine WCl.mono (c39 hv2 fu.ok 0 (nmF i) zeroV [120]) ?_
    obtain ⟨s', h1, fu'⟩ := fu.put hi
    rw [h1]
    rintro _ H2 ⟨rfl, k2, hs2⟩
    simp [hw]
    exact nxt hJ (m - 1) (by omega) ⟨i + 1, s', by omega, by omega, VAt.app hs2, fu', rfl⟩
  have hi0 : i = 200 := by omega
  subst hi0
  simp [lp10_0]
  refine loop_go [1, 5, 43, 44] rfl (fun m vs H => ∃ j, m + j = N ∧ j ≤ N ∧ VAt H s ∧ vs = [.bool mg, .ptr (some (2, 0)), I N, I j]) ?_ N ⟨0, rfl, by omega, ⟨_, _, _, _, hv2⟩, rfl⟩
  have hbl : s.bags.length = 200 := by have := congrArg List.length fu.keys; rw [List.length_map, names_len] at this; exact this
  have hone : bagMay (upd zeroV 0 1) [] = true := by decide
  rintro J2 hJ2 m2 vs2 H2 f2 ⟨j, hm2, hjN, ⟨v2, q2, es2, ck2, hv3⟩, rfl⟩
  by_cases hj : j < N
  · have hjI : (j : Int) < N := by omega
    have hw := wrap_succ (i := j) (by omega)
    have hwa : IntKind.i64.wrap (200 + (j : Int)) = 200 + (j : Int) := by rw [wrap_i64] <;> omega
    have kn : ∀ H K, wPu envE 42 (some [.int .i64 (200 + (j : Int))]) H K = K (.str (nmF (200 + j))) H := fun H K => k42 (i := 200 + j) (by omega) (H := H) (K := K)
    have hno : nmF (200 + j) ∉ s.bags.map Prod.fst := by rw [fu.keys, names_mem (by omega) (by omega)]; omega
    have hfull := full_yes hno (by omega)
    have hput := put_full (s := s) (data := [120]) (nm_ok (200 + j)) (by rw [fu.dots]; omega) hfull
    have hmer := merge_full (s := s) (b := ⟨upd zeroV 0 1, []⟩) (nm_ok (200 + j)) hone hfull
    obtain ⟨key, hkey⟩ : ∃ key, key = nmF (200 + j) := ⟨_, rfl⟩
    rw [← hkey] at kn hput hmer hno
    simp [lp10_1, hj, hjI, hwa, kn]
    refine WCl.mono (c39 hv3 fu.ok 0 key zeroV [120]) ?_
    rw [hput]
    rintro _ H3 ⟨rfl, k3, v3, q3, es3, ck3, hv4⟩
    have hv5 := hv4.app (X := [ABlk.cells false [I 0, I 0]])
    simp
    refine WCl.mono (c15 hv5 fu.ok key ⟨upd zeroV 0 1, []⟩ .nilsl (.inl .nil) (Nat.zero_le _)) ?_
    rw [hmer]
    rintro _ H4 ⟨rfl, k4, v4, q4, es4, ck4, hv6⟩
    simp
    refine WCl.mono (c18 hv6 fu.ok key 0 (Nat.zero_le _)) ?_
    rintro _ _ ⟨X5, q5, rfl, rfl, hr5⟩
    have hb0 : (bagOf s key).vals = [] := by rw [look_none hno]; rfl
    rw [hb0] at hr5
    have hl5 := hr5.len
    simp [hl5, hw]
    exact nxt hJ2 (m2 - 1) (by omega) ⟨j + 1, by omega, by omega, ⟨_, _, _, _, hv6.app⟩, rfl⟩
  have hjI : ¬ (j : Int) < N := by omega
  have kn0 := fun H K => k42 (i := 0) (by omega) (H := H) (K := K)
  have kn1 := fun H K => k42 (i := 1) (by omega) (H := H) (K := K)
  simp only [Int.natCast_zero, Int.natCast_one, Int.cast_ofNat_Int] at kn0 kn1
  obtain ⟨s1, h1, fv1, hl1, hb1⟩ := fu.again
  simp [lp10_1, hj, hjI, kn0]
  refine WCl.mono (c39 hv3 fu.ok 0 (nmF 0) zeroV [121]) ?_
  rw [h1]
  rintro _ H3 ⟨rfl, k3, v3, q3, es3, ck3, hv4⟩
  obtain ⟨H4, hH4⟩ : ∃ H4, H4 = H3 ++ [ABlk.cells false [I 0, I 201]] := ⟨_, rfl⟩
  have hv5 : Vlt H4 2 0 1 s1 v3 q3 es3 ck3 := by rw [hH4]; exact hv4.app
  have c4 : H4[H3.length]? = some (.cells false [I 0, I 201]) := by rw [hH4]; exact get_new
  have hfive : vecC (upd (upd zeroV 0 0) 1 5) = vecC five1 := by simp [five1, vecC, upd, zeroV]
  simp [← hH4, cells_of c4]
  cases mg
  · simp
    refine loop_go [5, 16] rfl (fun m vs H => ∃ p, m + p = 15 ∧ p ≤ 15 ∧ (∀ j : Nat, j < p → keysS s1 j = []) ∧ VAt H s1 ∧ vs = [.ptr (some (2, 0)), I p]) ?_ 15 ⟨0, rfl, by omega, fun j hj => by omega, ⟨_, _, _, _, hv5⟩, rfl⟩
    rintro J3 hJ3 m3 vs3 H5 f3 ⟨p, hm3, hp15, hemp, ⟨v5, q5, es5, ck5, hv6⟩, rfl⟩
    have hbc : s1.bags.length = 200 := by have := congrArg List.length fv1.keys; rw [List.length_map, names_len] at this; exact this
    have few : s1.bags.length < 1000000000000 := by omega
    have hw := wrap_succ (i := p) (by omega)
    simp [lp10_2]
    refine WCl.mono (c40k hv6 few (p : Int) (by omega) 0) ?_
    rintro r _ ⟨X6, rfl, hr⟩
    have hlen := hr.len
    have hv7 := hv6.app (X := X6)
    by_cases hcont : keysS s1 p = [] ∧ p < 15
    · obtain ⟨he, hp⟩ := hcont
      have hpI : (p : Int) < 15 := by omega
      rw [he] at hlen
      simp [hlen, hpI, hp, hw]
      exact nxt hJ3 (m3 - 1) (by omega) ⟨p + 1, by omega, by omega, fun j hj => by
        by_cases e : j = p
        · rw [e]; exact he
        · exact hemp j (by omega), ⟨_, _, _, _, hv7⟩, rfl⟩
    · have hne : keysS s1 p ≠ [] := fun e => by
        by_cases q : p < 15
        · exact hcont ⟨e, q⟩
        · exact fv1.part hemp (by omega) e
      have hpos : (0 : Int) < ((keysS s1 p).length : Int) := by
        have : (keysS s1 p).length ≠ 0 := fun e => hne (List.length_eq_zero_iff.1 e)
        omega
      have hpos2 : 0 < (keysS s1 p).length := by omega
      have hl0 : ¬ (keysS s1 p).length = 0 := by omega
      obtain ⟨hw0, okD, a, c, s', hput⟩ := fv1.drop (p := p) (by omega) hne
      have hfullF : fullS s1 fresh5 = true := full_yes (by rw [fv1.keys]; exact fresh_no) (by omega)
      have hputF := put_full (s := s1) (key := fresh5) (data := [120]) rfl (by rw [fv1.dots]; omega) hfullF
      simp [hlen, hne, hl0]
      refine WCl.mono (c40k hv7 few (p : Int) (by omega) 0) ?_
      rintro r7 _ ⟨X7, rfl, hr7⟩
      have hlen7 := hr7.len
      have hv8 := hv7.app (X := X7)
      simp [hlen7]
      have h39 := c39 hv8 fv1.ok 0 fresh5 zeroV [120]
      rw [hputF] at h39
      simp only [List.append_assoc, fresh5] at h39
      refine WCl.mono h39 ?_
      rintro _ H8 ⟨rfl, k8, v8, q8, es8, ck8, hv9⟩
      have hv10 := hv9.app (X := [ABlk.cells false [I 0, I 0]])
      simp
      refine WCl.mono (c41g hv10 fv1.ok few (p : Int) (by omega)) ?_
      rintro _ H9 (⟨q, _⟩ | ⟨_, rfl, k9, v9, q9, es9, ck9, hv11⟩)
      · exact absurd q hne
      have h39b := c39 hv11 okD 0 fresh5 zeroV [120]
      rw [hput] at h39b
      simp only [fresh5] at h39b
      simp [hw0]
      refine WCl.mono h39b ?_
      rintro _ H10 ⟨rfl, k10, v10, q10, es10, ck10, hv12⟩
      simp [hpos, hpos2, k11]
  · obtain ⟨s2, hmg, fv2⟩ := fv1.merge hl1 hb1
    simp [kn1, hfive]
    have h15 := c15 hv5 fv1.ok (nmF 1) ⟨five1, []⟩ .nilsl (.inl .nil) (Nat.zero_le _)
    rw [hmg] at h15
    refine WCl.mono h15 ?_
    rintro _ H11 ⟨rfl, k11', v11, q11, es11, ck11, hv13⟩
    simp
    refine loop_go [5, 16] rfl (fun m vs H => ∃ p, m + p = 15 ∧ p ≤ 15 ∧ (∀ j : Nat, j < p → keysS s2 j = []) ∧ VAt H s2 ∧ vs = [.ptr (some (2, 0)), I p]) ?_ 15 ⟨0, rfl, by omega, fun j hj => by omega, ⟨_, _, _, _, hv13⟩, rfl⟩
    rintro J3 hJ3 m3 vs3 H5 f3 ⟨p, hm3, hp15, hemp, ⟨v5, q5, es5, ck5, hv6⟩, rfl⟩
    have hbc : s2.bags.length = 200 := by have := congrArg List.length fv2.keys; rw [List.length_map, names_len] at this; exact this
    have few : s2.bags.length < 1000000000000 := by omega
    have hw := wrap_succ (i := p) (by omega)
    simp [lp10_2]
    refine WCl.mono (c40k hv6 few (p : Int) (by omega) 0) ?_
    rintro r _ ⟨X6, rfl, hr⟩
    have hlen := hr.len
    have hv7 := hv6.app (X := X6)
    by_cases hcont : keysS s2 p = [] ∧ p < 15
    · obtain ⟨he, hp⟩ := hcont
      have hpI : (p : Int) < 15 := by omega
      rw [he] at hlen
      simp [hlen, hpI, hp, hw]
      exact nxt hJ3 (m3 - 1) (by omega) ⟨p + 1, by omega, by omega, fun j hj => by
        by_cases e : j = p
        · rw [e]; exact he
        · exact hemp j (by omega), ⟨_, _, _, _, hv7⟩, rfl⟩
    · have hne : keysS s2 p ≠ [] := fun e => by
        by_cases q : p < 15
        · exact hcont ⟨e, q⟩
        · exact fv2.part hemp (by omega) e
      have hpos : (0 : Int) < ((keysS s2 p).length : Int) := by
        have : (keysS s2 p).length ≠ 0 := fun e => hne (List.length_eq_zero_iff.1 e)
        omega
      have hpos2 : 0 < (keysS s2 p).length := by omega
      have hl0 : ¬ (keysS s2 p).length = 0 := by omega
      obtain ⟨hw0, okD, a, c, s', hput⟩ := fv2.drop (p := p) (by omega) hne
      have hfullF : fullS s2 fresh5 = true := full_yes (by rw [fv2.keys]; exact fresh_no) (by omega)
      have hputF := put_full (s := s2) (key := fresh5) (data := [120]) rfl (by rw [fv2.dots]; omega) hfullF
      simp [hlen, hne, hl0]
      refine WCl.mono (c40k hv7 few (p : Int) (by omega) 0) ?_
      rintro r7 _ ⟨X7, rfl, hr7⟩
      have hlen7 := hr7.len
      have hv8 := hv7.app (X := X7)
      simp [hlen7]
      have h39 := c39 hv8 fv2.ok 0 fresh5 zeroV [120]
      rw [hputF] at h39
      simp only [List.append_assoc, fresh5] at h39
      refine WCl.mono h39 ?_
      rintro _ H8 ⟨rfl, k8, v8, q8, es8, ck8, hv9⟩
      have hv10 := hv9.app (X := [ABlk.cells false [I 0, I 0]])
      simp
      refine WCl.mono (c41g hv10 fv2.ok few (p : Int) (by omega)) ?_
      rintro _ H9 (⟨q, _⟩ | ⟨_, rfl, k9, v9, q9, es9, ck9, hv11⟩)
      · exact absurd q hne
      have h39b := c39 hv11 okD 0 fresh5 zeroV [120]
      rw [hput] at h39b
      simp only [fresh5] at h39b
      simp [hw0]
      refine WCl.mono h39b ?_
      rintro _ H10 ⟨rfl, k10, v10, q10, es10, ck10, hv12⟩
      simp [hpos, hpos2, k11]
theorem vaultFull_law (cs : List AV) (h : FitsArgs [(false, .int .i64), (false, .bool)] cs) : ∃ n H', callF envE (exec envE n) 10 cs 0 [] = some (.bool true, H') := by
  obtain ⟨a, rest, rfl, h1, t⟩ := fa_one h
  obtain ⟨c, rest, rfl, h2, t⟩ := fa_one t
  cases fa_nil t
  obtain ⟨x, e1, _⟩ := fits_int h1
  obtain ⟨b, e2⟩ := fits_bool h2
  cases e1
  cases e2
  exact law_of (vaultFull_pu x b) (by simp)
end Go.Proofs.YtflgfiieaoeknaaA

namespace Go.Proofs.Ytflgfiieaoeknaa.vaultFull
open Go.ChangeShapes Go.WideShapes Go.ChangeAt Go.RowKit
set_option linter.unusedVariables false
theorem own : ownKnob Try.prog.godebug = none := by kernel_rfl
set_option maxRecDepth 1000000 in
theorem lifted (os : Os) (started : os.Started) (H : Type) (enc : TypeId × Value → H) :
    ReturnsInHanded {} Try.checked os 10 .any (Rows.vaultFullSpec.pre6 enc Try.prog Try.f10 Rows.vaultFullRow.domain false) (Rows.vaultFullSpec.post enc Try.prog Try.f10 false true false false) :=
  YtflgfiieaoeknaaA.law_lifted (C := Try.checked) YtflgfiieaoeknaaA.env_good (fd := YtflgfiieaoeknaaA.fd10) (tb := 4) rfl own started (by kernel_rfl) Try.func10
    (ChangeSpec.witness6 (enc := enc) (C := Try.checked) false ⟨#[], #[((Try.prog.info? 3).bind (·.zero)).getD .nilFunc, ((Try.prog.info? 4).bind (·.zero)).getD .nilFunc], []⟩ 8 (by kernel_rfl) (by kernel_rfl) (by kernel_rfl) (by kernel_rfl))
    (by kernel_rfl) (by decide +kernel) (by kernel_rfl) rfl (by kernel_rfl) (by kernel_rfl) (fun ds h => by
      match ds, h with
      | [d0, d1], _ => rfl) YtflgfiieaoeknaaA.vaultFull_law
theorem over : Rows.vaultFullRow.holds Try.pinned (OpenSpec.ofChange Rows.vaultFullSpec) :=
  OpenClaim.holds_of_wide 10 Try.f10 rfl rfl rfl rfl rfl rfl rfl ⟨rfl, rfl, rfl, rfl, rfl⟩ rfl rfl rfl rfl rfl (by kernel_rfl) Try.func10 (by kernel_rfl)
    (of_decide_eq_true (by kernel_rfl)) (by unfold Func.isWrapper; first | (rw [if_pos (by decide +kernel)]; kernel_rfl) | (rw [if_neg (by decide +kernel)]; exact ⟨rfl, rfl⟩))
    (fun os started H enc _ => lifted os started H enc)
end Go.Proofs.Ytflgfiieaoeknaa.vaultFull
namespace Go.Proofs.Ytflgfiieaoeknaa
/-- The row, under a short name, for the claim. -/
theorem vaultFull_holds : Rows.VaultFullSaid := vaultFull.over
#print axioms vaultFull_holds
end Go.Proofs.Ytflgfiieaoeknaa


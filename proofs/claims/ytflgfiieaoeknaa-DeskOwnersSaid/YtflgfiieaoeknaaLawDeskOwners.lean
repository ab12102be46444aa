/- 'starlinglaw22.DeskOwners' returns true for every key, owner and choice: of all nodes just the owner puts and gets; the others are told whose it is; of a part that is nobody's, that it is nobody's. Without further conditions. -/
import Derived.Test.YtflgfiieaoeknaaRows
import Derived.Test.YtflgfiieaoeknaaV6
import Derived.Test.YtflgfiieaoeknaaAW21
import Derived.WalkKit
import Derived.ProofKit
import Derived.ChangeOld
namespace Go.Proofs.YtflgfiieaoeknaaA
open Go
set_option linter.unusedSimpArgs false
set_option linter.unusedVariables false
set_option maxRecDepth 1000000
attribute [local simp] vec_zero

@[simp] theorem k21 {H : Heap} {K : AV → Heap → Prop} : wPu envE 21 (some []) H K = K (.bool true) H := run_pu e21 rfl (fun _ => rfl) awake21
theorem put_x : ∀ n : Nat, n < 8 → putE zeroV [] zeroV n 1 [120] = 0 ∧ (putR zeroV [] zeroV n 1 [120]).length = 1 ∧ bagMay (putK zeroV [] zeroV n 1 [120]) (putR zeroV [] zeroV n 1 [120]) = true := by decide +kernel
def withRing (R : Ring) : VSt := { emptyS 9 with ds := [ringD R], ring := R, rings := 1 }
theorem wrote_ring {R : Ring} (h : ringMay R = true) : writeE (ringD R) (emptyS 9).ds (emptyS 9).room = 0 ∧ wroteS (emptyS 9) (ringD R) = withRing R := by
  have hz : writeE (ringD R) (emptyS 9).ds (emptyS 9).room = 0 := write_ok (ringD_may h) (by simp [emptyS])
  refine ⟨hz, ?_⟩
  rw [wroteS, if_pos hz]
  simp [countS, ringD, withRing, emptyS]
theorem bagOf_empty {R : Ring} {key : List UInt8} : bagOf (withRing R) key = zBagS := by simp [bagOf, withRing, emptyS, lookB]
theorem desk_else {R : Ring} {n : Nat} {key : List UInt8} (hn : n < 8) (hk : keyOk key = true) (ho : ownerF R (spotF key) ≠ n) : ownsO (withRing R) n key = ⟨ownerF R (spotF key), 10⟩ := by
  have h1 : ¬ ((n : Int) < 0 ∨ 8 ≤ (n : Int) ∨ keyOk key = false) := by simp [hk]; omega
  unfold ownsO
  rw [if_neg h1, if_neg (by simp [withRing]), if_neg (by simpa [withRing] using ho)]
  rfl
theorem desk_self {R : Ring} {n : Nat} {key : List UInt8} (hn : n < 8) (hk : keyOk key = true) (ho : ownerF R (spotF key) = n) : ownsO (withRing R) n key = ⟨n, 0⟩ := by
  have h1 : ¬ ((n : Int) < 0 ∨ 8 ≤ (n : Int) ∨ keyOk key = false) := by simp [hk]; omega
  unfold ownsO
  rw [if_neg h1, if_neg (by simp [withRing]), if_pos (by simpa [withRing] using ho)]
theorem put_self {R : Ring} {n : Nat} {key : List UInt8} (hn : n < 8) (hk : keyOk key = true) : ∃ s', putO (withRing R) n key zeroV [120] = ⟨n, 1, 0, s'⟩ ∧ (bagOf s' key).vals.length = 1 ∧ s'.rings = 1 ∧ s'.ring = R := by
  obtain ⟨e1, e2, e3⟩ := put_x n hn
  have h1 : ¬ ((n : Int) < 0 ∨ 8 ≤ (n : Int) ∨ keyOk key = false) := by simp [hk]; omega
  have hb : bagOf (withRing R) key = zBagS := bagOf_empty
  have hd : (withRing R).dots + 1 = 1 := rfl
  have e1' : putE zBagS.known zBagS.vals zeroV n 1 [120] = 0 := e1
  have hw : writeE (bagD 1 key ⟨putK zBagS.known zBagS.vals zeroV n 1 [120], putR zBagS.known zBagS.vals zeroV n 1 [120]⟩) (withRing R).ds (withRing R).room = 0 := write_ok (bagD_may hk e3 (by omega) (by omega)) (by simp [withRing, emptyS])
  refine ⟨wroteS (withRing R) (bagD 1 key ⟨putK zBagS.known zBagS.vals zeroV n 1 [120], putR zBagS.known zBagS.vals zeroV n 1 [120]⟩), ?_, ?_, ?_, ?_⟩
  · unfold putO
    rw [if_neg h1, if_neg (by simp [withRing, emptyS]), if_neg (by simp [fullS, withRing, emptyS]), hb, hd, if_pos e1', if_pos hw]
  · rw [wroteS, if_pos hw]
    have : (putR zBagS.known zBagS.vals zeroV n 1 [120]).length = 1 := e2
    simp [countS, bagD, bagOf, lookB_set, this]
  · rw [wroteS, if_pos hw]
    simp [countS, bagD, withRing]
  · rw [wroteS, if_pos hw]
    simp [countS, bagD, withRing]
set_option maxHeartbeats 4000000 in
theorem deskOwners_pu (key : List UInt8) (ow : Int) (none' : Bool) : Pu envE 4 [.str key, I ow, .bool none'] (.bool true) := by
  refine pu_is e4 rfl ?_
  cases hk : keyOk key
  · rw [fr_init (by simp [fd4])]
    simp [fd4, b4, hk]
  obtain ⟨N, hN, hN2⟩ : ∃ N : Nat, N < 8 ∧ IntKind.i64.wrap ((IntKind.u64.wrap ow).tmod 8) = (N : Int) := by
    have h0 : 0 ≤ IntKind.u64.wrap ow := by simp [IntKind.wrap, IntKind.signed, IntKind.bits]; omega
    refine ⟨((IntKind.u64.wrap ow) % 8).toNat, by omega, ?_⟩
    rw [Int.tmod_eq_emod_of_nonneg h0, wrap_i64] <;> omega
  obtain ⟨hs0, hs1⟩ := spot_ok hk
  obtain ⟨P, hP⟩ : ∃ P : Nat, spotF key = P := ⟨(spotF key).toNat, by omega⟩
  have hP16 : P < 16 := by omega
  have hP1 : ¬ (P : Int) < 0 := by omega
  have hP2 : ¬ (16 : Int) ≤ P := by omega
  have hover : ∀ {st ep ow : Nat → Int} {ver by' : Int} {q : AV} (l : List AV), l.length = 43 → setFrom l 0 (ringV st ver by' q ep ow) = ringV st ver by' q ep ow := fun l hl => setFrom_all _ _ (by rw [hl, ringV_len])
  have hk22 := fun H K => k22 hN (H := H) (K := K)
  have hsp := fun {st ep ow : Nat → Int} {ver by' x y : Int} {q : AV} => ringV_setP (st := st) (ver := ver) (by' := by') (r := q) (ep := ep) (ow := ow) (x := x) (y := y) hP16
  have hle : 11 + (P * 2 + 2) ≤ 43 := by omega
  have hle2 : 11 + P * 2 + 2 ≤ 43 := by omega
  rw [fr_init (by simp [fd4])]
  cases none'
  · simp [fd4, b4, hk, hN2, hk22, hover, hP, hP1, hP2]
    have hmay := first_may N hN
    have hown := first_owner N hN P hP16
    refine loop_go [0, 7, 10, 46] rfl (fun m vs H => ∃ i, m + i = 8 ∧ H[0]? = some (.cells false (ringV (firstR N).status 0 0 .nilsl (firstR N).epoch (firstR N).owner)) ∧ vs = [.str key, .ptr (some (0, 0)), I (N : Int), I i]) ?_ 8 ⟨0, rfl, rfl, rfl⟩
    rintro J hJ m vs H f ⟨i, hm, hb, rfl⟩
    by_cases hi : i < 8
    case neg =>
      have hi' : ¬ (i : Int) < 8 := by omega
      simp [lp4_0, hi']
    have hi' : (i : Int) < 8 := by omega
    have hw := wrap_succ (i := i) (by omega)
    have nr := fun K => new_room (room := 9) (H := H) (lim := 0) (K := K) (by omega) (by omega)
    have hlen := lt_of hb
    simp [lp4_0, hi', nr]
    refine open_new 9 H (by omega) (by omega) ?_
    intro X hv
    have b1 := get_app (X := X) hb
    have hone : AV.one .nilsl = true := rfl
    simp [cells_of b1]
    have ok0 := empty_ok (room := 9) (by omega) (by omega)
    have hfitR : deedFits (ringD (firstR N)) := ⟨Nat.zero_le _, Nat.zero_le _⟩
    obtain ⟨w1, w2⟩ := wrote_ring (R := (firstR N)) hmay
    have ok1 : VOk (withRing (firstR N)) := by rw [← w2]; exact ok0.wrote hfitR
    refine WCl.mono (c24 hv ok0 (firstR N) .nilsl (.inl .nil) (Nat.zero_le _)) ?_
    rintro _ H2 ⟨rfl, hs2⟩
    rw [w2] at hs2
    obtain ⟨k2, v2, q2, es2, ck2, hv2⟩ := hs2
    have b2 := k2.2 0 _ b1 (by omega) (by omega) (by omega) (by intro y e; cases e)
    simp
    refine WCl.mono (c25 hv2 ok1 i key zeroV [120]) ?_
    rintro _ H3 ⟨rfl, hs3⟩
    obtain ⟨k3, v3, q3, es3, ck3, hv3⟩ := hs3
    have b3 := k3.2 0 _ b2 (by omega) (by omega) (by omega) (by intro y e; cases e)
    have hsub : ownerF (firstR N) (spotF key) = (N : Int) := by rw [hP]; exact hown
    by_cases hin : i = N
    · have hin2 : (i : Int) = N := by rw [hin]
      obtain ⟨s', p1, p2, p3, p4⟩ := put_self (R := (firstR N)) hi hk
      have o1 := desk_self (R := (firstR N)) (n := i) hi hk (by rw [hsub, hin2])
      have hD : deskO (withRing (firstR N)) i key zeroV [120] = ⟨i, 1, i, 0, { s' with sure := s'.ds.length }⟩ := by simp [deskO, o1, p1]
      have ok2 : VOk { s' with sure := s'.ds.length } := by
        have := (ok1.put (node := i) (key := key) (known := zeroV) (data := [120])).sync
        rw [p1] at this
        exact this
      rw [hD] at hv3 ⊢
      have o2 : ownsO { s' with sure := s'.ds.length } i key = ⟨i, 0⟩ := by
        have h1 : ¬ ((i : Int) < 0 ∨ 8 ≤ (i : Int) ∨ keyOk key = false) := by simp [hk]; omega
        unfold ownsO
        rw [if_neg h1, if_neg (by simp [p3]), if_pos (by simp only [p4]; rw [hsub, hin2])]
      have hv4 := hv3.app (X := [.cells false [I i, I 1]])
      simp
      refine WCl.mono (c26 hv4 ok2 i key 0 (Nat.zero_le _)) ?_
      rintro _ _ ⟨Y, q', rfl, rfl, hq⟩
      rw [o2] at hq ⊢
      have hb' : (bagOf { s' with sure := s'.ds.length } key).vals.length = 1 := p2
      have hql := hq.len
      simp only [if_true, hb'] at hql
      have hqo := hq.one
      have b5 : ∀ Z, Heap.cells? (H3 ++ .cells false [I i, I 1] :: Z) H3.length = some [I i, I 1] := fun Z => by simp [Heap.cells?]
      have hd3 : ((i : Int) == (N : Int)) = true := by rw [hin2]; simp
      simp [hqo, hql, hd3, b5, eq_row2, hw]
      refine nxt hJ (m - 1) (by omega) ⟨i + 1, by omega, get_app b3, rfl⟩
    · have hni : ¬ (N : Int) = i := by omega
      have hni2 : ¬ (i : Int) = N := by omega
      have o1 := desk_else (R := (firstR N)) (n := i) hi hk (by rw [hsub]; exact hni)
      rw [hsub] at o1
      have hD : deskO (withRing (firstR N)) i key zeroV [120] = ⟨0, 0, (N : Int), 10, withRing (firstR N)⟩ := by simp [deskO, o1]
      rw [hD] at hv3 ⊢
      have hv4 := hv3.app (X := [.cells false [I 0, I 0]])
      simp
      refine WCl.mono (c26 hv4 ok1 i key 0 (Nat.zero_le _)) ?_
      rintro _ _ ⟨Y, q', rfl, rfl, hq⟩
      rw [o1] at hq ⊢
      have hql := hq.len
      have hqo := hq.one
      simp [zBagS] at hql
      simp [hqo, hql, hni, hni2, hin, hw, zBagS]
      refine nxt hJ (m - 1) (by omega) ⟨i + 1, by omega, get_app b3, rfl⟩
  · simp [fd4, b4, hk, hN2, hk22, hover, hP, hP1, hP2, hP16, hsp, hle, hle2]
    have hmay := first_may0 N hN P hP16
    have hown := first_owner0 N hN P hP16
    refine loop_go [0, 7, 10, 46] rfl (fun m vs H => ∃ i, m + i = 8 ∧ H[0]? = some (.cells false (ringV (setP (firstR N) P 0 0).status 0 0 .nilsl (setP (firstR N) P 0 0).epoch (setP (firstR N) P 0 0).owner)) ∧ vs = [.str key, .ptr (some (0, 0)), I (-1), I i]) ?_ 8 ⟨0, rfl, rfl, rfl⟩
    rintro J hJ m vs H f ⟨i, hm, hb, rfl⟩
    by_cases hi : i < 8
    case neg =>
      have hi' : ¬ (i : Int) < 8 := by omega
      simp [lp4_0, hi']
    have hi' : (i : Int) < 8 := by omega
    have hw := wrap_succ (i := i) (by omega)
    have nr := fun K => new_room (room := 9) (H := H) (lim := 0) (K := K) (by omega) (by omega)
    have hlen := lt_of hb
    simp [lp4_0, hi', nr]
    refine open_new 9 H (by omega) (by omega) ?_
    intro X hv
    have b1 := get_app (X := X) hb
    have hone : AV.one .nilsl = true := rfl
    simp [cells_of b1]
    have ok0 := empty_ok (room := 9) (by omega) (by omega)
    have hfitR : deedFits (ringD (setP (firstR N) P 0 0)) := ⟨Nat.zero_le _, Nat.zero_le _⟩
    obtain ⟨w1, w2⟩ := wrote_ring (R := (setP (firstR N) P 0 0)) hmay
    have ok1 : VOk (withRing (setP (firstR N) P 0 0)) := by rw [← w2]; exact ok0.wrote hfitR
    refine WCl.mono (c24 hv ok0 (setP (firstR N) P 0 0) .nilsl (.inl .nil) (Nat.zero_le _)) ?_
    rintro _ H2 ⟨rfl, hs2⟩
    rw [w2] at hs2
    obtain ⟨k2, v2, q2, es2, ck2, hv2⟩ := hs2
    have b2 := k2.2 0 _ b1 (by omega) (by omega) (by omega) (by intro y e; cases e)
    simp
    refine WCl.mono (c25 hv2 ok1 i key zeroV [120]) ?_
    rintro _ H3 ⟨rfl, hs3⟩
    obtain ⟨k3, v3, q3, es3, ck3, hv3⟩ := hs3
    have b3 := k3.2 0 _ b2 (by omega) (by omega) (by omega) (by intro y e; cases e)
    have hsub : ownerF (setP (firstR N) P 0 0) (spotF key) = (-1) := by rw [hP]; exact hown
    have hni : ¬ (-1 : Int) = i := by omega
    have hni2 : ¬ (i : Int) = -1 := by omega
    have o1 := desk_else (R := (setP (firstR N) P 0 0)) (n := i) hi hk (by rw [hsub]; exact hni)
    rw [hsub] at o1
    have hD : deskO (withRing (setP (firstR N) P 0 0)) i key zeroV [120] = ⟨0, 0, (-1), 10, withRing (setP (firstR N) P 0 0)⟩ := by simp [deskO, o1]
    rw [hD] at hv3 ⊢
    have hv4 := hv3.app (X := [.cells false [I 0, I 0]])
    simp
    refine WCl.mono (c26 hv4 ok1 i key 0 (Nat.zero_le _)) ?_
    rintro _ _ ⟨Y, q', rfl, rfl, hq⟩
    rw [o1] at hq ⊢
    have hql := hq.len
    have hqo := hq.one
    simp [zBagS] at hql
    simp [hqo, hql, hni, hni2, hw, zBagS]
    refine nxt hJ (m - 1) (by omega) ⟨i + 1, by omega, get_app b3, rfl⟩
theorem deskOwners_law (cs : List AV) (h : FitsArgs [(false, .str), (false, .int .i64), (false, .bool)] cs) : ∃ n H', callF envE (exec envE n) 4 cs 0 [] = some (.bool true, H') := by
  obtain ⟨a, rest, rfl, h1, t⟩ := fa_one h
  obtain ⟨c, rest, rfl, h2, t⟩ := fa_one t
  obtain ⟨d, rest, rfl, h3, t⟩ := fa_one t
  cases fa_nil t
  obtain ⟨x, e, _⟩ := fits_str h1
  obtain ⟨y, e2, _⟩ := fits_int h2
  obtain ⟨z, e3⟩ := fits_bool h3
  cases e
  cases e2
  cases e3
  exact law_of (deskOwners_pu x y z) (by simp)
end Go.Proofs.YtflgfiieaoeknaaA

namespace Go.Proofs.Ytflgfiieaoeknaa.deskOwners
open Go.ChangeShapes Go.WideShapes Go.ChangeAt Go.RowKit
set_option linter.unusedVariables false
theorem own : ownKnob Try.prog.godebug = none := by kernel_rfl
set_option maxRecDepth 1000000 in
theorem lifted (os : Os) (started : os.Started) (H : Type) (enc : TypeId × Value → H) :
    ReturnsInHanded {} Try.checked os 4 .any (Rows.deskOwnersSpec.pre6 enc Try.prog Try.f4 Rows.deskOwnersRow.domain false) (Rows.deskOwnersSpec.post enc Try.prog Try.f4 false true false false) :=
  YtflgfiieaoeknaaA.law_lifted (C := Try.checked) YtflgfiieaoeknaaA.env_good (fd := YtflgfiieaoeknaaA.fd4) (tb := 4) rfl own started (by kernel_rfl) Try.func4
    (ChangeSpec.witness6 (enc := enc) (C := Try.checked) false ⟨#[], #[((Try.prog.info? 9).bind (·.zero)).getD .nilFunc, ((Try.prog.info? 3).bind (·.zero)).getD .nilFunc, ((Try.prog.info? 4).bind (·.zero)).getD .nilFunc], []⟩ 8 (by kernel_rfl) (by kernel_rfl) (by kernel_rfl) (by kernel_rfl))
    (by kernel_rfl) (by decide +kernel) (by kernel_rfl) rfl (by kernel_rfl) (by kernel_rfl) (fun ds h => by
      match ds, h with
      | [d0, d1, d2], _ => rfl) YtflgfiieaoeknaaA.deskOwners_law
theorem over : Rows.deskOwnersRow.holds Try.pinned (OpenSpec.ofChange Rows.deskOwnersSpec) :=
  OpenClaim.holds_of_wide 4 Try.f4 rfl rfl rfl rfl rfl rfl rfl ⟨rfl, rfl, rfl, rfl, rfl⟩ rfl rfl rfl rfl rfl (by kernel_rfl) Try.func4 (by kernel_rfl)
    (of_decide_eq_true (by kernel_rfl)) (by unfold Func.isWrapper; first | (rw [if_pos (by decide +kernel)]; kernel_rfl) | (rw [if_neg (by decide +kernel)]; exact ⟨rfl, rfl⟩))
    (fun os started H enc _ => lifted os started H enc)
end Go.Proofs.Ytflgfiieaoeknaa.deskOwners
namespace Go.Proofs.Ytflgfiieaoeknaa
/-- The row, under a short name, for the claim. -/
theorem deskOwners_holds : Rows.DeskOwnersSaid := deskOwners.over
#print axioms deskOwners_holds
end Go.Proofs.Ytflgfiieaoeknaa


/- 'starlinglaw21.TakeEpochs' returns true for every key and all numbers: what the owner of a part gives, of its epoch or of a later one, is taken; else it isn't. Without further conditions. -/
import Derived.Test.YtflgfiieaoeknaaRows
import Derived.Test.YtflgfiieaoeknaaT4
import Derived.Test.YtflgfiieaoeknaaAW34
import Derived.WalkKit
import Derived.ProofKit
import Derived.ChangeOld
namespace Go.Proofs.YtflgfiieaoeknaaA
open Go
set_option linter.unusedSimpArgs false
set_option linter.unusedVariables false
set_option maxRecDepth 1000000
attribute [local simp] msg_zero ring_zero vec_zero bagV_zero

theorem msg_zero2 : I 0 :: I 0 :: I 0 :: I 0 :: I 0 :: I 0 :: I 0 :: I 0 :: .str [] :: I 0 :: I 0 :: I 0 :: I 0 :: I 0 :: I 0 :: I 0 :: I 0 :: .nilsl :: I 0 :: I 0 :: I 0 :: I 0 :: I 0 :: I 0 :: I 0 :: I 0 :: I 0 :: I 0 :: .nilsl :: I 0 :: I 0 :: I 0 :: I 0 :: I 0 :: I 0 :: I 0 :: I 0 :: I 0 :: I 0 :: I 0 :: I 0 :: I 0 :: I 0 :: I 0 :: I 0 :: I 0 :: I 0 :: I 0 :: I 0 :: I 0 :: I 0 :: I 0 :: I 0 :: bagV zeroV .nilsl = zMsg := hard rfl
attribute [local simp] msg_zero2
theorem k34 {H : Heap} {K : AV → Heap → Prop} : wPu envE 34 (some []) H K = K (.bool true) H := run_pu e34 rfl (fun _ => rfl) awake34
theorem mod_nat (x M : Int) (m : Nat) (hM : M = m) (h0 : 0 < m) (hm : m < 100) : ∃ N : Nat, N < m ∧ IntKind.i64.wrap ((IntKind.u64.wrap x).tmod M) = (N : Int) := by
  subst hM
  have hx : 0 ≤ IntKind.u64.wrap x := by simp [IntKind.wrap, IntKind.signed, IntKind.bits]; omega
  have h1 := Int.emod_nonneg (IntKind.u64.wrap x) (b := (m : Int)) (by omega)
  have h2 := Int.emod_lt_of_pos (IntKind.u64.wrap x) (b := (m : Int)) (by omega)
  refine ⟨((IntKind.u64.wrap x) % m).toNat, by omega, ?_⟩
  rw [Int.tmod_eq_emod_of_nonneg hx, wrap_i64] <;> omega
set_option maxHeartbeats 1000000 in
theorem takeEpochs_pu (key : List UInt8) (now epoch owner src : Int) : Pu envE 8 [.str key, I now, I epoch, I owner, I src] (.bool true) := by
  refine pu_is e8 rfl ?_
  cases hk : keyOk key
  · rw [fr_init (by simp [fd8])]
    simp [fd8, b8, hk, k34]
  obtain ⟨a, ha, hA⟩ := mod_nat now 9 9 rfl (by omega) (by omega)
  obtain ⟨ep, hep, hE⟩ := mod_nat epoch 12 12 rfl (by omega) (by omega)
  obtain ⟨o, ho, hO⟩ := mod_nat owner 7 7 rfl (by omega) (by omega)
  obtain ⟨f, hf, hF⟩ := mod_nat src 7 7 rfl (by omega) (by omega)
  obtain ⟨e, hee⟩ : ∃ e, e = a + 1 := ⟨_, rfl⟩
  have hA2 : IntKind.i64.wrap (1 + (a : Int)) = (e : Int) := by rw [wrap_i64] <;> omega
  obtain ⟨hs0, hs1⟩ := spot_ok hk
  obtain ⟨P, hP⟩ : ∃ P : Nat, spotF key = P := ⟨(spotF key).toNat, by omega⟩
  have hP16 : P < 16 := by omega
  have hP1 : ¬ (P : Int) < 0 := by omega
  have hP2 : ¬ (16 : Int) ≤ P := by omega
  have hover : ∀ {st ep ow : Nat → Int} {ver by' : Int} {q : AV} (l : List AV), l.length = 43 → setFrom l 0 (ringV st ver by' q ep ow) = ringV st ver by' q ep ow := fun l hl => setFrom_all _ _ (by rw [hl, ringV_len])
  have hk22 : ∀ H K, wPu envE 22 (some [I 0]) H K = K (.tup [.agg (ringV (firstR 0).status 0 0 .nilsl (firstR 0).epoch (firstR 0).owner), .bool true]) H := fun H K => k22 (n := 0) (by omega)
  have hsp := fun {st ep ow : Nat → Int} {ver by' x y : Int} {q : AV} => ringV_setP (st := st) (ver := ver) (by' := by') (r := q) (ep := ep) (ow := ow) (x := x) (y := y) hP16
  have hle : 11 + (P * 2 + 2) ≤ 43 := by omega
  have hle2 : 11 + P * 2 + 2 ≤ 43 := by omega
  obtain ⟨R, hR⟩ : ∃ R, R = setP (firstR 0) P e o := ⟨_, rfl⟩
  obtain ⟨q0, hq0⟩ : ∃ q0, q0 = AV.sl 1 0 1 3 := ⟨_, rfl⟩
  obtain ⟨H0, hH0⟩ : ∃ H0, H0 = [ABlk.cells false (ringV R.status 0 0 .nilsl R.epoch R.owner), ABlk.cells true [I f, I 1, .str [120]], ABlk.cells false (bagV (bN f).known q0)] := ⟨_, rfl⟩
  have b0 : H0[0]? = some (.cells false (ringV R.status 0 0 .nilsl R.epoch R.owner)) := by rw [hH0]; rfl
  have b2 : H0[2]? = some (.cells false (bagV (bN f).known q0)) := by rw [hH0]; rfl
  have hl0 : H0.length = 3 := by rw [hH0]; rfl
  have r0 : Row 0 H0 3 valC (bN f).vals q0 := by rw [hq0, hH0]; exact .inr ⟨by simp [bN], 1, Nat.zero_le _, rfl, rfl⟩
  have oq0 : AV.one q0 = true := r0.one
  have hk12 := fun K => k12 hf (H := [ABlk.cells false (ringV R.status 0 0 .nilsl R.epoch R.owner)]) (K := K)
  simp at hk12
  rw [← hq0] at hk12
  have eR : ∀ q, ringV (firstR 0).status 0 0 q (upd (firstR 0).epoch P (e : Int)) (upd (firstR 0).owner P (o : Int)) = ringV R.status 0 0 q R.epoch R.owner := fun q => by rw [hR]; rfl
  have nr := fun K => new_room (room := 9) (H := H0) (lim := 0) (K := K) (by omega) (by omega)
  rw [fr_init (by simp [fd8])]
  simp [fd8, b8, hk, hA, hE, hO, hF, hA2, hk22, hover, hP, hP1, hP2, hP16, hsp, hle, hle2, eR, hk12, oq0, ← hH0, nr]
  refine open_new 9 H0 (by omega) (by omega) ?_
  intro X hv
  have b1 := get_app (X := X) b0
  have d1 := get_app (X := X) b2
  have r1 : Rd (H0 ++ X) 3 valC (bN f).vals q0 := .inl r0.app
  simp [cells_of b1]
  have ok0 := empty_ok (room := 9) (by omega) (by omega)
  obtain ⟨hmay, hown⟩ := r_facts P hP16 e (by omega) o ho (by omega)
  rw [← hR] at hmay hown
  have htg : R.plan.targets = [] := by rw [hR]; rfl
  have hver : R.plan.version = 0 := by rw [hR]; rfl
  have hby : R.plan.by' = 0 := by rw [hR]; rfl
  have hfitR : deedFits (ringD R) := ⟨Nat.zero_le _, by simp [ringD, htg]⟩
  obtain ⟨w1, w2⟩ := wrote_ring (R := R) hmay
  have ok1 : VOk (withRing R) := by rw [← w2]; exact ok0.wrote hfitR
  have h24 := c24 hv ok0 R .nilsl (by rw [htg]; exact .inl .nil) (by rw [htg]; exact Nat.zero_le _)
  rw [hver, hby] at h24
  refine WCl.mono h24 ?_
  rintro _ H2 ⟨rfl, hs2⟩
  rw [w2] at hs2
  obtain ⟨k2, v2, q2, es2, ck2, hv2⟩ := hs2
  have d2 := k2.2 2 _ d1 (by omega) (by omega) (by omega) (by intro y e; cases e)
  have hD : isD ((bN f).vals.flatMap valC) = false := rfl
  have r2 : Rd H2 3 valC (bN f).vals q0 := r1.keepD hD (k2.rows hv)
  have hM5 := fun kd ep => mayE_eq (kd := kd) (f := f) (P := P) (e := e) (o := o) (ep := ep) (key := key) (b := bN f) hP16 (by omega) ho (by omega)
  rw [← hR] at hM5
  obtain ⟨G1, hG1⟩ : ∃ G1, G1 = H2 ++ [ABlk.cells false (gQ 5 f P ep key (bN f).known q0)] := ⟨_, rfl⟩
  have hvG1 : Vlt G1 (H0.length + 2) H0.length (H0.length + 1) (withRing R) v2 q2 es2 ck2 := by rw [hG1]; exact hv2.app
  have rdG1 : Rd G1 3 valC (bN f).vals q0 := by rw [hG1]; exact r2.app
  have m1 : G1[H2.length]? = some (.cells false (gQ 5 f P ep key (bN f).known q0)) := by rw [hG1]; exact get_new
  have dG1 : G1[2]? = some (.cells false (bagV (bN f).known q0)) := by rw [hG1]; exact get_app d2
  have lp : H0.length + 2 < H2.length := lt_of hv2.box
  have hnode : msgNode (f : Int) = true := by simp [msgNode]; omega
  have hpart : partOk (P : Int) = true := by simp [partOk]; omega
  have tk := fun kd (h : kd = 5 ∨ kd = 7) => (⟨h, hnode, hpart, by omega, by simp [withRing], hmay⟩ : TkOk (withRing R) kd f P)
  have hw5 := hM5 5 (ep : Int)
  rw [show ((5 : Nat) : Int) = 5 from rfl] at hw5
  have hw7 := hM5 7 (ep : Int)
  rw [show ((7 : Nat) : Int) = 7 from rfl] at hw7
  have hx : ∀ {l : List AV} {y : List AV}, l.length = 62 → y.length = 62 → setFrom l 0 y = y := fun {l y} h1 h2 => setFrom_all _ _ (by rw [h1, h2])
  have e9 : e < 10 := by omega
  by_cases c1 : e < ep
  · have c1' : (e : Int) < (ep : Int) := by omega
    simp [w1, cells_of d2, oq0, ← hG1, cells_of m1, c1, c1']
    have hM : mayE (gM 5 f P ep key (bN f)) R = true := by rw [hw5]; simp [c1, c1']
    have hM7 : mayE (gM 7 f P ep key (bN f)) R = true := by rw [hw7]; simp [c1, c1']
    obtain ⟨s', hmg, hmd⟩ := merge_ok (n := f) hk hf ok1
    have h35 := c35g (ep := ep) (key := key) hvG1 ok1 rdG1 hD (by simp [bN]) (tk 5 (.inl rfl)) hP hM (by rw [hmg])
    rw [hmg] at h35
    refine WCl.mono h35 ?_
    rintro _ H3 ⟨hs3, q', oq, rfl⟩
    obtain ⟨k3, v3, q3, es3, ck3, hv3⟩ := hs3
    obtain ⟨G4, hG4⟩ : ∃ G4, G4 = H3 ++ [ABlk.cells false (mV 6 7 f 1 0 0 P ep key (bN f).known q' zeroV 0 0 .nilsl zeroV zeroV .nilsl)] := ⟨_, rfl⟩
    have hv4 : Vlt G4 (H0.length + 2) H0.length (H0.length + 1) ({ s' with sure := s'.ds.length }) v3 q3 es3 ck3 := by rw [hG4]; exact hv3.app
    have m3 := k3.2 _ _ m1 (by omega) (by omega) (by omega) (by intro y e; cases e)
    have m4 : G4[H2.length]? = some (.cells false (gQ 5 f P ep key (bN f).known q0)) := by rw [hG4]; exact get_app m3
    obtain ⟨G5, hG5⟩ : ∃ G5, G5 = G4.set H2.length (.cells false (gQ 7 f P ep key (bN f).known q0)) := ⟨_, rfl⟩
    have s4 : storeAt 0 G4 1 (.ptr (some (H2.length, 0))) (I 7) = some G5 := by
      rw [hG5]
      exact store_of (lim := 0) (n := 1) (o := 0) (v := I 7) m4 (Nat.zero_le _) rfl (by simp) rfl
    have m5 : G5[H2.length]? = some (.cells false (gQ 7 f P ep key (bN f).known q0)) := by rw [hG5, List.getElem?_set_self (lt_of m4)]
    have l3 : H2.length < H3.length := lt_of m3
    have n19 : G5[H3.length]? = some (.cells false (mV 6 7 f 1 0 0 P ep key (bN f).known q' zeroV 0 0 .nilsl zeroV zeroV .nilsl)) := by
      have : G4[H3.length]? = some (.cells false (mV 6 7 f 1 0 0 P ep key (bN f).known q' zeroV 0 0 .nilsl zeroV zeroV .nilsl)) := by rw [hG4]; exact get_new
      rw [hG5]; exact get_set this (by omega)
    have kp24 : Kp H2 G4 (H0.length + 2) H0.length (H0.length + 1) := by
      have : Kp H2 G1 (H0.length + 2) H0.length (H0.length + 1) := by rw [hG1]; exact .app
      rw [hG4]
      exact this.trans (k3.trans .app)
    have e5 : VStep H2 G5 (H0.length + 2) H0.length (H0.length + 1) ({ s' with sure := s'.ds.length }) := by
      have e4 : VStep H2 G4 (H0.length + 2) H0.length (H0.length + 1) ({ s' with sure := s'.ds.length }) := ⟨kp24, v3, q3, es3, ck3, hv4⟩
      rw [hG5]
      exact e4.setF m4 (by omega) (by omega) (by omega) (Nat.le_refl _)
    obtain ⟨k5, v5, q5, es5, ck5, hv5⟩ := e5
    have r5 : Rd G5 3 valC (bN f).vals q0 := r2.keepD hD (k5.rows hv2)
    have d5 := k5.2 2 _ d2 (by omega) (by omega) (by omega) (by intro y e; cases e)
    have ok5 : VOk { s' with sure := s'.ds.length } := hmd.ok.sync
    have tk7 : TkOk { s' with sure := s'.ds.length } 7 f P := ⟨.inr rfl, hnode, hpart, by omega, by simp [hmd.rings], by simp only [hmd.ring]; exact hmay⟩
    have h36 := c36g (ep := ep) (key := key) hv5 ok5 r5 hD tk7 (by simp only [hmd.ring]; exact hM7)
    simp [oq, ← hG4, s4, cells_of m5]
    refine WCl.mono h36 ?_
    rintro _ H6 ⟨hs6, rfl⟩
    obtain ⟨k6, v6, q6, es6, ck6, hv6⟩ := hs6
    have l5 : G5.length = H3.length + 1 := by rw [hG5, List.length_set, hG4]; simp
    have d6 := k6.2 2 _ d5 (by omega) (by omega) (by omega) (by intro y e; cases e)
    have x6 := k6.2 _ _ n19 (by omega) (by omega) (by omega) (by intro y e; cases e)
    have r6 : Rd H6 3 valC (bN f).vals q0 := r5.keepD hD (k6.rows hv5)
    obtain ⟨H7, hH7⟩ : ∃ H7, H7 = H6 ++ [ABlk.cells false (bkM 8 f P ep)] := ⟨_, rfl⟩
    have hv7 := hv6.app (X := [ABlk.cells false (bkM 8 f P ep)])
    rw [← hH7] at hv7
    have d7 : H7[2]? = some (.cells false (bagV (bN f).known q0)) := by rw [hH7]; exact get_app d6
    have x7 : H7[H3.length]? = some (.cells false (mV 6 7 f 1 0 0 P ep key (bN f).known q' zeroV 0 0 .nilsl zeroV zeroV .nilsl)) := by rw [hH7]; exact get_app x6
    have r7 : Rd H7 3 valC (bN f).vals q0 := by rw [hH7]; exact r6.app
    have ok6 : VOk { { s' with sure := s'.ds.length } with sure := s'.ds.length } := ok5
    simp [← hH7]
    refine WCl.mono (c18 hv7 ok6 key _ (Nat.le_refl _)) ?_
    rintro _ _ ⟨Y, q9, rfl, rfl, hq9⟩
    have hbg : bagOf { s' with sure := s'.ds.length } key = ⟨joinK zeroV [] (bN f).known (bN f).vals, joinR zeroV [] (bN f).known (bN f).vals⟩ := hmd.bag
    simp only [hbg] at hq9 ⊢
    have o9 := hq9.one
    have f9 := hq9.frz (d := 9) valC_len val_flat
    have f0 := (r7.app (X := Y)).frz (d := 9) valC_len val_flat
    have hsame := (b_facts f hf).2.2.2.2
    have hjl : (joinR zeroV [] (bN f).known (bN f).vals).length < 4611686018427387904 := by
      have h1 := joinR_fit (ka := zeroV) (kb := (bN f).known) (la := []) (lb := (bN f).vals)
      have hrb : reachBytes = 140737488351232 := rfl
      omega
    have k17i := fun H K => k17 (k := joinK zeroV [] (bN f).known (bN f).vals) (k' := (bN f).known) (l := joinR zeroV [] (bN f).known (bN f).vals) (l' := (bN f).vals) hjl (H := H) (K := K)
    rw [hsame] at k17i
    simp [o9, f9, f0, cells_of (get_app (X := Y) d7), cells_of (get_app (X := Y) x7), k17i, k34]
  have c1' : ¬ (e : Int) < (ep : Int) := by omega
  by_cases c2 : ep = e
  · have c2' : (ep : Int) = (e : Int) := by rw [c2]
    have c2b : ((ep : Int) == (e : Int)) = true := beq_iff_eq.2 c2'
    by_cases c3 : f = o
    · have c3' : (f : Int) = (o : Int) := by rw [c3]
      have c3b : ((f : Int) == (o : Int)) = true := beq_iff_eq.2 c3'
      have c3c : (o : Int) = (f : Int) := c3'.symm
      have c3d : o = f := c3.symm
      simp [w1, cells_of d2, oq0, ← hG1, cells_of m1, c1, c1', eq_true c2, eq_true c2', c2b, eq_true c3, eq_true c3', c3b]
      have hM : mayE (gM 5 f P ep key (bN f)) R = true := by rw [hw5]; simp [eq_true c2, eq_true c2', eq_true c3d, eq_true c3c]
      have hM7 : mayE (gM 7 f P ep key (bN f)) R = true := by rw [hw7]; simp [eq_true c2, eq_true c2', eq_true c3d, eq_true c3c]
      obtain ⟨s', hmg, hmd⟩ := merge_ok (n := f) hk hf ok1
      have h35 := c35g (ep := ep) (key := key) hvG1 ok1 rdG1 hD (by simp [bN]) (tk 5 (.inl rfl)) hP hM (by rw [hmg])
      rw [hmg] at h35
      refine WCl.mono h35 ?_
      rintro _ H3 ⟨hs3, q', oq, rfl⟩
      obtain ⟨k3, v3, q3, es3, ck3, hv3⟩ := hs3
      obtain ⟨G4, hG4⟩ : ∃ G4, G4 = H3 ++ [ABlk.cells false (mV 6 7 f 1 0 0 P ep key (bN f).known q' zeroV 0 0 .nilsl zeroV zeroV .nilsl)] := ⟨_, rfl⟩
      have hv4 : Vlt G4 (H0.length + 2) H0.length (H0.length + 1) ({ s' with sure := s'.ds.length }) v3 q3 es3 ck3 := by rw [hG4]; exact hv3.app
      have m3 := k3.2 _ _ m1 (by omega) (by omega) (by omega) (by intro y e; cases e)
      have m4 : G4[H2.length]? = some (.cells false (gQ 5 f P ep key (bN f).known q0)) := by rw [hG4]; exact get_app m3
      obtain ⟨G5, hG5⟩ : ∃ G5, G5 = G4.set H2.length (.cells false (gQ 7 f P ep key (bN f).known q0)) := ⟨_, rfl⟩
      have s4 : storeAt 0 G4 1 (.ptr (some (H2.length, 0))) (I 7) = some G5 := by
        rw [hG5]
        exact store_of (lim := 0) (n := 1) (o := 0) (v := I 7) m4 (Nat.zero_le _) rfl (by simp) rfl
      have m5 : G5[H2.length]? = some (.cells false (gQ 7 f P ep key (bN f).known q0)) := by rw [hG5, List.getElem?_set_self (lt_of m4)]
      have l3 : H2.length < H3.length := lt_of m3
      have n19 : G5[H3.length]? = some (.cells false (mV 6 7 f 1 0 0 P ep key (bN f).known q' zeroV 0 0 .nilsl zeroV zeroV .nilsl)) := by
        have : G4[H3.length]? = some (.cells false (mV 6 7 f 1 0 0 P ep key (bN f).known q' zeroV 0 0 .nilsl zeroV zeroV .nilsl)) := by rw [hG4]; exact get_new
        rw [hG5]; exact get_set this (by omega)
      have kp24 : Kp H2 G4 (H0.length + 2) H0.length (H0.length + 1) := by
        have : Kp H2 G1 (H0.length + 2) H0.length (H0.length + 1) := by rw [hG1]; exact .app
        rw [hG4]
        exact this.trans (k3.trans .app)
      have e5 : VStep H2 G5 (H0.length + 2) H0.length (H0.length + 1) ({ s' with sure := s'.ds.length }) := by
        have e4 : VStep H2 G4 (H0.length + 2) H0.length (H0.length + 1) ({ s' with sure := s'.ds.length }) := ⟨kp24, v3, q3, es3, ck3, hv4⟩
        rw [hG5]
        exact e4.setF m4 (by omega) (by omega) (by omega) (Nat.le_refl _)
      obtain ⟨k5, v5, q5, es5, ck5, hv5⟩ := e5
      have r5 : Rd G5 3 valC (bN f).vals q0 := r2.keepD hD (k5.rows hv2)
      have d5 := k5.2 2 _ d2 (by omega) (by omega) (by omega) (by intro y e; cases e)
      have ok5 : VOk { s' with sure := s'.ds.length } := hmd.ok.sync
      have tk7 : TkOk { s' with sure := s'.ds.length } 7 f P := ⟨.inr rfl, hnode, hpart, by omega, by simp [hmd.rings], by simp only [hmd.ring]; exact hmay⟩
      have h36 := c36g (ep := ep) (key := key) hv5 ok5 r5 hD tk7 (by simp only [hmd.ring]; exact hM7)
      simp [oq, ← hG4, s4, cells_of m5]
      refine WCl.mono h36 ?_
      rintro _ H6 ⟨hs6, rfl⟩
      obtain ⟨k6, v6, q6, es6, ck6, hv6⟩ := hs6
      have l5 : G5.length = H3.length + 1 := by rw [hG5, List.length_set, hG4]; simp
      have d6 := k6.2 2 _ d5 (by omega) (by omega) (by omega) (by intro y e; cases e)
      have x6 := k6.2 _ _ n19 (by omega) (by omega) (by omega) (by intro y e; cases e)
      have r6 : Rd H6 3 valC (bN f).vals q0 := r5.keepD hD (k6.rows hv5)
      obtain ⟨H7, hH7⟩ : ∃ H7, H7 = H6 ++ [ABlk.cells false (bkM 8 f P ep)] := ⟨_, rfl⟩
      have hv7 := hv6.app (X := [ABlk.cells false (bkM 8 f P ep)])
      rw [← hH7] at hv7
      have d7 : H7[2]? = some (.cells false (bagV (bN f).known q0)) := by rw [hH7]; exact get_app d6
      have x7 : H7[H3.length]? = some (.cells false (mV 6 7 f 1 0 0 P ep key (bN f).known q' zeroV 0 0 .nilsl zeroV zeroV .nilsl)) := by rw [hH7]; exact get_app x6
      have r7 : Rd H7 3 valC (bN f).vals q0 := by rw [hH7]; exact r6.app
      have ok6 : VOk { { s' with sure := s'.ds.length } with sure := s'.ds.length } := ok5
      simp [← hH7]
      refine WCl.mono (c18 hv7 ok6 key _ (Nat.le_refl _)) ?_
      rintro _ _ ⟨Y, q9, rfl, rfl, hq9⟩
      have hbg : bagOf { s' with sure := s'.ds.length } key = ⟨joinK zeroV [] (bN f).known (bN f).vals, joinR zeroV [] (bN f).known (bN f).vals⟩ := hmd.bag
      simp only [hbg] at hq9 ⊢
      have o9 := hq9.one
      have f9 := hq9.frz (d := 9) valC_len val_flat
      have f0 := (r7.app (X := Y)).frz (d := 9) valC_len val_flat
      have hsame := (b_facts f hf).2.2.2.2
      have hjl : (joinR zeroV [] (bN f).known (bN f).vals).length < 4611686018427387904 := by
        have h1 := joinR_fit (ka := zeroV) (kb := (bN f).known) (la := []) (lb := (bN f).vals)
        have hrb : reachBytes = 140737488351232 := rfl
        omega
      have k17i := fun H K => k17 (k := joinK zeroV [] (bN f).known (bN f).vals) (k' := (bN f).known) (l := joinR zeroV [] (bN f).known (bN f).vals) (l' := (bN f).vals) hjl (H := H) (K := K)
      rw [hsame] at k17i
      simp [o9, f9, f0, cells_of (get_app (X := Y) d7), cells_of (get_app (X := Y) x7), k17i, k34]
    · have c3' : ¬ (f : Int) = (o : Int) := by omega
      have c3b : ((f : Int) == (o : Int)) = false := beq_eq_false_iff_ne.2 c3'
      have c3c : ¬ (o : Int) = (f : Int) := by omega
      have c3d : ¬ o = f := by omega
      simp [w1, cells_of d2, oq0, ← hG1, cells_of m1, c1, c1', eq_true c2, eq_true c2', c2b, c3, c3', c3b]
      have hM : mayE (gM 5 f P ep key (bN f)) R = false := by rw [hw5]; simp [c1, c1', c3d, c3c]
      have hM7 : mayE (gM 7 f P ep key (bN f)) R = false := by rw [hw7]; simp [c1, c1', c3d, c3c]
      refine WCl.mono (c35o (ep := ep) (key := key) hvG1 ok1 rdG1 (tk 5 (.inl rfl)) hP hM) ?_
      rintro _ H3 ⟨⟨Y3, hH3⟩, rfl⟩
      have hs3 : VStep G1 H3 (H0.length + 2) H0.length (H0.length + 1) (withRing R) := by rw [hH3]; exact VStep.app hvG1
      obtain ⟨k3, v3, q3, es3, ck3, hv3⟩ := hs3
      obtain ⟨G4, hG4⟩ : ∃ G4, G4 = H3 ++ [ABlk.cells false (zMsg)] := ⟨_, rfl⟩
      have hv4 : Vlt G4 (H0.length + 2) H0.length (H0.length + 1) (withRing R) v3 q3 es3 ck3 := by rw [hG4]; exact hv3.app
      have m3 := k3.2 _ _ m1 (by omega) (by omega) (by omega) (by intro y e; cases e)
      have m4 : G4[H2.length]? = some (.cells false (gQ 5 f P ep key (bN f).known q0)) := by rw [hG4]; exact get_app m3
      obtain ⟨G5, hG5⟩ : ∃ G5, G5 = G4.set H2.length (.cells false (gQ 7 f P ep key (bN f).known q0)) := ⟨_, rfl⟩
      have s4 : storeAt 0 G4 1 (.ptr (some (H2.length, 0))) (I 7) = some G5 := by
        rw [hG5]
        exact store_of (lim := 0) (n := 1) (o := 0) (v := I 7) m4 (Nat.zero_le _) rfl (by simp) rfl
      have m5 : G5[H2.length]? = some (.cells false (gQ 7 f P ep key (bN f).known q0)) := by rw [hG5, List.getElem?_set_self (lt_of m4)]
      have l3 : H2.length < H3.length := lt_of m3
      have n19 : G5[H3.length]? = some (.cells false (zMsg)) := by
        have : G4[H3.length]? = some (.cells false (zMsg)) := by rw [hG4]; exact get_new
        rw [hG5]; exact get_set this (by omega)
      have kp24 : Kp H2 G4 (H0.length + 2) H0.length (H0.length + 1) := by
        have : Kp H2 G1 (H0.length + 2) H0.length (H0.length + 1) := by rw [hG1]; exact .app
        rw [hG4]
        exact this.trans (k3.trans .app)
      have e5 : VStep H2 G5 (H0.length + 2) H0.length (H0.length + 1) (withRing R) := by
        have e4 : VStep H2 G4 (H0.length + 2) H0.length (H0.length + 1) (withRing R) := ⟨kp24, v3, q3, es3, ck3, hv4⟩
        rw [hG5]
        exact e4.setF m4 (by omega) (by omega) (by omega) (Nat.le_refl _)
      obtain ⟨k5, v5, q5, es5, ck5, hv5⟩ := e5
      have r5 : Rd G5 3 valC (bN f).vals q0 := r2.keepD hD (k5.rows hv2)
      have d5 := k5.2 2 _ d2 (by omega) (by omega) (by omega) (by intro y e; cases e)
      have h36 := c36o (ep := ep) (key := key) hv5 ok1 r5 (tk 7 (.inr rfl)) hM7
      have z4 : G4[H3.length]? = some (.cells false zMsg) := by rw [hG4]; exact get_new
      simp [← hG4, store_msg z4 (Nat.zero_le _), s4, cells_of m5]
      refine WCl.mono h36 ?_
      rintro _ H6 ⟨⟨Y6, hH6⟩, rfl⟩
      have hv6 : Vlt H6 (H0.length + 2) H0.length (H0.length + 1) (withRing R) v5 q5 es5 ck5 := by rw [hH6]; exact hv5.app
      obtain ⟨H7, hH7⟩ : ∃ H7, H7 = H6 ++ [ABlk.cells false zMsg] := ⟨_, rfl⟩
      have hv7 : Vlt H7 (H0.length + 2) H0.length (H0.length + 1) (withRing R) v5 q5 es5 ck5 := by rw [hH7]; exact hv6.app
      have z7 : H7[H6.length]? = some (.cells false zMsg) := by rw [hH7]; exact get_new
      simp [← hH7, store_msg z7 (Nat.zero_le _)]
      refine WCl.mono (c18 hv7 ok1 key _ (Nat.zero_le _)) ?_
      rintro _ _ ⟨Y, q9, rfl, rfl, hq9⟩
      simp only [bagOf_empty] at hq9 ⊢
      have o9 := hq9.one
      have f9 := hq9.frz (d := 9) valC_len val_flat
      have k17i : ∀ H K, wPu envE 17 (some [.agg (bagV zBagS.known (roL valC zBagS.vals)), .agg (bagV zeroV (.ro 0 []))]) H K = K (.bool true) H := fun H K => k17 (k := zeroV) (k' := zeroV) (l := []) (l' := []) (by simp) (H := H) (K := K)
      simp [o9, f9, k17i, k34]
  · have c2' : ¬ (ep : Int) = (e : Int) := by omega
    have c2b : ((ep : Int) == (e : Int)) = false := beq_eq_false_iff_ne.2 c2'
    simp [w1, cells_of d2, oq0, ← hG1, cells_of m1, c1, c1', c2, c2', c2b]
    have hM : mayE (gM 5 f P ep key (bN f)) R = false := by rw [hw5]; simp [c1, c1', c2, c2']
    have hM7 : mayE (gM 7 f P ep key (bN f)) R = false := by rw [hw7]; simp [c1, c1', c2, c2']
    refine WCl.mono (c35o (ep := ep) (key := key) hvG1 ok1 rdG1 (tk 5 (.inl rfl)) hP hM) ?_
    rintro _ H3 ⟨⟨Y3, hH3⟩, rfl⟩
    have hs3 : VStep G1 H3 (H0.length + 2) H0.length (H0.length + 1) (withRing R) := by rw [hH3]; exact VStep.app hvG1
    obtain ⟨k3, v3, q3, es3, ck3, hv3⟩ := hs3
    obtain ⟨G4, hG4⟩ : ∃ G4, G4 = H3 ++ [ABlk.cells false (zMsg)] := ⟨_, rfl⟩
    have hv4 : Vlt G4 (H0.length + 2) H0.length (H0.length + 1) (withRing R) v3 q3 es3 ck3 := by rw [hG4]; exact hv3.app
    have m3 := k3.2 _ _ m1 (by omega) (by omega) (by omega) (by intro y e; cases e)
    have m4 : G4[H2.length]? = some (.cells false (gQ 5 f P ep key (bN f).known q0)) := by rw [hG4]; exact get_app m3
    obtain ⟨G5, hG5⟩ : ∃ G5, G5 = G4.set H2.length (.cells false (gQ 7 f P ep key (bN f).known q0)) := ⟨_, rfl⟩
    have s4 : storeAt 0 G4 1 (.ptr (some (H2.length, 0))) (I 7) = some G5 := by
      rw [hG5]
      exact store_of (lim := 0) (n := 1) (o := 0) (v := I 7) m4 (Nat.zero_le _) rfl (by simp) rfl
    have m5 : G5[H2.length]? = some (.cells false (gQ 7 f P ep key (bN f).known q0)) := by rw [hG5, List.getElem?_set_self (lt_of m4)]
    have l3 : H2.length < H3.length := lt_of m3
    have n19 : G5[H3.length]? = some (.cells false (zMsg)) := by
      have : G4[H3.length]? = some (.cells false (zMsg)) := by rw [hG4]; exact get_new
      rw [hG5]; exact get_set this (by omega)
    have kp24 : Kp H2 G4 (H0.length + 2) H0.length (H0.length + 1) := by
      have : Kp H2 G1 (H0.length + 2) H0.length (H0.length + 1) := by rw [hG1]; exact .app
      rw [hG4]
      exact this.trans (k3.trans .app)
    have e5 : VStep H2 G5 (H0.length + 2) H0.length (H0.length + 1) (withRing R) := by
      have e4 : VStep H2 G4 (H0.length + 2) H0.length (H0.length + 1) (withRing R) := ⟨kp24, v3, q3, es3, ck3, hv4⟩
      rw [hG5]
      exact e4.setF m4 (by omega) (by omega) (by omega) (Nat.le_refl _)
    obtain ⟨k5, v5, q5, es5, ck5, hv5⟩ := e5
    have r5 : Rd G5 3 valC (bN f).vals q0 := r2.keepD hD (k5.rows hv2)
    have d5 := k5.2 2 _ d2 (by omega) (by omega) (by omega) (by intro y e; cases e)
    have h36 := c36o (ep := ep) (key := key) hv5 ok1 r5 (tk 7 (.inr rfl)) hM7
    have z4 : G4[H3.length]? = some (.cells false zMsg) := by rw [hG4]; exact get_new
    simp [← hG4, store_msg z4 (Nat.zero_le _), s4, cells_of m5]
    refine WCl.mono h36 ?_
    rintro _ H6 ⟨⟨Y6, hH6⟩, rfl⟩
    have hv6 : Vlt H6 (H0.length + 2) H0.length (H0.length + 1) (withRing R) v5 q5 es5 ck5 := by rw [hH6]; exact hv5.app
    obtain ⟨H7, hH7⟩ : ∃ H7, H7 = H6 ++ [ABlk.cells false zMsg] := ⟨_, rfl⟩
    have hv7 : Vlt H7 (H0.length + 2) H0.length (H0.length + 1) (withRing R) v5 q5 es5 ck5 := by rw [hH7]; exact hv6.app
    have z7 : H7[H6.length]? = some (.cells false zMsg) := by rw [hH7]; exact get_new
    simp [← hH7, store_msg z7 (Nat.zero_le _)]
    refine WCl.mono (c18 hv7 ok1 key _ (Nat.zero_le _)) ?_
    rintro _ _ ⟨Y, q9, rfl, rfl, hq9⟩
    simp only [bagOf_empty] at hq9 ⊢
    have o9 := hq9.one
    have f9 := hq9.frz (d := 9) valC_len val_flat
    have k17i : ∀ H K, wPu envE 17 (some [.agg (bagV zBagS.known (roL valC zBagS.vals)), .agg (bagV zeroV (.ro 0 []))]) H K = K (.bool true) H := fun H K => k17 (k := zeroV) (k' := zeroV) (l := []) (l' := []) (by simp) (H := H) (K := K)
    simp [o9, f9, k17i, k34]
theorem takeEpochs_law (cs : List AV) (h : FitsArgs [(false, .str), (false, .int .i64), (false, .int .i64), (false, .int .i64), (false, .int .i64)] cs) : ∃ n H', callF envE (exec envE n) 8 cs 0 [] = some (.bool true, H') := by
  obtain ⟨a, rest, rfl, h1, t⟩ := fa_one h
  obtain ⟨b, rest, rfl, h2, t⟩ := fa_one t
  obtain ⟨c, rest, rfl, h3, t⟩ := fa_one t
  obtain ⟨d, rest, rfl, h4, t⟩ := fa_one t
  obtain ⟨f, rest, rfl, h5, t⟩ := fa_one t
  cases fa_nil t
  obtain ⟨x, e1, _⟩ := fits_str h1
  obtain ⟨y1, e2, _⟩ := fits_int h2
  obtain ⟨y2, e3, _⟩ := fits_int h3
  obtain ⟨y3, e4, _⟩ := fits_int h4
  obtain ⟨y4, e5, _⟩ := fits_int h5
  cases e1
  cases e2
  cases e3
  cases e4
  cases e5
  exact law_of (takeEpochs_pu x y1 y2 y3 y4) (by simp)
end Go.Proofs.YtflgfiieaoeknaaA

namespace Go.Proofs.Ytflgfiieaoeknaa.takeEpochs
open Go.ChangeShapes Go.WideShapes Go.ChangeAt Go.RowKit
set_option linter.unusedVariables false
theorem own : ownKnob Try.prog.godebug = none := by kernel_rfl
set_option maxRecDepth 1000000 in
theorem lifted (os : Os) (started : os.Started) (H : Type) (enc : TypeId × Value → H) :
    ReturnsInHanded {} Try.checked os 8 .any (Rows.takeEpochsSpec.pre6 enc Try.prog Try.f8 Rows.takeEpochsRow.domain false) (Rows.takeEpochsSpec.post enc Try.prog Try.f8 false true false false) :=
  YtflgfiieaoeknaaA.law_lifted (C := Try.checked) YtflgfiieaoeknaaA.env_good (fd := YtflgfiieaoeknaaA.fd8) (tb := 4) rfl own started (by kernel_rfl) Try.func8
    (ChangeSpec.witness6 (enc := enc) (C := Try.checked) false ⟨#[], #[((Try.prog.info? 9).bind (·.zero)).getD .nilFunc, ((Try.prog.info? 3).bind (·.zero)).getD .nilFunc, ((Try.prog.info? 3).bind (·.zero)).getD .nilFunc, ((Try.prog.info? 3).bind (·.zero)).getD .nilFunc, ((Try.prog.info? 3).bind (·.zero)).getD .nilFunc], []⟩ 8 (by kernel_rfl) (by kernel_rfl) (by kernel_rfl) (by kernel_rfl))
    (by kernel_rfl) (by decide +kernel) (by kernel_rfl) rfl (by kernel_rfl) (by kernel_rfl) (fun ds h => by
      match ds, h with
      | [d0, d1, d2, d3, d4], _ => rfl) YtflgfiieaoeknaaA.takeEpochs_law
theorem over : Rows.takeEpochsRow.holds Try.pinned (OpenSpec.ofChange Rows.takeEpochsSpec) :=
  OpenClaim.holds_of_wide 8 Try.f8 rfl rfl rfl rfl rfl rfl rfl ⟨rfl, rfl, rfl, rfl, rfl⟩ rfl rfl rfl rfl rfl (by kernel_rfl) Try.func8 (by kernel_rfl)
    (of_decide_eq_true (by kernel_rfl)) (by unfold Func.isWrapper; first | (rw [if_pos (by decide +kernel)]; kernel_rfl) | (rw [if_neg (by decide +kernel)]; exact ⟨rfl, rfl⟩))
    (fun os started H enc _ => lifted os started H enc)
end Go.Proofs.Ytflgfiieaoeknaa.takeEpochs
namespace Go.Proofs.Ytflgfiieaoeknaa
/-- The row, under a short name, for the claim. -/
theorem takeEpochs_holds : Rows.TakeEpochsSaid := takeEpochs.over
#print axioms takeEpochs_holds
end Go.Proofs.Ytflgfiieaoeknaa


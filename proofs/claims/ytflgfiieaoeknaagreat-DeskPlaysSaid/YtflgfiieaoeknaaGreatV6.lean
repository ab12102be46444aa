/- Puts at the desk; the first ring. No statement about the program is proved here. -/
import Derived.Test.YtflgfiieaoeknaaGreatV5
namespace Go.Proofs.YtflgfiieaoeknaaGreatA
open Go
set_option linter.unusedSimpArgs false
set_option linter.unusedVariables false
set_option maxRecDepth 1000000
attribute [local simp] deed_zero ring_zero

theorem VOk.put {s : VSt} (ok : VOk s) {node : Int} {key : List UInt8} {known : Nat → Int} {data : List UInt8} : VOk (putO s node key known data).s := by
  unfold putO
  split
  · exact ok
  · split
    · exact ok
    · split
      · exact ok
      · split
        · split
          · exact ok.wrote ⟨putR_fit, Nat.zero_le _⟩
          · exact ok
        · exact ok
theorem put_bad {s : VSt} {node : Int} {key : List UInt8} {known : Nat → Int} {data : List UInt8} (h : (putO s node key known data).e ≠ 0) : (putO s node key known data).s = s := by
  unfold putO at h ⊢
  split
  · rfl
  · rename_i h1
    rw [if_neg h1] at h
    split
    · rfl
    · rename_i h2
      rw [if_neg h2] at h
      split
      · rfl
      · rename_i h3
        rw [if_neg h3] at h
        split
        · rename_i h4
          rw [if_pos h4] at h
          split
          · rename_i h5
            rw [if_pos h5] at h
            exact absurd rfl h
          · rfl
        · rfl
theorem VOk.sync {s : VSt} (ok : VOk s) : VOk { s with sure := s.ds.length } := ⟨ok.r0, ok.r1, ok.le, ok.fit, ok.rfit, ok.bfit, ok.ringsN, ok.d0, ok.d1, Nat.le_refl _⟩
structure DeskR where
  a : Int
  c : Int
  n : Int
  e : Int
  s : VSt
def deskO (s : VSt) (self : Int) (key : List UInt8) (known : Nat → Int) (data : List UInt8) : DeskR :=
  if (ownsO s self key).e ≠ 0 then ⟨0, 0, (ownsO s self key).n, (ownsO s self key).e, s⟩
  else if (putO s self key known data).e ≠ 0 then ⟨0, 0, 0, (putO s self key known data).e, s⟩
  else ⟨(putO s self key known data).a, (putO s self key known data).c, self, 0, { (putO s self key known data).s with sure := (putO s self key known data).s.ds.length }⟩
set_option maxHeartbeats 1000000 in
theorem c18 {H : Heap} {p lb mi : Nat} {s : VSt} {v q : AV} {es : List (AV × AV × Nat)} {ck : Nat} (h : Vlt H p lb mi s v q es ck) (ok : VOk s) (self : Int) (key : List UInt8) (known : Nat → Int) (data : List UInt8) :
    WCl envE 18 [I self, .ptr (some (p, 0)), .str key, .agg (vecC known), .str data] 0 H fun r H' => r = .tup [.agg [I (deskO s self key known data).a, I (deskO s self key known data).c], I (deskO s self key known data).n, I (deskO s self key known data).e] ∧ VStep H H' p lb mi (deskO s self key known data).s := by
  obtain ⟨R, hR⟩ : ∃ R, R = deskO s self key known data := ⟨_, rfl⟩
  rw [← hR]
  obtain ⟨H1, hH1⟩ : ∃ H1, H1 = H ++ [.cells false (vecC known), .cells false [I 0, I 0]] := ⟨_, rfl⟩
  have hv1 : Vlt H1 p lb mi s v q es ck := by rw [hH1]; exact h.app
  have kp1 : Kp H H1 p lb mi := by rw [hH1]; exact .app
  have ck0 : H1[H.length]? = some (.cells false (vecC known)) := by rw [hH1]; simp
  have cr0 : H1[H.length + 1]? = some (.cells false [I 0, I 0]) := by rw [hH1]; simp
  have hst0 : ∀ (H9 : Heap) (x y : Int), H9[H.length + 1]? = some (.cells false [I 0, I 0]) → storeAt 0 H9 2 (.ptr (some (H.length + 1, 0))) (.agg [I x, I y]) = some (H9.set (H.length + 1) (.cells false [I x, I y])) := fun H9 x y hc => by
    have := store_of (lim := 0) (n := 2) (o := 0) (v := .agg [I x, I y]) hc (by omega) (by simp [AV.cells]) (by simp) (by simp [AV.cells])
    simpa [AV.cells] using this
  have np : H.length + 1 ≠ p := by have := lt_of h.box; omega
  have nl : H.length + 1 ≠ lb := by have := lt_of h.led.at'; omega
  have nm : H.length + 1 ≠ mi := by have := lt_of h.map; omega
  have ho := c52 hv1 ok self key 0 (Nat.zero_le _)
  refine cl_of e18 rfl ?_
  rw [fr_init (by simp [fd18])]
  simp [fd18, b18, ← hH1]
  refine WCl.mono ho ?_
  rintro _ _ ⟨rfl, X, rfl⟩
  have crX : (H1 ++ X)[H.length + 1]? = some (.cells false [I 0, I 0]) := get_app cr0
  by_cases he : (ownsO s self key).e = 0
  case neg =>
    have e : R = ⟨0, 0, (ownsO s self key).n, (ownsO s self key).e, s⟩ := by rw [hR]; simp [deskO, he]
    rw [e]
    simp [he, hst0 _ 0 0 crX, cells_of (List.getElem?_set_self (lt_of crX))]
    exact ((VStep.app hv1).after kp1).setF crX np nl nm (by omega)
  have hv2 := hv1.app (X := X)
  have kp2 : Kp H (H1 ++ X) p lb mi := kp1.trans .app
  have cb8 := cells_of (get_app (X := X) ck0)
  simp [he, cb8]
  refine WCl.mono (c38 hv2 ok self key known data) ?_
  rintro _ H2 ⟨rfl, hs2⟩
  obtain ⟨P, hP⟩ : ∃ P, P = putO s self key known data := ⟨_, rfl⟩
  rw [← hP] at hs2 ⊢
  have cr2 := hs2.1.2 _ _ crX np nl nm (by intro y e; cases e)
  have l2 : H.length ≤ H2.length := Nat.le_trans kp2.1 hs2.1.1
  by_cases hpe : P.e = 0
  case neg =>
    have e : R = ⟨0, 0, 0, P.e, s⟩ := by rw [hR, hP]; rw [hP] at hpe; simp [deskO, he, hpe]
    rw [e]
    have hs : P.s = s := by rw [hP] at hpe ⊢; exact put_bad hpe
    rw [hs] at hs2
    have cr3 : (H2 ++ [ABlk.cells false [I P.a, I P.c]])[H.length + 1]? = some (.cells false [I 0, I 0]) := get_app cr2
    obtain ⟨k2, v2, q2, es2, ck2, hv3⟩ := hs2
    simp [hpe, hst0 _ 0 0 cr3, cells_of (List.getElem?_set_self (lt_of cr3))]
    exact ((VStep.app hv3).after (kp2.trans k2)).setF cr3 np nl nm (by omega)
  have e : R = ⟨P.a, P.c, self, 0, { P.s with sure := P.s.ds.length }⟩ := by rw [hR, hP]; rw [hP] at hpe; simp [deskO, he, hpe]
  rw [e]
  obtain ⟨k2, v2, q2, es2, ck2, hv3⟩ := hs2
  have hv4 := hv3.app (X := [.cells false [I P.a, I P.c]])
  have cr3 : (H2 ++ [ABlk.cells false [I P.a, I P.c]])[H.length + 1]? = some (.cells false [I 0, I 0]) := get_app cr2
  have cr4 : (H2 ++ [ABlk.cells false [I P.a, I P.c]])[H2.length]? = some (.cells false [I P.a, I P.c]) := get_new
  simp [hpe]
  refine WCl.mono (c36 hv4) ?_
  rintro _ H5 ⟨hs5, n, rfl⟩
  have cr5 := hs5.1.2 _ _ cr3 np nl nm (by intro y e; cases e)
  have n2p : H2.length ≠ p := by have := lt_of hv3.box; omega
  have n2l : H2.length ≠ lb := by have := lt_of hv3.led.at'; omega
  have n2m : H2.length ≠ mi := by have := lt_of hv3.map; omega
  have cr6 := hs5.1.2 _ _ cr4 n2p n2l n2m (by intro y e; cases e)
  simp [cells_of cr6, hst0 _ P.a P.c cr5, cells_of (List.getElem?_set_self (lt_of cr5))]
  exact (hs5.after ((kp2.trans k2).trans .app)).setF cr5 np nl nm (by omega)

/-! ## The first ring -/
def firstR (n : Int) : Ring := ⟨upd zeroV n.toNat 2, ⟨0, 0, []⟩, upTo 16 (fun _ => 1), upTo 16 (fun _ => n)⟩
theorem c48 (n : Nat) (hn : n < 8) : Pu envE 48 [I n] (.tup [.agg (ringV (firstR n).status 0 0 .nilsl (firstR n).epoch (firstR n).owner), .bool true]) := by
  refine pu_is e48 rfl ?_
  have hover : ∀ {st ep ow : Nat → Int} {ver by' : Int} {q : AV} (l : List AV), l.length = 43 → setFrom l 0 (ringV st ver by' q ep ow) = ringV st ver by' q ep ow := fun l hl => setFrom_all _ _ (by rw [hl, ringV_len])
  have hnk : nodeOk (n : Int) = true := by simp [nodeOk]; omega
  have e1 : zeroV = upTo 0 (fun _ => (1 : Int)) := by funext j; simp [zeroV, upTo]
  have e2 : zeroV = upTo 0 (fun _ => (n : Int)) := by funext j; simp [zeroV, upTo]
  have h42 : n ≤ 42 := by omega
  have hs : ∀ {st ep ow : Nat → Int} {ver by' x : Int} {q : AV}, (ringV st ver by' q ep ow).set n (I x) = ringV (upd st n x) ver by' q ep ow := fun {st ep ow ver by' x q} => ringV_setS hn
  rw [fr_init (by simp [fd48])]
  simp [fd48, b48, hnk, hn, hs, h42]
  refine loop_go [0, 2, 4, 13] rfl (fun m vs H => ∃ i, m + i = 16 ∧ i ≤ 16 ∧ H = [.cells false (ringV zeroV 0 0 .nilsl zeroV zeroV), .cells false (ringV (upd zeroV n 2) 0 0 .nilsl (upTo i (fun _ => 1)) (upTo i (fun _ => (n : Int))))] ∧ vs = [I n, .ptr (some (0, 0)), .ptr (some (1, 0)), I i]) ?_ 16 ⟨0, rfl, by omega, by rw [← e1, ← e2], rfl⟩
  rintro J hJ m vs H f ⟨i, hm, hi16, rfl, rfl⟩
  by_cases hi : i < 16
  · have hi' : (i : Int) < 16 := by omega
    have hw := wrap_succ (i := i) (by omega)
    have hp := fun {st ep ow : Nat → Int} {ver by' x y : Int} {q : AV} => ringV_setP (st := st) (ver := ver) (by' := by') (r := q) (ep := ep) (ow := ow) (x := x) (y := y) hi
    have hle : 11 + (i * 2 + 2) ≤ 43 := by omega
    have hle2 : 11 + i * 2 + 2 ≤ 43 := by omega
    simp [lp48_0, hi, hi', hp, hw, hle, hle2]
    refine nxt hJ (m - 1) (by omega) ⟨i + 1, by omega, by omega, ?_, rfl⟩
    have u1 := upTo_step (i := i) (f := fun _ => (1 : Int))
    have u2 := upTo_step (i := i) (f := fun _ => (n : Int))
    rw [u1, u2]
  have hi' : ¬ (i : Int) < 16 := by omega
  obtain rfl : i = 16 := by omega
  have hown : ∀ (H : Heap), ownL (own H 10) (ringV (upd zeroV n 2) 0 0 .nilsl (upTo 16 fun _ => 1) (upTo 16 fun _ => (n : Int))) = some (ringV (upd zeroV n 2) 0 0 .nilsl (upTo 16 fun _ => 1) (upTo 16 fun _ => (n : Int)), []) := fun H => ringV_own (d := 9) rfl
  simp [lp48_0, hover, firstR, hown]
theorem k48 {n : Nat} (hn : n < 8) {H : Heap} {K : AV → Heap → Prop} : wPu envE 48 (some [I n]) H K = K (.tup [.agg (ringV (firstR n).status 0 0 .nilsl (firstR n).epoch (firstR n).owner), .bool true]) H := (wPu_eq (c48 n hn)).trans (by simp)

/-! ## Facts on deeds -/
theorem write_ok {d : Deed} {ds : List Deed} {room : Int} (hm : deedMay d = true) (hl : (ds.length : Int) < room) : writeE d ds room = 0 := by
  unfold writeE
  rw [if_pos hm, if_neg (by omega)]
theorem ringD_may {r : Ring} (h : ringMay r = true) : deedMay (ringD r) = true := by
  have e : namedD (ringD r) = ringD r := by simp [namedD, ringD]
  simp only [deedMay, e, deedSame_refl, Bool.true_and]
  simp [ringD, h]
theorem bagD_may {n : Int} {key : List UInt8} {b : Bag} (hk : keyOk key = true) (hb : bagMay b.known b.vals = true) (h0 : 0 ≤ n) (h1 : n ≤ 1000000) : deedMay (bagD n key b) = true := by
  have e : namedD (bagD n key b) = bagD n key b := by simp [namedD, bagD]
  simp only [deedMay, e, deedSame_refl, Bool.true_and]
  simp [bagD, hk, hb, withinB, h0, h1]
def setP (r : Ring) (p : Nat) (e o : Int) : Ring := { r with epoch := upd r.epoch p e, owner := upd r.owner p o }
theorem first_may : ∀ n : Nat, n < 8 → ringMay (firstR n) = true := by decide +kernel
theorem first_may0 : ∀ n : Nat, n < 8 → ∀ p, p < 16 → ringMay (setP (firstR n) p 0 0) = true := by decide +kernel
theorem first_owner : ∀ n : Nat, n < 8 → ∀ p : Nat, p < 16 → ownerF (firstR n) p = n := by decide +kernel
theorem first_owner0 : ∀ n : Nat, n < 8 → ∀ p : Nat, p < 16 → ownerF (setP (firstR n) p 0 0) p = -1 := by decide +kernel
end Go.Proofs.YtflgfiieaoeknaaGreatA

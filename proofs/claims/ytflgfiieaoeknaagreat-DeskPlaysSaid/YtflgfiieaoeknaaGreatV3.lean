/- What a vault's functions do: write, Ring, Bag, full, SetRing, Sync, Open. No statement about the program is proved here. -/
import Derived.Test.YtflgfiieaoeknaaGreatV2
namespace Go.Proofs.YtflgfiieaoeknaaGreatA
open Go
set_option linter.unusedSimpArgs false
set_option linter.unusedVariables false
set_option maxRecDepth 1000000
attribute [local simp] deed_zero ring_zero

section
variable {H H' : Heap} {p lb mi : Nat} {s : VSt} {v q : AV} {es : List (AV × AV × Nat)} {ck : Nat}
theorem Vlt.off (h : Vlt H p lb mi s v q es ck) {b : Nat} {z : ABlk} (hb : H[b]? = some z) (hz : ∀ y, z = .cells true y → isD y = false) : Off v b := by
  apply Classical.byContradiction
  intro hno
  rcases h.led.row with ⟨_, rfl⟩ | ⟨c, cs, h0, e, h2, h3, h4⟩
  · exact hno Off.nil
  · have e2 : b = c := Classical.byContradiction fun q => hno (by rw [e]; exact Off.sl (Ne.symm q))
    subst e2
    have hD := h.led.row.isD h.vn h2 hno
    rw [h2] at hb
    rw [hz cs (Option.some.inj hb).symm] at hD
    cases hD
theorem Vlt.offL (h : Vlt H p lb mi s v q es ck) {b : Nat} (k : Go.Proofs.YtflgfiieaoeknaaGreatA.offL H lb b) : Off v b := by
  obtain ⟨v', s', r', h1, h2⟩ := k
  rw [h.led.at'] at h1
  have := Option.some.inj h1
  injection this with _ e
  injection e with e _
  rw [e]
  exact h2
theorem Vlt.onL (h : Vlt H p lb mi s v q es ck) {b : Nat} (k : Off v b) : Go.Proofs.YtflgfiieaoeknaaGreatA.offL H lb b := ⟨_, _, _, h.led.at', k⟩
theorem VStep.refl (h : Vlt H p lb mi s v q es ck) : VStep H H p lb mi s := ⟨.refl, _, _, _, _, h⟩
theorem VStep.app {X : Heap} (h : Vlt H p lb mi s v q es ck) : VStep H (H ++ X) p lb mi s := ⟨.app, _, _, _, _, h.app⟩
theorem VStep.after {s1 : VSt} {H1 : Heap} (h : Kp H H1 p lb mi) (k : VStep H1 H' p lb mi s1) : VStep H H' p lb mi s1 := ⟨h.trans k.1, k.2⟩
end
def wroteS (s : VSt) (d : Deed) : VSt := if writeE d s.ds s.room = 0 then countS { s with ds := s.ds ++ [d] } d else s
theorem c58 {H : Heap} {p lb mi : Nat} {s : VSt} {v q : AV} {es : List (AV × AV × Nat)} {ck : Nat} (h : Vlt H p lb mi s v q es ck) (ok : VOk s) (d : Deed) (q1 q2 : AV) (hk : d.kind = 1 ∨ d.kind = 2 ∨ d.kind = 3) (h1 : Rd H 3 valC d.bag.vals q1) (h2 : Rd H 1 intC d.ring.plan.targets q2) (hf : deedFits d) (hkey : d.key.length < 4611686018427387904) :
    WCl envE 58 [.ptr (some (p, 0)), .agg (deedM d q1 q2)] 0 H fun r H' => r = I (writeE d s.ds s.room) ∧ VStep H H' p lb mi (wroteS s d) := by
  refine cl_of e58 rfl ?_
  have hone : (deedM d q1 q2).all AV.one = true := deedM_one h1.one h2.one
  have hlen : (deedM d q1 q2).length = 56 := deedM_len
  have htake : (deedM d q1 q2).take 56 = deedM d q1 q2 := List.take_of_length_le (by rw [deedM_len]; omega)
  obtain ⟨H1, hH1⟩ : ∃ H1, H1 = H ++ [.cells false (deedM d q1 q2)] := ⟨_, rfl⟩
  have hv1 : Vlt H1 p lb mi s v q es ck := by rw [hH1]; exact h.app
  have kp1 : Kp H H1 p lb mi := by rw [hH1]; exact .app
  have co : H1[H.length]? = some (.cells false (deedM d q1 q2)) := by rw [hH1]; simp
  have cp0 := hv1.cells0
  have r1 : Rd H1 3 valC d.bag.vals q1 := by rw [hH1]; exact h1.app
  have r2 : Rd H1 1 intC d.ring.plan.targets q2 := by rw [hH1]; exact h2.app
  have hwr := c95 hv1.led (Nat.zero_le _) ok.r0 ok.r1 ok.le d q1 q2 hf hkey (fun X => (r1.app (X := X)).frz (d := 9) valC_len val_flat) (fun X => (r2.app (X := X)).frz (d := 9) intC_len int_flat) r1.one r2.one
  rw [fr_init (by simp [fd58])]
  simp [fd58, b58, hone, hlen, htake, ← hH1, cp0, cells_of co]
  refine WCl.mono hwr ?_
  rintro _ H2 ⟨rfl, len2, keep2, hif⟩
  have kp2 : Kp H1 H2 p lb mi := ⟨len2, fun b z hb n1 n2 n3 n4 => keep2 b z hb n2 (hv1.off hb n4), fun b z hb n1 n2 n3 n4 => keep2 b z hb n2 (hv1.offL n4), fun b hb ho => by
    by_cases hz : writeE d s.ds s.room = 0
    · rw [if_pos hz] at hif
      obtain ⟨v', hL, hoff⟩ := hif
      exact ⟨_, _, _, hL.at', hoff b hb⟩
    · rw [if_neg hz] at hif
      exact ⟨_, _, _, hif.at', hv1.offL ho⟩⟩
  have co2 : H2[H.length]? = some (.cells false (deedM d q1 q2)) := keep2 _ _ co (fun e => by rw [e] at co; have := hv1.led.at'; rw [co] at this; have := congrArg (fun x => match x with | some (ABlk.cells _ l) => l.length | _ => 0) this; simp [hlen] at this) (hv1.off co (by intro y e; cases e))
  have hlt : H1.length ≤ H2.length := len2
  by_cases hz : writeE d s.ds s.room = 0
  · rw [if_pos hz] at hif
    obtain ⟨v', hL, hoff⟩ := hif
    have rows := kp2.rows hv1
    have hv2 : Vlt H2 p lb mi { s with ds := s.ds ++ [d] } v' q es ck := ⟨keep2 _ _ hv1.box hv1.plb (hv1.off hv1.box (by intro y e; cases e)), hL, hv1.tgt.keepD (isD_int _) rows, keep2 _ _ hv1.map hv1.lbmi.symm (hv1.off hv1.map (by intro y e; cases e)), hv1.ents.keep rows, by simp⟩
    have hct := c49 hv2 d q1 q2 hk (r1.keepD (isD_val _) rows) (r2.keepD (isD_int _) rows) hf (by have := ok.ringsN; have := ok.le; have := ok.r1; simp only; omega)
    simp [hlt, hz, cells_of co2, htake, hlen]
    refine WCl.mono hct ?_
    rintro r H3 h3
    simp [wroteS, hz]
    exact (h3.after kp2).after kp1
  · rw [if_neg hz] at hif
    have rows := kp2.rows hv1
    have hv2 : Vlt H2 p lb mi s v q es ck := ⟨keep2 _ _ hv1.box hv1.plb (hv1.off hv1.box (by intro y e; cases e)), hif, hv1.tgt.keepD (isD_int _) rows, keep2 _ _ hv1.map hv1.lbmi.symm (hv1.off hv1.map (by intro y e; cases e)), hv1.ents.keep rows, hv1.vn⟩
    simp [hlt, hz, wroteS]
    exact ⟨kp1.trans kp2, _, _, _, _, hv2⟩
theorem c93 {H : Heap} {p lb mi : Nat} {s : VSt} {v q : AV} {es : List (AV × AV × Nat)} {ck : Nat} (h : Vlt H p lb mi s v q es ck) (ok : VOk s) (lim : Nat) (hlim : lim ≤ H.length) :
    WCl envE 93 [.ptr (some (p, 0))] lim H fun r H' => ∃ X, H' = H ++ X ∧ ((s.rings = 0 ∧ r = .tup [.agg (ringV zeroV 0 0 .nilsl zeroV zeroV), .bool false]) ∨ (s.rings ≠ 0 ∧ ∃ q', r = .tup [.agg (ringV s.ring.status s.ring.plan.version s.ring.plan.by' q' s.ring.epoch s.ring.owner), .bool true] ∧ Row H.length (H ++ X) 1 intC s.ring.plan.targets q')) := by
  refine cl_of e93 rfl ?_
  have cp := h.cells
  have hover : ∀ {st ep ow : Nat → Int} {ver by' : Int} {q : AV} (l : List AV), l.length = 43 → setFrom l 0 (ringV st ver by' q ep ow) = ringV st ver by' q ep ow := fun l hl => setFrom_all _ _ (by rw [hl, ringV_len])
  by_cases hr : s.rings = 0
  · rw [fr_init (by simp [fd93])]
    simp [fd93, b93, cp, hr, hlim, hover]
  · obtain ⟨v1, X1, t1, r1⟩ := thaw_owL (H := H ++ [.cells false (ringV zeroV 0 0 .nilsl zeroV zeroV)]) (lim := (H ++ [ABlk.cells false (ringV zeroV 0 0 .nilsl zeroV zeroV)]).length) (es := 1) int_still (Nat.le_refl _) s.ring.plan.targets
    have hkj := fun H K => k74s (r := s.ring) (H := H) (K := K) ok.rfit
    have fq : ∀ X, frz (H ++ X) 11 q = some (roL intC s.ring.plan.targets) := fun X => (h.tgt.app (X := X)).frz (d := 9) intC_len int_flat
    have hlim1 : lim ≤ H.length + 1 := by omega
    have hr' : ¬ (s.rings : Int) = 0 := by omega
    have o1 := r1.one
    simp only [List.append_assoc, List.cons_append, List.nil_append] at t1
    rw [fr_init (by simp [fd93])]
    simp [fd93, b93, cp, hr, hr', hlim, hlim1, fq, hkj, t1, hover, o1]
    have r2 := r1.set (b := H.length) (z := .cells false (ringV s.ring.status s.ring.plan.version s.ring.plan.by' v1 s.ring.epoch s.ring.owner)) (r1.off (by simp))
    have r3 := r2.mono (lim' := H.length) (by simp)
    simp at r3
    exact ⟨v1, rfl, r3⟩
/-- What a key's bag is. -/
def bagOf (s : VSt) (key : List UInt8) : Bag := (lookB s.bags key).getD zBagS
theorem bag_fit {s : VSt} (ok : VOk s) {key : List UInt8} : (bagOf s key).vals.length * 32 ≤ reachBytes := by
  unfold bagOf
  cases h : lookB s.bags key with
  | none => exact Nat.zero_le _
  | some b => exact ok.bfit _ _ h
/-- What the map says. -/
theorem Vlt.look {H : Heap} {p lb mi : Nat} {s : VSt} {v q : AV} {es : List (AV × AV × Nat)} {ck : Nat} (h : Vlt H p lb mi s v q es ck) (key : List UInt8) : ∃ x r, findKey .s (.str key) es 0 = some x ∧ (match x with | some (_, v) => v | none => .agg (bagV zeroV .nilsl)) = .agg (bagV (bagOf s key).known r) ∧ x.isSome = (lookB s.bags key).isSome ∧ Row 0 H 3 valC (bagOf s key).vals r := by
  rcases h.ents.find (key := key) 0 with ⟨g1, g2⟩ | ⟨j, r, b, g1, g2, g3⟩
  · refine ⟨none, .nilsl, g2, ?_, by rw [g1]; rfl, ?_⟩
    · simp [bagOf, g1, zBagS]
    · simp only [bagOf, g1, Option.getD_none]
      exact .nil
  · refine ⟨some (j, .agg (bagV b.known r)), r, g2, ?_, by rw [g1]; rfl, ?_⟩
    · simp [bagOf, g1]
    · simp only [bagOf, g1, Option.getD_some]
      exact g3
theorem c32 {H : Heap} {p lb mi : Nat} {s : VSt} {v q : AV} {es : List (AV × AV × Nat)} {ck : Nat} (h : Vlt H p lb mi s v q es ck) (ok : VOk s) (key : List UInt8) (lim : Nat) (hlim : lim ≤ H.length) :
    WCl envE 32 [.ptr (some (p, 0)), .str key] lim H fun r H' => ∃ X q', H' = H ++ X ∧ r = .agg (bagV (bagOf s key).known q') ∧ Row H.length (H ++ X) 3 valC (bagOf s key).vals q' := by
  refine cl_of e32 rfl ?_
  have cp := h.cells
  obtain ⟨x, r, g1, g2, g3, g4⟩ := h.look key
  have hm := h.mapZ
  obtain ⟨v1, X1, t1, r1⟩ := thaw_owL (H := H ++ [.cells false (bagV zeroV .nilsl)]) (lim := (H ++ [ABlk.cells false (bagV zeroV .nilsl)]).length) (es := 3) val_still (Nat.le_refl _) (bagOf s key).vals
  have fq : ∀ X, frz (H ++ X) 11 r = some (roL valC (bagOf s key).vals) := fun X => (g4.app (X := X)).frz (d := 9) valC_len val_flat
  have hkj := fun H K => k75 (k := (bagOf s key).known) (l := (bagOf s key).vals) (H := H) (K := K) (bag_fit ok)
  have o1 := r1.one
  simp only [List.append_assoc, List.cons_append, List.nil_append] at t1
  have r2 := r1.set (b := H.length) (z := .cells false (bagV (bagOf s key).known v1)) (r1.off (by simp))
  have r3 := r2.mono (lim' := H.length) (by simp)
  simp at r3
  rw [fr_init (by simp [fd32])]
  cases x with
  | none =>
    simp only at g2
    simp [fd32, b32, bagV_zero, cp, hm, g1, g2, isKey, fq, hkj, t1, o1, hlim]
    exact ⟨v1, rfl, r3⟩
  | some y =>
    obtain ⟨j, w⟩ := y
    simp only at g2
    subst g2
    simp [fd32, b32, bagV_zero, cp, hm, g1, isKey, fq, hkj, t1, o1, hlim]
    exact ⟨v1, rfl, r3⟩
def fullS (s : VSt) (key : List UInt8) : Bool := !(lookB s.bags key).isSome && decide (200 ≤ s.bags.length)
theorem c68 {H : Heap} {p lb mi : Nat} {s : VSt} {v q : AV} {es : List (AV × AV × Nat)} {ck : Nat} (h : Vlt H p lb mi s v q es ck) (key : List UInt8) (lim : Nat) (hlim : lim ≤ H.length) :
    WCl envE 68 [.ptr (some (p, 0)), .str key] lim H fun r H' => r = .bool (fullS s key) ∧ ∃ X, H' = H ++ X := by
  refine cl_of e68 rfl ?_
  have cp := h.cells
  have cp0 := h.cells0
  have hm0 := h.map
  obtain ⟨x, r, g1, g2, g3, g4⟩ := h.look key
  have hm := h.mapZ
  have o1 := g4.one
  have hl := h.ents.len
  rw [fr_init (by simp [fd68])]
  cases x with
  | none =>
    simp only at g2
    have g3' : (lookB s.bags key).isSome = false := by rw [← g3]; rfl
    have el : (200 ≤ (s.bags.length : Int)) = (200 ≤ s.bags.length) := by apply propext; omega
    simp [fd68, b68, bagV_zero, cp, cp0, hm, hm0, g1, g2, isKey, o1, hlim, hl, fullS, g3', el]
  | some y =>
    obtain ⟨j, w⟩ := y
    simp only at g2
    subst g2
    have g3' : (lookB s.bags key).isSome = true := by rw [← g3]; rfl
    simp [fd68, b68, bagV_zero, cp, cp0, hm, hm0, g1, isKey, o1, hlim, hl, fullS, g3']
theorem c36 {H : Heap} {p lb mi : Nat} {s : VSt} {v q : AV} {es : List (AV × AV × Nat)} {ck : Nat} (h : Vlt H p lb mi s v q es ck) :
    WCl envE 36 [.ptr (some (p, 0))] 0 H fun r H' => VStep H H' p lb mi { s with sure := s.ds.length } ∧ ∃ n, r = I n := by
  refine cl_of e36 rfl ?_
  have cp0 := h.cells0
  have hs : ∀ K, WCl envE 76 [.ptr (some (lb, 0))] 0 H K = K (I (IntKind.i64.wrap ((s.ds.length : Int) - (s.sure : Nat)))) (H.set lb (.cells false [v, I s.ds.length, I s.room])) := fun K => WCl_eq (c76 h.led.at' h.led.row.len)
  rw [fr_init (by simp [fd36])]
  simp [fd36, b36, cp0, hs]
  refine ⟨⟨by simp, fun b z hb n1 n2 n3 n4 => get_set hb (Ne.symm n2), fun b z hb n1 n2 n3 n4 => get_set hb (Ne.symm n2), fun b hb ho => ⟨_, _, _, List.getElem?_set_self (lt_of h.led.at'), h.offL ho⟩⟩, v, q, es, ck, get_set h.box (Ne.symm h.plb), ?_, h.tgt.set (off_falseR h.tgt h.led.at'), get_set h.map h.lbmi, h.ents.keep fun b y hb _ => get_set hb (fun e => by subst e; rw [h.led.at'] at hb; cases hb), h.vn⟩
  exact ⟨by rw [List.getElem?_set_self (lt_of h.led.at')], h.led.row.setF h.led.at', h.led.few⟩
def ringD (r : Ring) : Deed := ⟨2, 0, [], zBagS, r, 0⟩
theorem c16 {H : Heap} {p lb mi : Nat} {s : VSt} {v q : AV} {es : List (AV × AV × Nat)} {ck : Nat} (h : Vlt H p lb mi s v q es ck) (ok : VOk s) (r : Ring) (q2 : AV) (h2 : Rd H 1 intC r.plan.targets q2) (hf : r.plan.targets.length * 8 ≤ reachBytes) :
    WCl envE 16 [.ptr (some (p, 0)), .agg (ringV r.status r.plan.version r.plan.by' q2 r.epoch r.owner)] 0 H fun x H' => x = I (writeE (ringD r) s.ds s.room) ∧ VStep H H' p lb mi (wroteS s (ringD r)) := by
  refine cl_of e16 rfl ?_
  have o2 := h2.one
  have hd : deedV 2 0 [] zeroV .nilsl r.status r.plan.version r.plan.by' q2 r.epoch r.owner 0 = deedM (ringD r) .nilsl q2 := rfl
  have hw := c58 (h.app (X := [.cells false (ringV r.status r.plan.version r.plan.by' q2 r.epoch r.owner)])) ok (ringD r) .nilsl q2 (.inr (.inl rfl)) (.inl .nil) h2.app ⟨Nat.zero_le _, hf⟩ (by simp [ringD])
  rw [← hd] at hw
  rw [fr_init (by simp [fd16])]
  simp [fd16, b16, o2]
  refine WCl.mono hw ?_
  rintro x H' ⟨rfl, hs⟩
  simp
  exact hs.after .app
end Go.Proofs.YtflgfiieaoeknaaGreatA

/- What is taken. No statement about the program is proved here. -/
import Derived.Test.YtflgfiieaoeknaaGreatT1
import Derived.Test.YtflgfiieaoeknaaGreatV7
namespace Go.Proofs.YtflgfiieaoeknaaGreatA
open Go Go.RowKit
set_option linter.unusedVariables false
set_option linter.unusedSimpArgs false
set_option maxRecDepth 1000000
attribute [local simp] deed_zero ring_zero msg_zero

@[simp] theorem nextH_some {B : List Nat} {v : AV} {H1 H : Heap} {T : Tmps} {dst : Option Nat} {next : Tmps → Heap → Prop} : nextH B (some (v, H1)) T H dst next = (H.length ≤ H1.length ∧ next (putT T dst v) (unhide B H H1)) := by rw [nextH]
section
variable {kd fr to sq fo ab pa ep x : Int} {key : List UInt8} {k k' st pe po : Nat → Int} {q r c q' r' c' : AV} {ver by' : Int} {H : Heap} {d : Nat}
@[simp] theorem mV_s0 : (mV kd fr to sq fo ab pa ep key k q st ver by' r pe po c).set 0 (I x) = mV x fr to sq fo ab pa ep key k q st ver by' r pe po c := hard rfl
@[simp] theorem mV_s1 : (mV kd fr to sq fo ab pa ep key k q st ver by' r pe po c).set 1 (I x) = mV kd x to sq fo ab pa ep key k q st ver by' r pe po c := hard rfl
@[simp] theorem mV_s2 : (mV kd fr to sq fo ab pa ep key k q st ver by' r pe po c).set 2 (I x) = mV kd fr x sq fo ab pa ep key k q st ver by' r pe po c := hard rfl
@[simp] theorem mV_s6 : (mV kd fr to sq fo ab pa ep key k q st ver by' r pe po c).set 6 (I x) = mV kd fr to sq fo ab x ep key k q st ver by' r pe po c := hard rfl
@[simp] theorem mV_s7 : (mV kd fr to sq fo ab pa ep key k q st ver by' r pe po c).set 7 (I x) = mV kd fr to sq fo ab pa x key k q st ver by' r pe po c := hard rfl
theorem mV_own0 : ownL (own H (d + 1)) (mV kd fr to sq fo ab pa ep key k .nilsl st ver by' .nilsl pe po .nilsl) = some (mV kd fr to sq fo ab pa ep key k .nilsl st ver by' .nilsl pe po .nilsl, []) :=
  ownL_app2 (a := msgH kd fr to sq fo ab pa ep key) (a' := msgH kd fr to sq fo ab pa ep key) (u := []) (by simp [msgH]) (ownL_app2 (a := bagV k .nilsl) (a' := bagV k .nilsl) (u := []) (by simp) (ownL_app2 (ringV_own (u := []) rfl) (b := [.nilsl]) (b' := [.nilsl]) (w := []) (by simp)))
@[simp] theorem mV_thaws0 : thaws (mV kd fr to sq fo ab pa ep key k .nilsl st ver by' .nilsl pe po .nilsl) H = (mV kd fr to sq fo ab pa ep key k .nilsl st ver by' .nilsl pe po .nilsl, H) := by
  unfold mV msgV msgH
  simp [thaws_app2]
end
/-- The message that is taken, or not. -/
def gM (kd fr p ep : Int) (key : List UInt8) (b : Bag) : Msg := ⟨kd, fr, 7, 1, 0, 0, p, ep, key, b, zRingS, []⟩
abbrev gQ (kd fr p ep : Int) (key : List UInt8) (k : Nat → Int) (q : AV) : List AV := mV kd fr 7 1 0 0 p ep key k q zeroV 0 0 .nilsl zeroV zeroV .nilsl
abbrev gF (kd fr p ep : Int) (key : List UInt8) (b : Bag) : List AV := mV kd fr 7 1 0 0 p ep key b.known (roL valC b.vals) zeroV 0 0 (.ro 0 []) zeroV zeroV (.ro 0 [])
theorem gQ_frz {H : Heap} {kd fr p ep : Int} {key : List UInt8} {b : Bag} {q : AV} (h : frz H 11 q = some (roL valC b.vals)) : mapO (frz H 11) (gQ kd fr p ep key b.known q) = some (gF kd fr p ep key b) := mV_frz (d := 10) h rfl rfl
theorem k65g {kd fr p ep : Int} {key : List UInt8} {b : Bag} (hf : msgNode fr = true) (hp : partOk p = true) {H : Heap} {K : AV → Heap → Prop} : wPu envE 70 (some [.agg (gF kd fr p ep key b)]) H K = K (.bool true) H := by
  have e : msgPlaced (gM kd fr p ep key b) = true := by have h7' : msgNode 7 = true := rfl; simp [msgPlaced, gM, hf, hp, h7']
  have := k70 (m := gM kd fr p ep key b) (H := H) (K := K)
  rw [e] at this
  exact this
def mayE (m : Msg) (r : Ring) : Bool := decide (r.epoch m.part.toNat < m.epoch) || (decide (m.epoch = r.epoch m.part.toNat) && decide (ownerF r m.part = m.from'))
theorem c114 (m : Msg) (r : Ring) (hk : m.kind = 5 ∨ m.kind = 7) (hp : msgPlaced m = true) (hft : m.from' ≠ m.to) (hr : ringMay r = true) (hl : r.plan.targets.length < 4611686018427387904) : Pu envE 114 [.agg (msgC m), .agg (ringC r)] (.bool (mayE m r)) := by
  refine pu_is e114 rfl ?_
  have hpo : partOk m.part = true := by
    simp [msgPlaced] at hp
    exact hp.2.2
  have hp' : 0 ≤ m.part ∧ m.part < 16 := by simpa [partOk] using hpo
  obtain ⟨i, hpi⟩ : ∃ i : Nat, m.part = i := ⟨m.part.toNat, by omega⟩
  have hi : i < 16 := by omega
  have hr' : ringMay ⟨r.status, ⟨r.plan.version, r.plan.by', r.plan.targets⟩, r.epoch, r.owner⟩ = true := hr
  have c3 := fun {st ep ow : Nat → Int} {ver by' : Int} {q : AV} => ringV_part (st := st) (ver := ver) (by' := by') (r := q) (ep := ep) (ow := ow) hi
  have d3 : ∀ {st ep ow : Nat → Int} {ver by' : Int} {q : AV}, ((ringV st ver by' q ep ow).drop (11 + i * 2)).take 2 = [I (ep i), I (ow i)] := fun {st ep ow ver by' q} => by
    have := c3 (st := st) (ep := ep) (ow := ow) (ver := ver) (by' := by') (q := q)
    rw [cut_at (by rw [ringV_len]; omega)] at this
    exact Option.some.inj this
  have l2 : 11 + (i * 2 + 2) ≤ 43 := by omega
  have kp := fun kd H K => k65' (kd := kd) (m := m) (H := H) (K := K)
  rw [hpi] at kp
  have fm := fun kd H => msg_roframe kd m H
  rw [hpi] at fm
  have ko := fun H K => k94 (r := r) (p := m.part) (H := H) (K := K)
  rw [hpi] at ko
  have km := fun H K => k142 (st := r.status) (v := r.plan.version) (b := r.plan.by') (t := r.plan.targets) (ep := r.epoch) (ow := r.owner) hl (H := H) (K := K)
  obtain ⟨o, ho⟩ : ∃ o, o = ownerF r m.part := ⟨_, rfl⟩
  have hM : mayE m r = (decide (r.epoch i < m.epoch) || (decide (m.epoch = r.epoch i) && decide (o = m.from'))) := by rw [ho]; simp [mayE, hpi]
  rw [hM]
  rw [hpi] at ho
  rw [← ho] at ko
  by_cases a1 : r.epoch i < m.epoch
  · rcases hk with hk | hk <;> rw [fr_init (by simp [fd114])] <;> simp [fd114, b114, hk, hpi, fm, kp, hp, hft, km, hr', hi, c3, d3, l2, a1]
  by_cases a2 : m.epoch = r.epoch i
  · have a2b : (m.epoch == r.epoch i) = true := beq_iff_eq.2 a2
    by_cases a3 : o = m.from'
    · rcases hk with hk | hk <;> rw [fr_init (by simp [fd114])] <;> simp [fd114, b114, hk, hpi, fm, kp, hp, hft, km, hr', hi, c3, d3, l2, a1, eq_true a2, a2b, a3, ko]
    · rcases hk with hk | hk <;> rw [fr_init (by simp [fd114])] <;> simp [fd114, b114, hk, hpi, fm, kp, hp, hft, km, hr', hi, c3, d3, l2, a1, eq_true a2, a2b, a3, ko]
  · rcases hk with hk | hk <;> rw [fr_init (by simp [fd114])] <;> simp [fd114, b114, hk, hpi, fm, kp, hp, hft, km, hr', hi, c3, d3, l2, a1, a2]
theorem k91g {kd fr p ep : Int} {key : List UInt8} {b : Bag} {r : Ring} (hk : kd = 5 ∨ kd = 7) (hf : msgNode fr = true) (hp : partOk p = true) (h7 : fr ≠ 7) (hr : ringMay r = true) (hl : r.plan.targets.length < 4611686018427387904) {H : Heap} {K : AV → Heap → Prop} :
    wPu envE 114 (some [.agg (gF kd fr p ep key b), .agg (ringV r.status r.plan.version r.plan.by' (roL intC r.plan.targets) r.epoch r.owner)]) H K = K (.bool (mayE (gM kd fr p ep key b) r)) H := by
  have e : msgPlaced (gM kd fr p ep key b) = true := by have h7' : msgNode 7 = true := rfl; simp [msgPlaced, gM, hf, hp, h7']
  have := c114 (gM kd fr p ep key b) r hk e h7 hr hl
  exact (wPu_eq this).trans (by simp)
theorem c72 (kd fr p ep : Int) (key : List UInt8) (b : Bag) (kk : Int) : Pu envE 72 [.agg (gF kd fr p ep key b), I kk] (.agg (mV kk 7 fr 0 0 0 p ep [] zeroV .nilsl zeroV 0 0 .nilsl zeroV zeroV .nilsl)) := by
  refine pu_is e72 rfl ?_
  rw [fr_init (by simp [fd72])]
  simp [fd72, b72, mV_own0]
theorem k72 {kd fr p ep : Int} {key : List UInt8} {b : Bag} {kk : Int} {H : Heap} {K : AV → Heap → Prop} : wPu envE 72 (some [.agg (gF kd fr p ep key b), I kk]) H K = K (.agg (mV kk 7 fr 0 0 0 p ep [] zeroV .nilsl zeroV 0 0 .nilsl zeroV zeroV .nilsl)) H := (wPu_eq (c72 kd fr p ep key b kk)).trans (by simp)
/-- What a taker's vault must be. -/
structure TkOk (s : VSt) (kd fr p : Int) : Prop where
  hkd : kd = 5 ∨ kd = 7
  hfr : msgNode fr = true
  hp : partOk p = true
  hf7 : fr ≠ 7
  hrings : s.rings ≠ 0
  hmay : ringMay s.ring = true
theorem c66r {H : Heap} {p0 lb mi : Nat} {s : VSt} {v q : AV} {es : List (AV × AV × Nat)} {ck : Nat} (h : Vlt H p0 lb mi s v q es ck) (ok : VOk s) {b : Bag} {qb : AV} (hb : Rd H 3 valC b.vals qb) {kd fr p ep : Int} {key : List UInt8} (t : TkOk s kd fr p) (lim : Nat) (hlim : lim ≤ H.length) :
    WCl envE 71 [.agg (gQ kd fr p ep key b.known qb), .ptr (some (p0, 0))] lim H fun r H' => (∃ X, H' = H ++ X) ∧ r = I (if mayE (gM kd fr p ep key b) s.ring = true then 0 else 11) := by
  have hrb : reachBytes = 140737488351232 := rfl
  have hover : ∀ {st ep ow : Nat → Int} {ver by' : Int} {q : AV} (l : List AV), l.length = 43 → setFrom l 0 (ringV st ver by' q ep ow) = ringV st ver by' q ep ow := fun l hl => setFrom_all _ _ (by rw [hl, ringV_len])
  obtain ⟨H1, hH1⟩ : ∃ H1, H1 = H ++ [ABlk.cells false (gQ kd fr p ep key b.known qb)] := ⟨_, rfl⟩
  have hv1 : Vlt H1 p0 lb mi s v q es ck := by rw [hH1]; exact h.app
  have hl1 : lim ≤ H1.length := by rw [hH1]; simp; omega
  have cb : ∀ Z, Heap.cells? (H1 ++ Z) H.length = some (gQ kd fr p ep key b.known qb) := fun Z => by rw [hH1]; simp
  have fb : ∀ X, frz (H1 ++ X) 11 qb = some (roL valC b.vals) := fun X => by rw [hH1]; exact (hb.app.app (X := X)).frz (d := 9) valC_len val_flat
  have fm := fun X => gQ_frz (kd := kd) (fr := fr) (p := p) (ep := ep) (key := key) (b := b) (fb X)
  have o0 := hb.one
  refine cl_of e71 rfl ?_
  rw [fr_init (by simp [fd71])]
  simp [fd71, b71, o0, ← hH1]
  refine WCl.mono (c93 hv1 ok lim hl1) ?_
  rintro _ _ ⟨X, rfl, ⟨h0, _⟩ | ⟨_, q', rfl, hq⟩⟩
  · exact absurd h0 t.hrings
  have o1 := hq.one
  have fq : ∀ Z, frz (H1 ++ (X ++ Z)) 11 q' = some (roL intC s.ring.plan.targets) := fun Z => by rw [← List.append_assoc]; exact (hq.app (X := Z)).frz (d := 9) intC_len int_flat
  have htl : s.ring.plan.targets.length < 4611686018427387904 := by have := ok.rfit; omega
  have km := fun H K => k91g (kd := kd) (fr := fr) (p := p) (ep := ep) (key := key) (b := b) (r := s.ring) t.hkd t.hfr t.hp t.hf7 t.hmay htl (H := H) (K := K)
  have hlx : lim ≤ H1.length + X.length := by omega
  cases hM : mayE (gM kd fr p ep key b) s.ring
  · simp [hl1, hlx, hover, o1, cb, fq, fm, km, hM]
    exact ⟨_, by rw [hH1]; simp only [List.append_assoc]; rfl⟩
  · simp [hl1, hlx, hover, o1, cb, fq, fm, km, hM]
    exact ⟨_, by rw [hH1]; simp only [List.append_assoc]; rfl⟩
end Go.Proofs.YtflgfiieaoeknaaGreatA

/- A message; who takes nothing. No statement about the program is proved here. -/
import Derived.Test.YtflgfiieaoeknaaGreatV6
namespace Go.Proofs.YtflgfiieaoeknaaGreatA
open Go Go.RowKit
set_option linter.unusedVariables false
set_option linter.unusedSimpArgs false
set_option maxRecDepth 1000000
attribute [local simp] deed_zero ring_zero

structure Claim where
  node : Int
  inc : Int
  health : Int
structure Msg where
  kind : Int
  from' : Int
  to : Int
  seq : Int
  for' : Int
  about : Int
  part : Int
  epoch : Int
  key : List UInt8
  bag : Bag
  ring : Ring
  claims : List Claim
def claimC (c : Claim) : List AV := [I c.node, I c.inc, I c.health]
theorem claimC_len (c : Claim) : (claimC c).length = 3 := hard rfl
def msgH (kd fr to sq fo ab pa ep : Int) (key : List UInt8) : List AV := [I kd, I fr, I to, I sq, I fo, I ab, I pa, I ep, .str key]
def msgV (kd fr to sq fo ab pa ep : Int) (key : List UInt8) (b r : List AV) (c : AV) : List AV := msgH kd fr to sq fo ab pa ep key ++ (b ++ (r ++ [c]))
def msgC (m : Msg) : List AV := msgV m.kind m.from' m.to m.seq m.for' m.about m.part m.epoch m.key (bagC m.bag) (ringC m.ring) (roL claimC m.claims)
theorem setFrom_two {l a b : List AV} (h : l.length = a.length + b.length) : setFrom (setFrom l 0 a) a.length b = a ++ b := by
  apply List.ext_getElem?
  intro j
  rw [setFrom_get _ _ _ _ (by rw [setFrom_len]; omega)]
  by_cases h1 : a.length ≤ j ∧ j < a.length + b.length
  · rw [if_pos h1, List.getElem?_append_right h1.1]
  · rw [if_neg h1, setFrom_get _ _ _ _ (by omega)]
    by_cases h2 : j < a.length
    · rw [if_pos (by omega), List.getElem?_append_left h2, Nat.sub_zero]
    · rw [if_neg (by omega), List.getElem?_eq_none (by omega), List.getElem?_eq_none (by simp; omega)]
section
variable {kd fr to sq fo ab pa ep : Int} {key : List UInt8} {k k' st pe po : Nat → Int} {q r c q2 r2 c2 q' r' c' : AV} {ver by' : Int} {H : Heap} {d : Nat}
abbrev mV (kd fr to sq fo ab pa ep : Int) (key : List UInt8) (k : Nat → Int) (q : AV) (st : Nat → Int) (ver by' : Int) (r : AV) (pe po : Nat → Int) (c : AV) : List AV := msgV kd fr to sq fo ab pa ep key (bagV k q) (ringV st ver by' r pe po) c
@[simp] theorem msgC_eq (m : Msg) : msgC m = msgV m.kind m.from' m.to m.seq m.for' m.about m.part m.epoch m.key (bagV m.bag.known (roL valC m.bag.vals)) (ringV m.ring.status m.ring.plan.version m.ring.plan.by' (roL intC m.ring.plan.targets) m.ring.epoch m.ring.owner) (roL claimC m.claims) := hard rfl
@[simp] theorem mV_len : (mV kd fr to sq fo ab pa ep key k q st ver by' r pe po c).length = 62 := hard rfl
@[simp] theorem mV_one : (mV kd fr to sq fo ab pa ep key k q st ver by' r pe po c).all AV.one = (AV.one q && (AV.one r && AV.one c)) := by
  unfold mV msgV msgH
  rw [List.all_append, List.all_append, List.all_append, bagV_one, ringV_one]
  simp
@[simp] theorem mV_take : (mV kd fr to sq fo ab pa ep key k q st ver by' r pe po c).take 62 = mV kd fr to sq fo ab pa ep key k q st ver by' r pe po c := hard rfl
@[simp] theorem mV_f0 : (mV kd fr to sq fo ab pa ep key k q st ver by' r pe po c).take 1 = [I kd] := hard rfl
@[simp] theorem mV_t1 : ((mV kd fr to sq fo ab pa ep key k q st ver by' r pe po c).tail).take 1 = [I fr] := hard rfl
@[simp] theorem mV_over {l : List AV} (h : l.length = 62) : setFrom l 0 (mV kd fr to sq fo ab pa ep key k q st ver by' r pe po c) = mV kd fr to sq fo ab pa ep key k q st ver by' r pe po c := setFrom_all _ _ (by rw [h, mV_len])
@[simp] theorem mV_f1 : ((mV kd fr to sq fo ab pa ep key k q st ver by' r pe po c).drop 1).take 1 = [I fr] := hard rfl
@[simp] theorem mV_f2 : ((mV kd fr to sq fo ab pa ep key k q st ver by' r pe po c).drop 2).take 1 = [I to] := hard rfl
@[simp] theorem mV_f3 : ((mV kd fr to sq fo ab pa ep key k q st ver by' r pe po c).drop 3).take 1 = [I sq] := hard rfl
@[simp] theorem mV_f4 : ((mV kd fr to sq fo ab pa ep key k q st ver by' r pe po c).drop 4).take 1 = [I fo] := hard rfl
@[simp] theorem mV_f5 : ((mV kd fr to sq fo ab pa ep key k q st ver by' r pe po c).drop 5).take 1 = [I ab] := hard rfl
@[simp] theorem mV_f6 : ((mV kd fr to sq fo ab pa ep key k q st ver by' r pe po c).drop 6).take 1 = [I pa] := hard rfl
@[simp] theorem mV_f7 : ((mV kd fr to sq fo ab pa ep key k q st ver by' r pe po c).drop 7).take 1 = [I ep] := hard rfl
@[simp] theorem mV_f8 : ((mV kd fr to sq fo ab pa ep key k q st ver by' r pe po c).drop 8).take 1 = [.str key] := hard rfl
@[simp] theorem mV_f9 : ((mV kd fr to sq fo ab pa ep key k q st ver by' r pe po c).drop 9).take 9 = bagV k q := hard rfl
@[simp] theorem mV_f17 : ((mV kd fr to sq fo ab pa ep key k q st ver by' r pe po c).drop 17).take 1 = [q] := hard rfl
@[simp] theorem mV_f18 : ((mV kd fr to sq fo ab pa ep key k q st ver by' r pe po c).drop 18).take 43 = ringV st ver by' r pe po := hard rfl
@[simp] theorem mV_f28 : ((mV kd fr to sq fo ab pa ep key k q st ver by' r pe po c).drop 28).take 1 = [r] := hard rfl
@[simp] theorem mV_f61 : ((mV kd fr to sq fo ab pa ep key k q st ver by' r pe po c).drop 61).take 1 = [c] := hard rfl
@[simp] theorem mV_s3 {x : Int} : (mV kd fr to sq fo ab pa ep key k q st ver by' r pe po c).set 3 (I x) = mV kd fr to x fo ab pa ep key k q st ver by' r pe po c := hard rfl
@[simp] theorem mV_s8 {x : List UInt8} : (mV kd fr to sq fo ab pa ep key k q st ver by' r pe po c).set 8 (.str x) = mV kd fr to sq fo ab pa ep x k q st ver by' r pe po c := hard rfl
@[simp] theorem mV_s17 : (mV kd fr to sq fo ab pa ep key k q st ver by' r pe po c).set 17 q' = mV kd fr to sq fo ab pa ep key k q' st ver by' r pe po c := hard rfl
@[simp] theorem mV_s9 : setFrom (mV kd fr to sq fo ab pa ep key k q st ver by' r pe po c) 9 (bagV k' q') = mV kd fr to sq fo ab pa ep key k' q' st ver by' r pe po c := hard rfl
theorem mV_frz {q2 r2 c2 : AV} (h1 : frz H (d + 1) q = some q2) (h2 : frz H (d + 1) r = some r2) (h3 : frz H (d + 1) c = some c2) : mapO (frz H (d + 1)) (mV kd fr to sq fo ab pa ep key k q st ver by' r pe po c) = some (mV kd fr to sq fo ab pa ep key k q2 st ver by' r2 pe po c2) :=
  mapO_app (a := msgH kd fr to sq fo ab pa ep key) (by simp [msgH]) (mapO_app (by simp [h1]) (mapO_app (by simp [h2]) (by simp [h3])))
end
theorem msg_zero {q r c : AV} : [I 0, I 0, I 0, I 0, I 0, I 0, I 0, I 0, .str [], I 0, I 0, I 0, I 0, I 0, I 0, I 0, I 0, q, I 0, I 0, I 0, I 0, I 0, I 0, I 0, I 0, I 0, I 0, r, I 0, I 0, I 0, I 0, I 0, I 0, I 0, I 0, I 0, I 0, I 0, I 0, I 0, I 0, I 0, I 0, I 0, I 0, I 0, I 0, I 0, I 0, I 0, I 0, I 0, I 0, I 0, I 0, I 0, I 0, I 0, I 0, c] = mV 0 0 0 0 0 0 0 0 [] zeroV q zeroV 0 0 r zeroV zeroV c := hard rfl

/-! ## What fits -/
def shClaim : Sh := .cat [iS, iS, iS]
def shMsg : Sh := .cat [iS, iS, iS, iS, iS, iS, iS, iS, (1, .str), (9, shBag), (43, shRing), (1, .sl 3 24 shClaim)]
theorem of_claim {xs : List AV} (h : Fits shClaim xs) : ∃ c, xs = claimC c := by
  obtain ⟨a, r1, rfl, h1⟩ := of_cat_int h
  obtain ⟨b, r2, rfl, h2⟩ := of_cat_int h1
  obtain ⟨c, r3, rfl, h3⟩ := of_cat_int h2
  have := fits_nil h3; subst this
  exact ⟨⟨a, b, c⟩, rfl⟩
theorem of_msg {xs : List AV} (h : Fits shMsg xs) : ∃ m, xs = msgC m ∧ m.key.length ≤ reachBytes ∧ m.bag.vals.length * 32 ≤ reachBytes ∧ m.ring.plan.targets.length * 8 ≤ reachBytes ∧ m.claims.length * 24 ≤ reachBytes := by
  obtain ⟨a0, r1, rfl, k1⟩ := of_cat_int h
  obtain ⟨a1, r2, rfl, k2⟩ := of_cat_int k1
  obtain ⟨a2, r3, rfl, k3⟩ := of_cat_int k2
  obtain ⟨a3, r4, rfl, k4⟩ := of_cat_int k3
  obtain ⟨a4, r5, rfl, k5⟩ := of_cat_int k4
  obtain ⟨a5, r6, rfl, k6⟩ := of_cat_int k5
  obtain ⟨a6, r7, rfl, k7⟩ := of_cat_int k6
  obtain ⟨a7, r8, rfl, k8⟩ := of_cat_int k7
  obtain ⟨r, rest, rfl, _, h1, h2⟩ := fits_cons k8
  obtain ⟨s, rfl, h0⟩ := fits_str h1
  obtain ⟨r, rest, rfl, _, h3, h4⟩ := fits_cons h2
  obtain ⟨bg, rfl, _, h5⟩ := of_bag h3
  obtain ⟨r, rest, rfl, _, h6, h7⟩ := fits_cons h4
  obtain ⟨rg, rfl, _, h8⟩ := of_ring h6
  obtain ⟨r, rest, rfl, _, h9, h10⟩ := fits_cons h7
  obtain ⟨l, rfl, _, h11⟩ := fits_sl (f := claimC) (fun r hr => of_claim hr) h9
  have := fits_nil h10; subst this
  exact ⟨⟨a0, a1, a2, a3, a4, a5, a6, a7, s, bg, rg, l⟩, rfl, h0, h5, h8, h11⟩

/-! ## Guards -/
def msgNode (n : Int) : Bool := decide (0 ≤ n) && decide (n < 8)
theorem c113 (n : Int) : Pu envE 113 [I n] (.bool (msgNode n)) := by
  refine pu_is e113 rfl ?_
  rw [fr_init (by simp [fd113])]
  by_cases h : 0 ≤ n <;> simp [fd113, b113, h, msgNode]
@[simp] theorem k113 {n : Int} {H : Heap} {K : AV → Heap → Prop} : wPu envE 113 (some [I n]) H K = K (.bool (msgNode n)) H := (wPu_eq (c113 n)).trans (by simp)
def msgPlaced (m : Msg) : Bool := msgNode m.from' && (msgNode m.to && partOk m.part)
theorem c70 (m : Msg) : Pu envE 70 [.agg (msgC m)] (.bool (msgPlaced m)) := by
  refine pu_is e70 rfl ?_
  cases h1 : msgNode m.from'
  · rw [fr_init (by simp [fd70])]
    simp [fd70, b70, h1, msgPlaced]
  cases h2 : msgNode m.to
  · rw [fr_init (by simp [fd70])]
    simp [fd70, b70, h1, h2, msgPlaced]
  by_cases h3 : 0 ≤ m.part
  · rw [fr_init (by simp [fd70])]
    simp [fd70, b70, h1, h2, h3, msgPlaced, partOk]
  · rw [fr_init (by simp [fd70])]
    simp [fd70, b70, h1, h2, h3, msgPlaced, partOk]
theorem k70 {m : Msg} {H : Heap} {K : AV → Heap → Prop} : wPu envE 70 (some [.agg (msgC m)]) H K = K (.bool (msgPlaced m)) H := (wPu_eq (c70 m)).trans (by simp)
end Go.Proofs.YtflgfiieaoeknaaGreatA

/- Take.May and old of any message. No statement about the program is proved here. -/
import Derived.Test.YtflgfiieaoeknaaGreatT3
namespace Go.Proofs.YtflgfiieaoeknaaGreatA
open Go Go.RowKit
set_option linter.unusedVariables false
set_option linter.unusedSimpArgs false
set_option maxRecDepth 1000000
attribute [local simp] deed_zero ring_zero msg_zero

def mayT (m : Msg) (r : Ring) : Bool := (decide (m.kind = 5) || decide (m.kind = 7)) && (msgPlaced m && (!decide (m.from' = m.to) && (ringMay r && mayE m r)))
theorem c91m (m : Msg) (r : Ring) (hl : r.plan.targets.length < 4611686018427387904) : Pu envE 114 [.agg (msgC m), .agg (ringC r)] (.bool (mayT m r)) := by
  have kp := fun kd H K => k65' (kd := kd) (m := m) (H := H) (K := K)
  have fm := fun kd H => msg_roframe kd m H
  have km := fun H K => k142 (st := r.status) (v := r.plan.version) (b := r.plan.by') (t := r.plan.targets) (ep := r.epoch) (ow := r.owner) hl (H := H) (K := K)
  by_cases h1 : m.kind = 5 ∨ m.kind = 7
  case neg =>
    have h5 : ¬ m.kind = 5 := fun h => h1 (.inl h)
    have h7 : ¬ m.kind = 7 := fun h => h1 (.inr h)
    have e : mayT m r = false := by simp [mayT, h5, h7]
    rw [e]
    refine pu_is e114 rfl ?_
    rw [fr_init (by simp [fd114])]
    simp [fd114, b114, h5, h7]
  cases h2 : msgPlaced m
  · have e : mayT m r = false := by simp [mayT, h2]
    rw [e]
    refine pu_is e114 rfl ?_
    rcases h1 with hk | hk <;> rw [fr_init (by simp [fd114])] <;> simp [fd114, b114, hk, fm, kp, h2]
  by_cases h3 : m.from' = m.to
  · have e : mayT m r = false := by simp [mayT, h3]
    rw [e]
    refine pu_is e114 rfl ?_
    have h3b : (m.from' == m.to) = true := beq_iff_eq.2 h3
    rcases h1 with hk | hk <;> rw [fr_init (by simp [fd114])] <;> simp [fd114, b114, hk, fm, kp, h2, eq_true h3, h3b]
  cases h4 : ringMay r
  · have e : mayT m r = false := by simp [mayT, h4]
    have h4' : ringMay ⟨r.status, ⟨r.plan.version, r.plan.by', r.plan.targets⟩, r.epoch, r.owner⟩ = false := h4
    rw [e]
    refine pu_is e114 rfl ?_
    rcases h1 with hk | hk <;> rw [fr_init (by simp [fd114])] <;> simp [fd114, b114, hk, fm, kp, h2, h3, km, h4']
  have e : mayT m r = mayE m r := by
    rcases h1 with hk | hk <;> simp [mayT, hk, h2, h3, h4]
  rw [e]
  exact c114 m r h1 h2 h3 h4 hl
theorem k91m {m : Msg} {r : Ring} (hl : r.plan.targets.length < 4611686018427387904) {H : Heap} {K : AV → Heap → Prop} :
    wPu envE 114 (some [.agg (mV m.kind m.from' m.to m.seq m.for' m.about m.part m.epoch m.key m.bag.known (roL valC m.bag.vals) m.ring.status m.ring.plan.version m.ring.plan.by' (roL intC m.ring.plan.targets) m.ring.epoch m.ring.owner (roL claimC m.claims)), .agg (ringV r.status r.plan.version r.plan.by' (roL intC r.plan.targets) r.epoch r.owner)]) H K = K (.bool (mayT m r)) H := by
  have := c91m m r hl
  exact (wPu_eq this).trans (by simp)
def oldE (m : Msg) (s : VSt) : Int := if s.rings = 0 then 8 else if mayT m s.ring = true then 0 else 11
theorem c66m {H : Heap} {p0 lb mi : Nat} {s : VSt} {v q : AV} {es : List (AV × AV × Nat)} {ck : Nat} (h : Vlt H p0 lb mi s v q es ck) (ok : VOk s) (m : Msg) (lim : Nat) (hlim : lim ≤ H.length) :
    WCl envE 71 [.agg (msgC m), .ptr (some (p0, 0))] lim H fun r H' => (∃ X, H' = H ++ X) ∧ r = I (oldE m s) := by
  have hrb : reachBytes = 140737488351232 := rfl
  have hover : ∀ {st ep ow : Nat → Int} {ver by' : Int} {q : AV} (l : List AV), l.length = 43 → setFrom l 0 (ringV st ver by' q ep ow) = ringV st ver by' q ep ow := fun l hl => setFrom_all _ _ (by rw [hl, ringV_len])
  obtain ⟨H1, hH1⟩ : ∃ H1, H1 = H ++ [ABlk.cells false (msgC m)] := ⟨_, rfl⟩
  have hv1 : Vlt H1 p0 lb mi s v q es ck := by rw [hH1]; exact h.app
  have hl1 : lim ≤ H1.length := by rw [hH1]; simp; omega
  have cb : ∀ Z, Heap.cells? (H1 ++ Z) H.length = some (msgC m) := fun Z => by rw [hH1]; simp
  have fm := fun H => msg_roframe m.kind m H
  simp only [msgC_eq] at hH1 cb
  refine cl_of e71 rfl ?_
  rw [fr_init (by simp [fd71])]
  simp [fd71, b71, ← hH1]
  refine WCl.mono (c93 hv1 ok lim hl1) ?_
  rintro _ _ ⟨X, rfl, ⟨h0, rfl⟩ | ⟨h0, q', rfl, hq⟩⟩
  · have hlx : lim ≤ H1.length + X.length := by omega
    simp [hl1, hlx, hover, oldE, h0]
    exact ⟨_, by rw [hH1]; simp only [List.append_assoc]; rfl⟩
  have o1 := hq.one
  have fq : ∀ Z, frz (H1 ++ (X ++ Z)) 11 q' = some (roL intC s.ring.plan.targets) := fun Z => by rw [← List.append_assoc]; exact (hq.app (X := Z)).frz (d := 9) intC_len int_flat
  have htl : s.ring.plan.targets.length < 4611686018427387904 := by have := ok.rfit; omega
  have km := fun H K => k91m (m := m) (r := s.ring) htl (H := H) (K := K)
  have hlx : lim ≤ H1.length + X.length := by omega
  cases hM : mayT m s.ring
  · simp [hl1, hlx, hover, o1, cb, fq, fm, km, hM, oldE, h0]
    exact ⟨_, by rw [hH1]; simp only [List.append_assoc]; rfl⟩
  · simp [hl1, hlx, hover, o1, cb, fq, fm, km, hM, oldE, h0]
    exact ⟨_, by rw [hH1]; simp only [List.append_assoc]; rfl⟩
end Go.Proofs.YtflgfiieaoeknaaGreatA

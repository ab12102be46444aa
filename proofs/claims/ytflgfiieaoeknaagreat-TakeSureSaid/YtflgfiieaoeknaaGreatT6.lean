/- Give and End of any message. No statement about the program is proved here. -/
import Derived.Test.YtflgfiieaoeknaaGreatT5
namespace Go.Proofs.YtflgfiieaoeknaaGreatA
open Go Go.RowKit
set_option linter.unusedVariables false
set_option linter.unusedSimpArgs false
set_option maxRecDepth 1000000
attribute [local simp] deed_zero ring_zero msg_zero

theorem c67m (m : Msg) (kk : Int) : Pu envE 72 [.agg (msgC m), I kk] (.agg (mV kk m.to m.from' 0 0 0 m.part m.epoch [] zeroV .nilsl zeroV 0 0 .nilsl zeroV zeroV .nilsl)) := by
  refine pu_is e72 rfl ?_
  rw [fr_init (by simp [fd72])]
  simp [fd72, b72, mV_own0]
theorem k67m {m : Msg} {kd kk : Int} {H : Heap} {K : AV → Heap → Prop} : wPu envE 72 (some [.agg (mV kd m.from' m.to m.seq m.for' m.about m.part m.epoch m.key m.bag.known (roL valC m.bag.vals) m.ring.status m.ring.plan.version m.ring.plan.by' (roL intC m.ring.plan.targets) m.ring.epoch m.ring.owner (roL claimC m.claims)), I kk]) H K = K (.agg (mV kk m.to m.from' 0 0 0 m.part m.epoch [] zeroV .nilsl zeroV 0 0 .nilsl zeroV zeroV .nilsl)) H := (wPu_eq (c67m { m with kind := kd } kk)).trans (by simp)
section
variable {H : Heap} {p0 lb mi : Nat} {s : VSt} {v q : AV} {es : List (AV × AV × Nat)} {ck : Nat}
theorem c35b (m : Msg) (w : AV) (h : m.kind ≠ 5 ∨ msgPlaced m = false ∨ spotF m.key ≠ m.part) : WCl envE 27 [.agg (msgC m), w] 0 H fun r H' => (∃ X, H' = H ++ X) ∧ r = .tup [.agg zMsg, I 1] := by
  by_cases h1 : m.kind = 5
  · cases h2 : msgPlaced m
    · refine cl_of e27 rfl ?_
      rw [fr_init (by simp [fd27])]
      simp [fd27, b27, h1, k65', h2, msg_roframe]
    · have h3 : ¬ spotF m.key = m.part := by
        rcases h with h | h | h
        · exact absurd h1 h
        · rw [h2] at h; cases h
        · exact h
      refine cl_of e27 rfl ?_
      rw [fr_init (by simp [fd27])]
      simp [fd27, b27, h1, k65', h2, h3, msg_roframe]
  · refine cl_of e27 rfl ?_
    rw [fr_init (by simp [fd27])]
    simp [fd27, b27, h1]
theorem c35p (h : Vlt H p0 lb mi s v q es ck) (ok : VOk s) (m : Msg) (h1 : m.kind = 5) (h2 : msgPlaced m = true) (h3 : spotF m.key = m.part) (ho : oldE m s ≠ 0) :
    WCl envE 27 [.agg (msgC m), .ptr (some (p0, 0))] 0 H fun r H' => (∃ X, H' = H ++ X) ∧ r = .tup [.agg zMsg, I (oldE m s)] := by
  obtain ⟨H1, hH1⟩ : ∃ H1, H1 = H ++ [ABlk.cells false (mV 5 m.from' m.to m.seq m.for' m.about m.part m.epoch m.key m.bag.known (roL valC m.bag.vals) m.ring.status m.ring.plan.version m.ring.plan.by' (roL intC m.ring.plan.targets) m.ring.epoch m.ring.owner (roL claimC m.claims)), ABlk.cells false zMsg] := ⟨_, rfl⟩
  have hv1 : Vlt H1 p0 lb mi s v q es ck := by rw [hH1]; exact h.app
  have cb : Heap.cells? H1 H.length = some (mV 5 m.from' m.to m.seq m.for' m.about m.part m.epoch m.key m.bag.known (roL valC m.bag.vals) m.ring.status m.ring.plan.version m.ring.plan.by' (roL intC m.ring.plan.targets) m.ring.epoch m.ring.owner (roL claimC m.claims)) := by rw [hH1]; simp
  have cz : H1[H.length + 1]? = some (.cells false zMsg) := by rw [hH1]; simp
  have h6 := c66m hv1 ok m 0 (Nat.zero_le _)
  simp only [msgC_eq, h1] at h6
  refine cl_of e27 rfl ?_
  rw [fr_init (by simp [fd27])]
  simp [fd27, b27, h1, ← hH1, cb, k65', h2, h3, msg_roframe]
  refine WCl.mono h6 ?_
  rintro _ G ⟨⟨X, hG⟩, rfl⟩
  have cz2 : G[H.length + 1]? = some (.cells false zMsg) := by rw [hG]; exact get_app cz
  simp [ho, store_msg cz2 (Nat.zero_le _), cells_of cz2]
  exact ⟨_, by rw [hG, hH1]; simp only [List.append_assoc]; rfl⟩
end
end Go.Proofs.YtflgfiieaoeknaaGreatA

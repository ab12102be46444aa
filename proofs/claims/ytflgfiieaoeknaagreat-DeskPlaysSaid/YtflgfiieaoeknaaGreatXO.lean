/- The reference's Owner. No statement about the program is proved here. -/
import Derived.Test.YtflgfiieaoeknaaGreatX6
namespace Go.Proofs.YtflgfiieaoeknaaGreatA
open Go
set_option linter.unusedSimpArgs false
set_option linter.unusedVariables false
set_option maxRecDepth 1000000
theorem c55 (r : Ring) (p : Int) : Pu envE 55 [.agg (ringC r), I p] (I (ownerF r p)) := by
  refine pu_is e55 rfl ?_
  cases h : partOk p
  · have e : ownerF r p = -1 := by simp [ownerF, h]
    rw [e]
    by_cases g1 : p < 0
    · rw [fr_init (by simp [fd55])]
      simp [fd55, b55, g1]
    · have g2 : 16 ≤ p := by simp [partOk] at h; omega
      rw [fr_init (by simp [fd55])]
      simp [fd55, b55, g1, g2]
  · have hp : 0 ≤ p ∧ p < 16 := by simpa [partOk] using h
    obtain ⟨i, rfl⟩ : ∃ i : Nat, p = i := ⟨p.toNat, by omega⟩
    have hi : i < 16 := by omega
    have g1 : ¬ (i : Int) < 0 := by omega
    have g2 : ¬ (16 : Int) ≤ i := by omega
    have g3 : i ≤ 15 := by omega
    have g4 : ¬ 16 ≤ i := by omega
    have c1 := fun {st ep ow : Nat → Int} {ver by' : Int} {q : AV} => ringV_ep (st := st) (ver := ver) (by' := by') (r := q) (ep := ep) (ow := ow) hi
    have c2 := fun {st ep ow : Nat → Int} {ver by' : Int} {q : AV} => ringV_ow (st := st) (ver := ver) (by' := by') (r := q) (ep := ep) (ow := ow) hi
    have c3 := fun {st ep ow : Nat → Int} {ver by' : Int} {q : AV} => ringV_part (st := st) (ver := ver) (by' := by') (r := q) (ep := ep) (ow := ow) hi
    have d1 : ∀ {st ep ow : Nat → Int} {ver by' : Int} {q : AV}, ((ringV st ver by' q ep ow).drop (11 + i * 2)).take 1 = [I (ep i)] := fun {st ep ow ver by' q} => by
      have := c1 (st := st) (ep := ep) (ow := ow) (ver := ver) (by' := by') (q := q)
      rw [cut_at (by rw [ringV_len]; omega)] at this
      exact Option.some.inj this
    have d2 : ∀ {st ep ow : Nat → Int} {ver by' : Int} {q : AV}, ((ringV st ver by' q ep ow).drop (11 + (i * 2 + 1))).take 1 = [I (ow i)] := fun {st ep ow ver by' q} => by
      have := c2 (st := st) (ep := ep) (ow := ow) (ver := ver) (by' := by') (q := q)
      rw [cut_at (by rw [ringV_len]; omega)] at this
      exact Option.some.inj this
    have d3 : ∀ {st ep ow : Nat → Int} {ver by' : Int} {q : AV}, ((ringV st ver by' q ep ow).drop (11 + i * 2)).take 2 = [I (ep i), I (ow i)] := fun {st ep ow ver by' q} => by
      have := c3 (st := st) (ep := ep) (ow := ow) (ver := ver) (by' := by') (q := q)
      rw [cut_at (by rw [ringV_len]; omega)] at this
      exact Option.some.inj this
    have c2' : ∀ {st ep ow : Nat → Int} {ver by' : Int} {q : AV}, cut (ringV st ver by' q ep ow) (11 + (i * 2 + 1)) 1 = some [I (ow i)] := fun {st ep ow ver by' q} => c2
    have l1 : 11 + (i * 2 + 1) ≤ 43 := by omega
    have l2 : 11 + (i * 2 + 2) ≤ 43 := by omega
    have l3 : 11 + (i * 2 + 1 + 1) ≤ 43 := by omega
    by_cases h1 : r.epoch i = 0
    · have e : ownerF r i = -1 := by simp [ownerF, h1]
      rw [e]
      rw [fr_init (by simp [fd55])]
      simp [fd55, b55, h, hi, g1, g2, g4, c1, c2, c2', c3, d1, d2, d3, l1, l2, l3, h1]
    cases h2 : entMay (r.epoch i) (r.owner i)
    · have e : ownerF r i = -1 := by simp [ownerF, h2]
      rw [e]
      rw [fr_init (by simp [fd55])]
      simp [fd55, b55, h, hi, g1, g2, g4, c1, c2, c2', c3, d1, d2, d3, l1, l2, l3, h1, h2]
    · have e : ownerF r i = r.owner i := by simp [ownerF, h, h1, h2]
      rw [e]
      rw [fr_init (by simp [fd55])]
      simp [fd55, b55, h, hi, g1, g2, g4, c1, c2, c2', c3, d1, d2, d3, l1, l2, l3, h1, h2]
theorem k55 {r : Ring} {p : Int} {H : Heap} {K : AV → Heap → Prop} : wPu envE 55 (some [.agg (ringV r.status r.plan.version r.plan.by' (roL intC r.plan.targets) r.epoch r.owner), I p]) H K = K (I (ownerF r p)) H := by
  have := c55 r p
  simp only [ringC_eq] at this
  exact (wPu_eq this).trans (by simp)

end Go.Proofs.YtflgfiieaoeknaaGreatA

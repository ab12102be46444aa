/- Bags that grow, in rows; Dots. No statement about the program is proved here. -/
import Derived.Test.YtflgfiieaoeknaaR3
namespace Go.Proofs.YtflgfiieaoeknaaA
open Go
set_option linter.unusedSimpArgs false
set_option linter.unusedVariables false
set_option maxRecDepth 1000000

/-- Each bag is made of those ahead of it. -/
structure Ch (xs : List Bag) : Prop where
  ok : ∀ i (hi : i < xs.length), BagOk xs[i].known xs[i].vals
  up : ∀ i j (hi : i < xs.length) (hj : j < xs.length), i ≤ j → Upon xs[i].known xs[i].vals xs[j].known xs[j].vals
theorem Ch.start : Ch [zBagS] := by
  refine ⟨fun i hi => ?_, fun i j hi hj _ => ?_⟩
  · obtain rfl : i = 0 := by simp at hi; omega
    exact zero_ok
  · obtain rfl : i = 0 := by simp at hi; omega
    obtain rfl : j = 0 := by simp at hj; omega
    exact .refl
theorem Ch.push {xs : List Bag} {b : Bag} (h : Ch xs) (n : Nat) (hn : n < xs.length) (hl : xs.length = n + 1) (hb : BagOk b.known b.vals) (hu : Upon xs[n].known xs[n].vals b.known b.vals) : Ch (xs ++ [b]) := by
  refine ⟨fun i hi => ?_, fun i j hi hj hij => ?_⟩
  · rcases Nat.lt_or_ge i xs.length with q | q
    · rw [List.getElem_append_left q]; exact h.ok i q
    · obtain rfl : i = xs.length := by simp at hi; omega
      simpa using hb
  · rcases Nat.lt_or_ge j xs.length with q | q
    · have q2 : i < xs.length := by omega
      rw [List.getElem_append_left q, List.getElem_append_left q2]; exact h.up i j q2 q hij
    · obtain rfl : j = xs.length := by simp at hj; omega
      rcases Nat.lt_or_ge i xs.length with p | p
      · rw [List.getElem_append_left p]
        have := (h.up i n p hn (by omega)).trans hu
        simpa using this
      · obtain rfl : i = xs.length := by simp at hi; omega
        exact .refl
theorem BRow.isD {lim : Nat} {H : Heap} {ds : List Bag} {c : Nat} {cs : List AV} (h2 : cs.length = ds.length * 9) (h3 : ∀ i (hi : i < ds.length), BCell lim c H ((cs.drop (i * 9)).take 9) ds[i]) : Go.Proofs.YtflgfiieaoeknaaA.isD cs = false := by
  unfold Go.Proofs.YtflgfiieaoeknaaA.isD
  rcases Nat.lt_or_ge 1 ds.length with q | q
  · obtain ⟨w, e, _, _⟩ := h3 1 q
    have e2 : cs[11]? = some (I (ds[1].known 2)) := by
      have : ((cs.drop (1 * 9)).take 9)[2]? = some (I (ds[1].known 2)) := by rw [e]; rfl
      rw [List.getElem?_take_of_lt (by omega), List.getElem?_drop] at this
      exact this
    rw [e2]
  · have : cs[11]? = none := List.getElem?_eq_none (by omega)
    rw [this]
theorem BRow.keepD {lim : Nat} {H H' : Heap} {ds : List Bag} {v : AV} (h : BRow lim H ds v) (hk : ∀ (b : Nat) (y : List AV), H[b]? = some (.cells true y) → Go.Proofs.YtflgfiieaoeknaaA.isD y = false → H'[b]? = some (.cells true y)) : BRow lim H' ds v := by
  rcases h with h | ⟨c, cs, h0, h1, h2, h3, h4⟩
  · exact .inl h
  · refine .inr ⟨c, cs, h0, h1, hk c _ h2 (BRow.isD h3 h4), h3, fun i hi => ?_⟩
    obtain ⟨w, e, r, o⟩ := h4 i hi
    exact ⟨w, e, r.keepD (isD_val _) hk, o⟩
theorem c19 {H : Heap} {p lb mi : Nat} {s : VSt} {v q : AV} {es : List (AV × AV × Nat)} {ck : Nat} (h : Vlt H p lb mi s v q es ck) (lim : Nat) : Cl envE 19 [.ptr (some (p, 0))] lim H (I s.dots) H := by
  refine cl_is e19 rfl ?_
  have cp := h.cells0
  rw [fr_init (by simp [fd19])]
  simp [fd19, b19, cp]
end Go.Proofs.YtflgfiieaoeknaaA

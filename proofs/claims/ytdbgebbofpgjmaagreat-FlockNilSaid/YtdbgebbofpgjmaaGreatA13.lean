/- Regions whose order is drawn: every order comes to the same. No statement about the program is proved here. -/
import Derived.Test.YtdbgebbofpgjmaaGreatA12
namespace Go.Proofs.YtdbgebbofpgjmaaGreatA
open Go Go.RowKit
set_option linter.unusedVariables false

section
variable {w0 : World} {ro : Nat → Prop} {P : Program} {lim : Nat} {E : AEnv} {ex : AC → Nat → Tmps → Heap → Step} {ops : Array Oper} {S : Nat → Tmps × Heap}

def In (L : Array Bool) (k : Nat) : Prop := L.getD k false = true
theorem in_set {L : Array Bool} {j k : Nat} (hj : j < L.size) : In (L.setIfInBounds j true) k ↔ k = j ∨ In L k := by
  unfold In
  by_cases e : k = j
  · subst e; simp [hj]
  · rw [getD_set_ne false (Ne.symm e)]; simp [e]

/-- Where we are: memory. -/
structure InvH (w0 : World) (ro : Nat → Prop) (P : Program) (lim : Nat) (ops : Array Oper) (S : Nat → Tmps × Heap) (μ0 : Mu) (w00 : World) (L : Array Bool) (μ : Mu) (w : World) (p q : Nat) (Y : Heap) : Prop where
  start : μ0.length = (S 0).2.length
  pq : p ≤ q
  qn : q ≤ ops.size
  done : ∀ k, k < p → isLoud P ops k → In L k
  calm : ∀ k, p ≤ k → k < q → ¬ isSolo P ops k
  next : q < ops.size → isSolo P ops q
  rest : ∀ k, q ≤ k → isLoud P ops k → In L k → isFresh P ops k
  ylen : (S q).2.length + Y.length = (S ops.size).2.length
  holes : ∀ (k b : Nat) (loc : Loc), p ≤ k → k < q → ¬ In L k → (S k).2.length ≤ b → b < (S (k + 1)).2.length → μ[b]? ≠ some (some loc)
  pend : ∀ (b : Nat) (loc : Loc), (S q).2.length ≤ b → μ[b]? = some (some loc) → ∃ k, q ≤ k ∧ isFresh P ops k ∧ In L k ∧ b = (S k).2.length ∧ Y[b - (S q).2.length]? = (S (k + 1)).2[b]?
  post : Post w0 ro lim μ0 (S 0).2 w00 μ ((S q).2 ++ Y) w
  fine : ∀ (k b : Nat) (loc : Loc), p ≤ k → k ≤ q → b < (S k).2.length → μ[b]? = some (some loc) → BR w0 ro (μ.take (S k).2.length) loc w ((S q).2[b]?)

/-- Where we are: the frame. -/
structure InvT (w0 : World) (ro : Nat → Prop) (ops : Array Oper) (S : Nat → Tmps × Heap) (L : Array Bool) (μ : Mu) (a : Act) : Prop where
  defers : a.defers = []
  size : a.tmps.size = (S 0).1.length
  tmp : ∀ (m t : Nat) (v : AV), m ≤ ops.size → (∀ i, writes ops t i → (i < m ↔ In L i)) → (S m).1[t]? = some v → ∃ v', a.tmps[t]? = some v' ∧ VR w0 ro (μ.take (S m).2.length) v v'

def Closed (ops : Array Oper) (L : Array Bool) : Prop := ∀ (j : Nat) (o : Oper), ops[j]? = some o → In L j → ∀ e ∈ o.after.toList, Region.binds .any e = true → In L e.on

theorem Dr.ahead (d : Dr P E ex lim ops S) {L : Array Bool} (hL : Closed ops L) {i j : Nat} {o : Oper} (ho : ops[j]? = some o) (hp : ∀ e ∈ o.after.toList, Region.binds .any e = true → In L e.on) (h : isBefore (befores ops.toList []) i j = true) : In L i :=
  before_closed (ops := ops.toList) (D := In L) d.ed (fun j o hj => hL j o (by simpa using hj)) (j + 1) j i o (Nat.lt_succ_self j) (by simpa using ho) hp h

theorem loud_writes {k : Nat} {oo : Oper} (h : ops[k]? = some oo) (hq : quietOp (lowOper P ops oo).op = true) : ¬ isLoud P ops k := by
  rintro ⟨x, h1, h2⟩
  rw [h] at h1; cases h1
  rw [hq] at h2; cases h2

/-- The frame of the one that is at hand. -/
theorem InvT.frame (d : Dr P E ex lim ops S) {L : Array Bool} {μ : Mu} {a : Act} (hT : InvT w0 ro ops S L μ a) (hL : Closed ops L) {j : Nat} {o : Oper} (ho : ops[j]? = some o) (hj : ¬ In L j) (hp : ∀ e ∈ o.after.toList, Region.binds .any e = true → In L e.on) :
    AR w0 ro (μ.take (S j).2.length) (patch (S j).1 (operTmps (lowOper P ops o))) a := by
  have hlt : j < ops.size := (Array.getElem?_eq_some_iff.1 ho).1
  refine ⟨hT.defers, VRs.of_get ?_ fun t v hv => ?_⟩
  · have h1 := d.tlen (Nat.le_of_lt hlt)
    have h2 := hT.size
    simp only [patch, List.length_mapIdx, Array.length_toList]
    omega
  · rw [patch_get, Option.map_eq_some_iff] at hv
    obtain ⟨u, h1, h2⟩ := hv
    split at h2
    · rename_i hm
      subst h2
      have hm' : t ∈ operTmps (lowOper P ops o) := by simpa using hm
      obtain ⟨v', h3, h4⟩ := hT.tmp j t u (Nat.le_of_lt hlt) (fun i ⟨x, hx, hd⟩ => by
        by_cases e : i = j
        · subst e; exact ⟨fun h => absurd h (Nat.lt_irrefl _), fun h => absurd h hj⟩
        · have hh := d.apart hx ho hd e (.inl hm')
          unfold held at hh
          rcases Nat.lt_or_gt_of_ne e with q | q
          · rw [if_pos q] at hh
            exact ⟨fun _ => d.ahead hL ho hp hh, fun _ => q⟩
          · rw [if_neg (by omega)] at hh
            exact ⟨fun h => by omega, fun h => absurd (d.ahead hL hx (hL i x hx h) hh) hj⟩) h1
      exact ⟨v', by simpa using h3, h4⟩
    · subst h2
      have ht : t < (S j).1.length := (List.getElem?_eq_some_iff.1 h1).1
      have h3 : t < a.tmps.size := by rw [hT.size, ← d.tlen (Nat.le_of_lt hlt)]; exact ht
      exact ⟨a.tmps[t], by simp [h3], .undef _⟩

/-- It is done: the frame. -/
theorem InvT.put (d : Dr P E ex lim ops S) {L : Array Bool} {μ μ' : Mu} {a : Act} (hT : InvT w0 ro ops S L μ a) (hs : L.size = ops.size) (hL : Closed ops L) {j : Nat} {o : Oper} (ho : ops[j]? = some o) (hj : ¬ In L j) (hp : ∀ e ∈ o.after.toList, Region.binds .any e = true → In L e.on)
    {v : AV} {v' : Value} (hS : (S (j + 1)).1 = putT (S j).1 o.dst v) (hE : Ext μ μ') (hv : VR w0 ro (μ'.take (S (j + 1)).2.length) v v') : InvT w0 ro ops S (L.setIfInBounds j true) μ' (a.put o.dst v') := by
  have hlt : j < ops.size := (Array.getElem?_eq_some_iff.1 ho).1
  refine ⟨?_, ?_, fun m t u hm hc hu => ?_⟩
  · unfold Act.put; split <;> exact hT.defers
  · unfold Act.put; split <;> simp [hT.size]
  · by_cases hw : o.dst = some t
    · have hjm : j < m := (hc j ⟨o, ho, hw⟩).2 ((in_set (by omega)).2 (.inl rfl))
      have hk : (S m).1[t]? = (S (j + 1)).1[t]? := d.keep hm hjm fun i h1 h2 ⟨x, hx, hd⟩ => by
        have hne : i ≠ j := by omega
        have hi := ((in_set (by omega)).1 ((hc i ⟨x, hx, hd⟩).1 h2)).resolve_left hne
        have hh := d.apart ho hx hw (Ne.symm hne) (.inr hd)
        unfold held at hh
        rw [if_pos (by omega)] at hh
        exact hj (d.ahead hL hx (hL i x hx hi) hh)
      rw [hk, hS, hw] at hu
      simp only [putT] at hu
      have hlen : t < (S j).1.length := by
        have := (List.getElem?_eq_some_iff.1 hu).1
        simpa using this
      rw [List.getElem?_set_self hlen] at hu
      cases hu
      have h3 : t < a.tmps.size := by rw [hT.size, ← d.tlen (Nat.le_of_lt hlt)]; exact hlen
      refine ⟨v', ?_, hv.ext (ext_take_le (d.more hm hjm))⟩
      simp [Act.put, hw, h3]
    · obtain ⟨u', h1, h2⟩ := hT.tmp m t u hm (fun i hi => by
        have hne : i ≠ j := fun e => by
          subst e
          obtain ⟨x, hx, hd⟩ := hi
          rw [ho] at hx; cases hx
          exact hw hd
        rw [hc i hi, in_set (by omega)]
        simp [hne]) hu
      refine ⟨u', ?_, h2.ext (ext_take hE _)⟩
      unfold Act.put
      split
      · rename_i dd hd
        rw [Array.getElem?_setIfInBounds_ne fun e => hw (by rw [hd, e])]
        exact h1
      · exact h1

theorem closed_set {L : Array Bool} (hs : L.size = ops.size) (hL : Closed ops L) {j : Nat} {o : Oper} (ho : ops[j]? = some o) (hp : ∀ e ∈ o.after.toList, Region.binds .any e = true → In L e.on) : Closed ops (L.setIfInBounds j true) := by
  have hlt : j < ops.size := (Array.getElem?_eq_some_iff.1 ho).1
  intro k x hx hk e he hb
  rw [in_set (by omega)] at hk ⊢
  rcases hk with rfl | hk
  · rw [ho] at hx; cases hx; exact .inr (hp e he hb)
  · exact .inr (hL k x hx hk e he hb)

/-- Only new blocks of the program's came. -/
theorem InvH.later {μ0 : Mu} {w00 w w' : World} {L : Array Bool} {μ : Mu} {p q : Nat} {Y : Heap} (h : InvH w0 ro P lim ops S μ0 w00 L μ w p q Y) {j : Nat} (hj : ¬ isLoud P ops j) (hlt : j < L.size)
    (hs : w.heap.size ≤ w'.heap.size) (hk : ∀ c, c < w.heap.size → w'.heap[c]? = w.heap[c]?) (hos : w'.os = w.os) (htape : w'.tape = w.tape) (hout : w'.output = w.output) :
    InvH w0 ro P lim ops S μ0 w00 (L.setIfInBounds j true) μ w' p q Y where
  start := h.start
  pq := h.pq
  qn := h.qn
  done := fun k hk hl => (in_set hlt).2 (.inr (h.done k hk hl))
  calm := h.calm
  next := h.next
  rest := fun k hk hl hi => by
    rcases (in_set hlt).1 hi with rfl | hi
    · exact absurd hl hj
    · exact h.rest k hk hl hi
  ylen := h.ylen
  pend := fun b loc h1 h2 => by
    obtain ⟨k, k1, k2, k3, k4, k5⟩ := h.pend b loc h1 h2
    exact ⟨k, k1, k2, (in_set hlt).2 (.inr k3), k4, k5⟩
  holes := fun k b loc h1 h2 h3 h4 h5 => h.holes k b loc h1 h2 (fun hi => h3 ((in_set hlt).2 (.inr hi))) h4 h5
  post := by
    have hp := h.post
    exact ⟨hp.app, hp.hr.later hs hk, hos.trans hp.os, htape.trans hp.tape, hout.trans hp.output, Nat.le_trans hp.size hs,
      fun c hc ho => (hk c (Nat.lt_of_lt_of_le hc hp.size)).trans (hp.frame c hc ho), hp.sub, hp.low, hp.more⟩
  fine := fun k b loc h1 h2 h3 h4 => (h.fine k b loc h1 h2 h3 h4).later hk

theorem noOwn {μ : Mu} {H : Heap} {n c : Nat} (h : μ.length ≤ n) : ¬ Owned μ H n c := by
  rintro ⟨b, loc, h1, _, h2, _⟩
  have := (List.getElem?_eq_some_iff.1 h2).1
  omega

theorem take_pre {H H' : Heap} (h1 : H.length ≤ H'.length) (h2 : ∀ b, b < H.length → H'[b]? = H[b]?) : H ++ H'.drop H.length = H' := by
  apply List.ext_getElem?
  intro i
  rcases Nat.lt_or_ge i H.length with q | q
  · rw [List.getElem?_append_left q, h2 i q]
  · rw [List.getElem?_append_right q, List.getElem?_drop]
    congr 1; omega

end
end Go.Proofs.YtdbgebbofpgjmaaGreatA

/- Regions whose order is drawn: every order comes to the same (end). No statement about the program is proved here. -/
import Derived.Test.YtdbgebbofpgjmaaGreatA13
namespace Go.Proofs.YtdbgebbofpgjmaaGreatA
open Go Go.RowKit
set_option linter.unusedVariables false

section
variable {w0 : World} {ro : Nat → Prop} {P : Program} {lim : Nat} {E : AEnv} {ex : AC → Nat → Tmps → Heap → Step} {ops : Array Oper} {S : Nat → Tmps × Heap}
variable {μ0 : Mu} {w00 w : World} {L : Array Bool} {μ : Mu} {p q : Nat} {Y : Heap}

theorem InvH.len (h : InvH w0 ro P lim ops S μ0 w00 L μ w p q Y) : μ.length = (S q).2.length + Y.length := by
  rw [h.post.hr.len, List.length_append]

theorem InvH.front (d : Dr P E ex lim ops S) (h : InvH w0 ro P lim ops S μ0 w00 L μ w p q Y) {k : Nat} (h1 : p ≤ k) (h2 : k ≤ q) : ∃ X, (S q).2 = (S k).2 ++ X :=
  d.pre h.qn h2 fun i a b => h.calm i (by omega) b

theorem InvH.soft_hr (d : Dr P E ex lim ops S) (h : InvH w0 ro P lim ops S μ0 w00 L μ w p q Y) {j : Nat} (h1 : p ≤ j) (h2 : j ≤ q) : HR w0 ro (μ.take (S j).2.length) (S j).2 w := by
  obtain ⟨X, hX⟩ := h.front d h1 h2
  have hl := h.len
  have hle : (S j).2.length ≤ (S q).2.length := d.more h.qn h2
  have tk : ∀ (b : Nat) (loc : Loc), (μ.take (S j).2.length)[b]? = some (some loc) → b < (S j).2.length ∧ μ[b]? = some (some loc) := fun b loc e => by
    rw [List.getElem?_take] at e
    split at e
    · exact ⟨by assumption, e⟩
    · cases e
  refine ⟨by simp; omega, h.post.hr.grow, h.post.hr.old, fun b loc e => ?_, fun b b' l l' a a' e e' => ?_⟩
  · obtain ⟨q1, e1⟩ := tk b loc e
    have := h.fine j b loc h1 h2 q1 e1
    rw [hX, List.getElem?_append_left q1] at this
    exact this
  · refine h.post.hr.inj b b' l l' ?_ ?_ (tk b l e).2 (tk b' l' e').2
    · rw [hX]; exact alive_pre (alive_pre a)
    · rw [hX]; exact alive_pre (alive_pre a')

theorem InvH.soft (d : Dr P E ex lim ops S) (h : InvH w0 ro P lim ops S μ0 w00 L μ w p q Y) {j : Nat} (hlt : j < L.size) (hj : ¬ In L j) (h1 : p ≤ j) (h2 : j < q) {μ' : Mu} {w' : World}
    (hp : Post w0 ro (S j).2.length (μ.take (S j).2.length) (S j).2 w μ' (S (j + 1)).2 w') :
    ∃ μ'', Ext μ μ'' ∧ μ''.take (S (j + 1)).2.length = μ' ∧ InvH w0 ro P lim ops S μ0 w00 (L.setIfInBounds j true) μ'' w' p q Y := by
  have hl := h.len
  have hle0 : (S 0).2.length ≤ (S j).2.length := d.more (by have := h.qn; omega) (Nat.zero_le _)
  have hle1 : (S j).2.length ≤ (S (j + 1)).2.length := d.more (by have := h.qn; omega) (Nat.le_succ j)
  have hle2 : (S (j + 1)).2.length ≤ (S q).2.length := d.more h.qn h2
  obtain ⟨X, hX⟩ := h.front d (show p ≤ j + 1 by omega) h2
  have hX2 : (S q).2 ++ Y = (S (j + 1)).2 ++ (X ++ Y) := by rw [hX, List.append_assoc]
  have hl' : μ'.length = (S (j + 1)).2.length := hp.hr.len
  have hj' : (μ.take (S j).2.length).length = (S j).2.length := by simp; omega
  have noown : ∀ c, ¬ Owned (μ.take (S j).2.length) (S j).2 (S j).2.length c := fun c => noOwn (by simp; omega)
  have frame : ∀ c, c < w.heap.size → w'.heap[c]? = w.heap[c]? := fun c hc => hp.frame c hc (noown c)
  have newloc : ∀ (b : Nat) (loc : Loc), (S j).2.length ≤ b → alive (S (j + 1)).2 b → μ'[b]? = some (some loc) → w.heap.size ≤ loc.c := fun b loc hb ha hm => by
    rcases Nat.lt_or_ge loc.c w.heap.size with q1 | q1
    · exact absurd (hp.sub loc.c q1 ⟨b, loc, hb, ha, hm, rfl⟩) (noown _)
    · exact q1
  have low : ∀ b, b < (S j).2.length → μ'[b]? = μ[b]? := fun b hb => by
    obtain ⟨ν, e⟩ := hp.app
    rw [e, List.getElem?_append_left (by omega), List.getElem?_take, if_pos hb]
  have get : ∀ b, (μ' ++ μ.drop (S (j + 1)).2.length)[b]? = if b < (S (j + 1)).2.length then μ'[b]? else μ[b]? := fun b => by
    split
    · rw [List.getElem?_append_left (by omega)]
    · rw [List.getElem?_append_right (by omega), List.getElem?_drop]
      congr 1; omega
  -- what is mapped is old, or it is new
  have cls : ∀ (b : Nat) (loc : Loc), (μ' ++ μ.drop (S (j + 1)).2.length)[b]? = some (some loc) → ((b < (S j).2.length ∨ (S (j + 1)).2.length ≤ b) ∧ μ[b]? = some (some loc)) ∨ ((S j).2.length ≤ b ∧ b < (S (j + 1)).2.length ∧ μ'[b]? = some (some loc)) := fun b loc e => by
    rw [get] at e
    split at e
    · rename_i q1
      rcases Nat.lt_or_ge b (S j).2.length with q2 | q2
      · rw [low b q2] at e; exact .inl ⟨.inl q2, e⟩
      · exact .inr ⟨q2, q1, e⟩
    · rename_i q1; exact .inl ⟨.inr (by omega), e⟩
  have E1 : Ext μ (μ' ++ μ.drop (S (j + 1)).2.length) := fun b loc e => by
    rw [get]
    split
    · rename_i q1
      rcases Nat.lt_or_ge b (S j).2.length with q2 | q2
      · rw [low b q2]; exact e
      · exact absurd e (h.holes j b loc h1 h2 hj q2 q1)
    · exact e
  have tk : (μ' ++ μ.drop (S (j + 1)).2.length).take (S (j + 1)).2.length = μ' := by
    rw [← hl', List.take_append_of_le_length (Nat.le_refl _), List.take_length]
  have E2 : Ext μ' (μ' ++ μ.drop (S (j + 1)).2.length) := Ext.app _ _
  have lat := h.post.hr.later hp.size frame
  refine ⟨μ' ++ μ.drop (S (j + 1)).2.length, E1, tk, ?_⟩
  constructor
  case start => exact h.start
  case pq => exact h.pq
  case qn => exact h.qn
  case done => exact fun k hk hl => (in_set hlt).2 (.inr (h.done k hk hl))
  case calm => exact h.calm
  case next => exact h.next
  case rest =>
    intro k hk hl hi
    rcases (in_set hlt).1 hi with rfl | hi
    · omega
    · exact h.rest k hk hl hi
  case ylen => exact h.ylen
  case pend =>
    intro b loc k1 e
    rw [get, if_neg (by omega)] at e
    obtain ⟨k, g1, g2, g3, g4, g5⟩ := h.pend b loc k1 e
    exact ⟨k, g1, g2, (in_set hlt).2 (.inr g3), g4, g5⟩
  case holes =>
    intro k b loc k1 k2 k3 k4 k5 e
    have hne : k ≠ j := fun e => k3 ((in_set hlt).2 (.inl e))
    have k3' : ¬ In L k := fun hi => k3 ((in_set hlt).2 (.inr hi))
    rcases cls b loc e with ⟨_, e'⟩ | ⟨c1, c2, _⟩
    · exact h.holes k b loc k1 k2 k3' k4 k5 e'
    · rcases Nat.lt_or_gt_of_ne hne with q1 | q1
      · have := d.more (show j ≤ ops.size by have := h.qn; omega) (show k + 1 ≤ j by omega); omega
      · have := d.more (show k ≤ ops.size by have := h.qn; omega) (show j + 1 ≤ k by omega); omega
  case post =>
    have hq := h.post
    refine ⟨?_, ⟨?_, Nat.le_trans hq.hr.grow hp.size, lat.old, fun b loc e => ?_, fun b b' l l' a a' e e' => ?_⟩, hp.os.trans hq.os, hp.tape.trans hq.tape, hp.output.trans hq.output, Nat.le_trans hq.size hp.size, ?_, ?_, hq.low, hq.more⟩
    · obtain ⟨ν0, e0⟩ := hq.app
      obtain ⟨ν, e1⟩ := hp.app
      have hm0 : μ0.length ≤ (S j).2.length := by rw [h.start]; exact hle0
      refine ⟨(ν0.take ((S j).2.length - μ0.length)) ++ ν ++ μ.drop (S (j + 1)).2.length, ?_⟩
      rw [e1]
      have : μ.take (S j).2.length = μ0 ++ ν0.take ((S j).2.length - μ0.length) := by
        rw [e0, List.take_append, List.take_of_length_le hm0]
      rw [this]
      simp only [List.append_assoc]
    · simp only [List.length_append, List.length_drop]; omega
    · rcases Nat.lt_or_ge b (S (j + 1)).2.length with q1 | q1
      · rw [get, if_pos q1] at e
        have := (hp.hr.blk b loc e).ext E2
        rw [hX2, List.getElem?_append_left q1]
        exact this
      · rw [get, if_neg (by omega)] at e
        exact (lat.blk b loc e).ext E1
    · have old : ∀ (b : Nat) (l : Loc), alive ((S q).2 ++ Y) b → μ[b]? = some (some l) → l.c < w.heap.size := fun b l a e => BR.lt a (hq.hr.blk b l e)
      have new : ∀ (b : Nat) (l : Loc), alive ((S q).2 ++ Y) b → (S j).2.length ≤ b → b < (S (j + 1)).2.length → μ'[b]? = some (some l) → w.heap.size ≤ l.c := fun b l a c1 c2 e => by
        refine newloc b l c1 ?_ e
        rw [hX2] at a
        exact alive_cut c2 a
      intro ee
      rcases cls b l e with ⟨_, x⟩ | ⟨c1, c2, x⟩ <;> rcases cls b' l' e' with ⟨_, x'⟩ | ⟨c1', c2', x'⟩
      · exact hq.hr.inj b b' l l' a a' x x' ee
      · have := old b l a x; have := new b' l' a' c1' c2' x'; omega
      · have := old b' l' a' x'; have := new b l a c1 c2 x; omega
      · rw [hX2] at a a'
        exact hp.hr.inj b b' l l' (alive_cut c2 a) (alive_cut c2' a') x x' ee
    · exact fun c hc ho => (frame c (Nat.lt_of_lt_of_le hc hq.size)).trans (hq.frame c hc ho)
    · rintro c hc ⟨b, loc, b1, b2, b3, b4⟩
      rcases cls b loc b3 with ⟨_, x⟩ | ⟨c1, c2, x⟩
      · exact hq.sub c hc ⟨b, loc, b1, b2, x, b4⟩
      · rw [hX2] at b2
        have := newloc b loc c1 (alive_cut c2 b2) x
        have := hq.size
        omega
  case fine =>
    intro k b loc k1 k2 k3 e
    rcases cls b loc e with ⟨_, x⟩ | ⟨c1, c2, x⟩
    · exact ((h.fine k b loc k1 k2 k3 x).later frame).ext (ext_take E1 _)
    · have hjk : j + 1 ≤ k := by
        rcases Nat.lt_or_ge j k with q1 | q1
        · exact q1
        · have := d.more (show j ≤ ops.size by have := h.qn; omega) q1; omega
      have hle3 := d.more (show k ≤ ops.size by have := h.qn; omega) hjk
      have := (hp.hr.blk b loc x)
      rw [hX, List.getElem?_append_left c2]
      refine this.ext ?_
      have E3 : Ext ((μ' ++ μ.drop (S (j + 1)).2.length).take (S (j + 1)).2.length) ((μ' ++ μ.drop (S (j + 1)).2.length).take (S k).2.length) := ext_take_le hle3
      rw [tk] at E3
      exact E3


theorem InvH.grown (d : Dr P E ex lim ops S) {k : Nat} (hf : isFresh P ops k) : (S (k + 1)).2.length = (S k).2.length + 1 := by
  obtain ⟨oo, h1, h2⟩ := hf
  obtain ⟨z, _, _, _, _, h3⟩ := d.fresh h1 h2
  rw [h3]; simp

/-- One that may write. -/
theorem InvH.hard (d : Dr P E ex lim ops S) (h : InvH w0 ro P lim ops S μ0 w00 L μ w p q Y) (hs : L.size = ops.size) (hL : Closed ops L) {o : Oper} (ho : ops[q]? = some o) (hj : ¬ In L q) (hpre : ∀ e ∈ o.after.toList, Region.binds .any e = true → In L e.on) {μ' : Mu} {w' : World}
    (hp : Post w0 ro lim (μ.take (S q).2.length) (S q).2 w μ' (S (q + 1)).2 w') :
    ∃ μ'' p' q' Y', Ext μ μ'' ∧ Ext μ' (μ''.take (S (q + 1)).2.length) ∧ InvH w0 ro P lim ops S μ0 w00 (L.setIfInBounds q true) μ'' w' p' q' Y' := by
  have hlt : q < ops.size := (Array.getElem?_eq_some_iff.1 ho).1
  have hsolo := h.next hlt
  obtain ⟨q', c1, c2, c3, c4⟩ := next_solo P ops (ops.size - (q + 1)) (q + 1) (by omega)
  obtain ⟨X, hX⟩ := d.pre c2 c1 c3
  have hl := h.len
  have hyl := h.ylen
  have hm1 : (S q).2.length ≤ (S (q + 1)).2.length := d.more hlt (Nat.le_succ q)
  have hm2 : (S (q + 1)).2.length ≤ (S q').2.length := d.more c2 c1
  have hm3 : (S q').2.length ≤ (S ops.size).2.length := d.more (Nat.le_refl _) c2
  have hl' : μ'.length = (S (q + 1)).2.length := hp.hr.len
  have tkl : (μ.take (S q).2.length).length = (S q).2.length := by simp; omega
  have low : ∀ b, b < (S q).2.length → μ'[b]? = μ[b]? := fun b hb => by
    obtain ⟨ν, e⟩ := hp.app
    rw [e, List.getElem?_append_left (by omega), List.getElem?_take, if_pos hb]
  have get : ∀ b, (μ' ++ μ.drop (S (q + 1)).2.length)[b]? = if b < (S (q + 1)).2.length then μ'[b]? else μ[b]? := fun b => by
    split
    · rw [List.getElem?_append_left (by omega)]
    · rw [List.getElem?_append_right (by omega), List.getElem?_drop]
      congr 1; omega
  have tk : (μ' ++ μ.drop (S (q + 1)).2.length).take (S (q + 1)).2.length = μ' := by
    rw [← hl', List.take_append_of_le_length (Nat.le_refl _), List.take_length]
  -- who waits lies behind this one
  have wait : ∀ (b : Nat) (loc : Loc), (S q).2.length ≤ b → μ[b]? = some (some loc) → ∃ k, q + 1 ≤ k ∧ isFresh P ops k ∧ In L k ∧ b = (S k).2.length ∧ (S (q + 1)).2.length ≤ b ∧ k < ops.size ∧ Y[b - (S q).2.length]? = (S (k + 1)).2[b]? := fun b loc hb e => by
    obtain ⟨k, g1, g2, g3, g4, g5⟩ := h.pend b loc hb e
    have hne : k ≠ q := fun e => solo_old hsolo (e ▸ g2)
    have hk : k < ops.size := by obtain ⟨x, hx, _⟩ := g2; exact (Array.getElem?_eq_some_iff.1 hx).1
    have := d.more (Nat.le_of_lt hk) (show q + 1 ≤ k by omega)
    exact ⟨k, by omega, g2, g3, g4, by omega, hk, g5⟩
  have E1 : Ext μ (μ' ++ μ.drop (S (q + 1)).2.length) := fun b loc e => by
    rw [get]
    rcases Nat.lt_or_ge b (S q).2.length with q1 | q1
    · rw [if_pos (by omega), low b q1]; exact e
    · obtain ⟨k, _, _, _, _, g5, _, _⟩ := wait b loc q1 e
      rw [if_neg (by omega)]; exact e
  have E2 : Ext μ' (μ' ++ μ.drop (S (q + 1)).2.length) := Ext.app _ _
  have hX2 : ∀ Z, (S q').2 ++ Z = (S (q + 1)).2 ++ (X ++ Z) := fun Z => by rw [hX, List.append_assoc]
  -- what waits is the same in both
  have same : ∀ (b : Nat) (loc : Loc), (S q).2.length ≤ b → μ[b]? = some (some loc) → ((S q').2 ++ Y.drop ((S q').2.length - (S q).2.length))[b]? = ((S q).2 ++ Y)[b]? := fun b loc hb e => by
    obtain ⟨k, g1, g2, g3, g4, g5, g6, g7⟩ := wait b loc hb e
    rw [List.getElem?_append_right hb, g7]
    rcases Nat.lt_or_ge b (S q').2.length with q1 | q1
    · rw [List.getElem?_append_left q1]
      have hk : k < q' := by
        rcases Nat.lt_or_ge k q' with q2 | q2
        · exact q2
        · have := d.more (Nat.le_of_lt g6) q2; omega
      obtain ⟨Z, hZ⟩ := d.pre c2 (show k + 1 ≤ q' by omega) fun i i1 i2 => c3 i (by omega) i2
      have := InvH.grown d g2
      rw [hZ, List.getElem?_append_left (by omega)]
    · rw [List.getElem?_append_right q1, List.getElem?_drop, ← g7]
      congr 1; omega
  have cls : ∀ (b : Nat) (loc : Loc), (μ' ++ μ.drop (S (q + 1)).2.length)[b]? = some (some loc) → (b < (S (q + 1)).2.length ∧ μ'[b]? = some (some loc)) ∨ ((S (q + 1)).2.length ≤ b ∧ μ[b]? = some (some loc)) := fun b loc e => by
    rw [get] at e
    split at e
    · rename_i q1; exact .inl ⟨q1, e⟩
    · rename_i q1; exact .inr ⟨by omega, e⟩
  have oldlt : ∀ (b : Nat) (l : Loc), alive ((S q).2 ++ Y) b → μ[b]? = some (some l) → l.c < w.heap.size := fun b l a e => BR.lt a (h.post.hr.blk b l e)
  -- what waits is alive
  have waitAlive : ∀ (b : Nat) (loc : Loc), (S q).2.length ≤ b → μ[b]? = some (some loc) → alive ((S q).2 ++ Y) b := fun b loc hb e => by
    obtain ⟨k, g1, g2, g3, g4, g5, g6, g7⟩ := wait b loc hb e
    obtain ⟨oo, x1, x2⟩ := g2
    obtain ⟨z, _, _, _, _, x3⟩ := d.fresh x1 x2
    refine .inl ⟨false, z, ?_⟩
    rw [List.getElem?_append_right hb, g7, x3, g4]
    simp
  have upOwned : ∀ c, Owned (μ.take (S q).2.length) (S q).2 lim c → Owned μ ((S q).2 ++ Y) lim c := by
    rintro c ⟨b, loc, b1, b2, b3, b4⟩
    refine ⟨b, loc, b1, alive_pre b2, ?_, b4⟩
    rw [List.getElem?_take] at b3
    split at b3
    · exact b3
    · cases b3
  -- nobody that writes reaches what waits
  have apart : ∀ (b : Nat) (loc : Loc), (S q).2.length ≤ b → μ[b]? = some (some loc) → ¬ Owned (μ.take (S q).2.length) (S q).2 lim loc.c := by
    rintro b loc hb e ⟨b1, l1, x1, x2, x3, x4⟩
    have hb1 : b1 < (S q).2.length := alive_lt x2
    rw [List.getElem?_take, if_pos hb1] at x3
    have := h.post.hr.inj b1 b l1 loc (alive_pre x2) (waitAlive b loc hb e) x3 e x4
    omega
  refine ⟨μ' ++ μ.drop (S (q + 1)).2.length, q + 1, q', Y.drop ((S q').2.length - (S q).2.length), E1, by rw [tk]; exact Ext.refl _, ?_⟩
  constructor
  case start => exact h.start
  case pq => exact c1
  case qn => exact c2
  case calm => exact c3
  case next => exact c4
  case ylen => simp only [List.length_drop]; omega
  case done =>
    intro k hk hl
    rw [in_set (by omega)]
    by_cases e : k = q
    · exact .inl e
    · rcases d.solo hsolo hl (Ne.symm e) with this | ⟨_, this⟩
      · unfold held at this
        rw [if_neg (by omega)] at this
        exact .inr (d.ahead hL ho hpre this)
      · omega
  case rest =>
    intro k hk hl hi
    have hne : k ≠ q := by omega
    have hi' := ((in_set (by omega)).1 hi).resolve_left hne
    exact h.rest k (by omega) hl hi'
  case pend =>
    intro b loc hb e
    rcases cls b loc e with ⟨x, _⟩ | ⟨_, x⟩
    · omega
    · obtain ⟨k, g1, g2, g3, g4, g5, g6, g7⟩ := wait b loc (by omega) x
      refine ⟨k, ?_, g2, (in_set (by omega)).2 (.inr g3), g4, ?_⟩
      · rcases Nat.lt_or_ge k q' with q2 | q2
        · have := d.more c2 (show k + 1 ≤ q' by omega)
          have := InvH.grown d g2
          omega
        · exact q2
      · rw [List.getElem?_drop, ← g7]
        congr 1; omega
  case holes =>
    intro k b loc k1 k2 k3 k4 k5 e
    have hk1 := d.more (show k ≤ ops.size by omega) k1
    rcases cls b loc e with ⟨x, _⟩ | ⟨_, x⟩
    · omega
    · obtain ⟨m, g1, g2, g3, g4, g5, g6, g7⟩ := wait b loc (by omega) x
      have hg := InvH.grown d g2
      have hkm : k = m := by
        rcases Nat.lt_trichotomy k m with q2 | q2 | q2
        · have := d.more (Nat.le_of_lt g6) (show k + 1 ≤ m by omega); omega
        · exact q2
        · have := d.more (show k ≤ ops.size by omega) (show m + 1 ≤ k by omega); omega
      subst hkm
      exact k3 ((in_set (by omega)).2 (.inr g3))
  case post =>
    have hq := h.post
    refine ⟨?_, ⟨?_, Nat.le_trans hq.hr.grow hp.size, hp.hr.old, fun b loc e => ?_, fun b b' l l' a a' e e' => ?_⟩, hp.os.trans hq.os, hp.tape.trans hq.tape, hp.output.trans hq.output, Nat.le_trans hq.size hp.size, ?_, ?_, ?_, ?_⟩
    · obtain ⟨ν0, e0⟩ := hq.app
      obtain ⟨ν, e1⟩ := hp.app
      have hm0 : μ0.length ≤ (S q).2.length := by rw [h.start]; exact d.more (Nat.le_of_lt hlt) (Nat.zero_le q)
      refine ⟨(ν0.take ((S q).2.length - μ0.length)) ++ ν ++ μ.drop (S (q + 1)).2.length, ?_⟩
      rw [e1]
      have : μ.take (S q).2.length = μ0 ++ ν0.take ((S q).2.length - μ0.length) := by
        rw [e0, List.take_append, List.take_of_length_le hm0]
      rw [this]
      simp only [List.append_assoc]
    · simp only [List.length_append, List.length_drop]; omega
    · rcases cls b loc e with ⟨x1, x2⟩ | ⟨x1, x2⟩
      · rw [hX2, List.getElem?_append_left x1]
        exact (hp.hr.blk b loc x2).ext E2
      · rw [same b loc (by omega) x2]
        refine BR.ext E1 (BR.world (hp.frame loc.c (oldlt b loc (waitAlive b loc (by omega) x2) x2) (apart b loc (by omega) x2)) (hq.hr.blk b loc x2))
    · intro ee
      -- one that waits, and one of the others
      have cross : ∀ (b b' : Nat) (l l' : Loc), b < (S (q + 1)).2.length → alive (S (q + 1)).2 b → μ'[b]? = some (some l) → (S q).2.length ≤ b' → μ[b']? = some (some l') → l.c = l'.c → False := fun b b' l l' y1 y2 y3 y4 y5 y6 => by
        have al := waitAlive b' l' y4 y5
        have hc := oldlt b' l' al y5
        rcases Nat.lt_or_ge b lim with z1 | z1
        · have z2 : b < (S q).2.length := by
            have := d.le
            have := d.more (Nat.le_of_lt hlt) (Nat.zero_le q)
            omega
          have hlow := hp.low b z1 z2
          have al2 : alive (S q).2 b := by unfold alive at y2 ⊢; rw [← hlow]; exact y2
          rw [low b z2] at y3
          have := hq.hr.inj b b' l l' (alive_pre al2) al y3 y5 y6
          omega
        · have := hp.sub l.c (y6 ▸ hc) ⟨b, l, z1, y2, y3, rfl⟩
          exact apart b' l' y4 y5 (y6 ▸ this)
      rcases cls b l e with ⟨x1, x2⟩ | ⟨x1, x2⟩ <;> rcases cls b' l' e' with ⟨x1', x2'⟩ | ⟨x1', x2'⟩
      · rw [hX2] at a a'
        exact hp.hr.inj b b' l l' (alive_cut x1 a) (alive_cut x1' a') x2 x2' ee
      · rw [hX2] at a
        exact (cross b b' l l' x1 (alive_cut x1 a) x2 (by omega) x2' ee).elim
      · rw [hX2] at a'
        exact (cross b' b l' l x1' (alive_cut x1' a') x2' (by omega) x2 ee.symm).elim
      · exact hq.hr.inj b b' l l' (waitAlive b l (by omega) x2) (waitAlive b' l' (by omega) x2') x2 x2' ee
    · exact fun c hc ho => (hp.frame c (Nat.lt_of_lt_of_le hc hq.size) fun o => ho (hq.sub c hc (upOwned c o))).trans (hq.frame c hc ho)
    · rintro c hc ⟨b, loc, b1, b2, b3, b4⟩
      rcases cls b loc b3 with ⟨x1, x2⟩ | ⟨x1, x2⟩
      · rw [hX2] at b2
        exact hq.sub c hc (upOwned c (hp.sub c (Nat.lt_of_lt_of_le hc hq.size) ⟨b, loc, b1, alive_cut x1 b2, x2, b4⟩))
      · exact hq.sub c hc ⟨b, loc, b1, waitAlive b loc (by omega) x2, x2, b4⟩
    · intro b hb hl0
      have hm0 : (S 0).2.length ≤ (S q).2.length := d.more (Nat.le_of_lt hlt) (Nat.zero_le q)
      rw [hX2, List.getElem?_append_left (by omega), hp.low b hb (by omega)]
      have := hq.low b hb hl0
      rw [List.getElem?_append_left (by omega)] at this
      exact this
    · have hm0 : (S 0).2.length ≤ (S q').2.length := d.more c2 (Nat.zero_le q')
      simp only [List.length_append]; omega
  case fine =>
    intro k b loc k1 k2 k3 e
    have hle3 := d.more (show k ≤ ops.size by omega) k1
    have E3 : Ext ((μ' ++ μ.drop (S (q + 1)).2.length).take (S (q + 1)).2.length) ((μ' ++ μ.drop (S (q + 1)).2.length).take (S k).2.length) := ext_take_le hle3
    rw [tk] at E3
    rcases cls b loc e with ⟨x1, x2⟩ | ⟨x1, x2⟩
    · rw [hX, List.getElem?_append_left x1]
      exact (hp.hr.blk b loc x2).ext E3
    · obtain ⟨m, g1, g2, g3, g4, g5, g6, g7⟩ := wait b loc (by omega) x2
      have hb : b < (S q').2.length := Nat.lt_of_lt_of_le k3 (d.more c2 k2)
      have hsm := same b loc (by omega) x2
      rw [List.getElem?_append_left hb] at hsm
      rw [hsm]
      have h1 := BR.world (hp.frame loc.c (oldlt b loc (waitAlive b loc (by omega) x2) x2) (apart b loc (by omega) x2)) (h.post.hr.blk b loc x2)
      obtain ⟨oo, y1, y2⟩ := g2
      obtain ⟨z, _, _, ⟨cs, hcs⟩, _, y3⟩ := d.fresh y1 y2
      have hblk : ((S q).2 ++ Y)[b]? = some (.cells false z) := by
        rw [List.getElem?_append_right (by omega), g7, y3, g4]
        simp
      rw [hblk] at h1 ⊢
      exact const_block hcs h1

/-- A variable that is made ahead of its turn. -/
theorem InvH.early (d : Dr P E ex lim ops S) (h : InvH w0 ro P lim ops S μ0 w00 L μ w p q Y) (hs : L.size = ops.size) {j : Nat} (hf : isFresh P ops j) (hj : ¬ In L j) (hq : q < j) {z : List AV} (hz : (S (j + 1)).2 = (S j).2 ++ [.cells false z]) {μ' : Mu} {w' : World} {loc : Loc}
    (hp : Post w0 ro (S j).2.length (List.replicate (S j).2.length none) (List.replicate (S j).2.length .dead) w μ' (List.replicate (S j).2.length .dead ++ [.cells false z]) w') (hm : μ'[(S j).2.length]? = some (some loc)) :
    ∃ μ'' Y', Ext μ μ'' ∧ Ext μ' (μ''.take (S (j + 1)).2.length) ∧ InvH w0 ro P lim ops S μ0 w00 (L.setIfInBounds j true) μ'' w' p q Y' := by
  have hjn : j < ops.size := by obtain ⟨x, hx, _⟩ := hf; exact (Array.getElem?_eq_some_iff.1 hx).1
  have hl := h.len
  have hyl := h.ylen
  have g0 : (S 0).2.length ≤ (S q).2.length := d.more h.qn (Nat.zero_le q)
  have g1 : (S q).2.length ≤ (S j).2.length := d.more (Nat.le_of_lt hjn) (Nat.le_of_lt hq)
  have g2 : (S (j + 1)).2.length = (S j).2.length + 1 := by rw [hz]; simp
  have g3 : (S (j + 1)).2.length ≤ (S ops.size).2.length := d.more (Nat.le_refl _) hjn
  generalize hn : (S j).2.length = n at *
  have unm : ∀ l, μ[n]? ≠ some (some l) := fun l e => by
    obtain ⟨k, k1, k2, k3, k4, _⟩ := h.pend n l g1 e
    have hk : k < ops.size := by obtain ⟨x, hx, _⟩ := k2; exact (Array.getElem?_eq_some_iff.1 hx).1
    have hgr := InvH.grown d k2
    rcases Nat.lt_trichotomy k j with q2 | q2 | q2
    · have := d.more (Nat.le_of_lt hjn) (show k + 1 ≤ j by omega); omega
    · subst q2; exact hj k3
    · have := d.more (Nat.le_of_lt hk) (show j + 1 ≤ k by omega); omega
  have noown : ∀ c, ¬ Owned (List.replicate n none) (List.replicate n .dead) n c := fun c => noOwn (by simp)
  have frame : ∀ c, c < w.heap.size → w'.heap[c]? = w.heap[c]? := fun c hc => hp.frame c hc (noown c)
  have hcell : (List.replicate n ABlk.dead ++ [.cells false z])[n]? = some (.cells false z) := by
    rw [List.getElem?_append_right (by simp)]; simp
  have newloc : w.heap.size ≤ loc.c := by
    rcases Nat.lt_or_ge loc.c w.heap.size with q1 | q1
    · exact absurd (hp.sub loc.c q1 ⟨n, loc, Nat.le_refl _, .inl ⟨false, z, hcell⟩, hm, rfl⟩) (noown _)
    · exact q1
  have hl' : μ'.length = n + 1 := by rw [hp.hr.len]; simp
  have get : ∀ b, (μ.set n (some loc))[b]? = if b = n then some (some loc) else μ[b]? := fun b => getElem?_set' _ _ _ _ (by omega)
  have getH : ∀ b, ((S q).2 ++ Y.set (n - (S q).2.length) (.cells false z))[b]? = if b = n then some (.cells false z) else ((S q).2 ++ Y)[b]? := fun b => by
    have : (S q).2 ++ Y.set (n - (S q).2.length) (.cells false z) = ((S q).2 ++ Y).set n (.cells false z) := by rw [List.set_append_right _ _ g1]
    rw [this]
    exact getElem?_set' _ _ _ _ (by simp; omega)
  have E1 : Ext μ (μ.set n (some loc)) := fun b l e => by
    rw [get]
    by_cases e2 : b = n
    · subst e2; exact absurd e (unm l)
    · rw [if_neg e2]; exact e
  have E2 : Ext μ' ((μ.set n (some loc)).take (n + 1)) := fun b l e => by
    have hb : b < n + 1 := by rw [← hl']; exact (List.getElem?_eq_some_iff.1 e).1
    rw [List.getElem?_take, if_pos hb, get]
    by_cases e2 : b = n
    · subst e2; rw [hm] at e; rw [if_pos rfl]; exact e
    · obtain ⟨ν, ea⟩ := hp.app
      rw [ea, List.getElem?_append_left (by simp; omega), List.getElem?_replicate] at e
      split at e <;> cases e
  have al : ∀ b, b ≠ n → alive ((S q).2 ++ Y.set (n - (S q).2.length) (.cells false z)) b → alive ((S q).2 ++ Y) b := fun b e a => by
    unfold alive at a ⊢
    rw [getH, if_neg e] at a
    exact a
  have lat := h.post.hr.later hp.size frame
  refine ⟨μ.set n (some loc), Y.set (n - (S q).2.length) (.cells false z), E1, by rw [g2]; exact E2, ?_⟩
  constructor
  case start => exact h.start
  case pq => exact h.pq
  case qn => exact h.qn
  case calm => exact h.calm
  case next => exact h.next
  case done => exact fun k hk hl => (in_set (by omega)).2 (.inr (h.done k hk hl))
  case ylen => simp only [List.length_set]; exact hyl
  case rest =>
    intro k hk hl hi
    rcases (in_set (by omega)).1 hi with rfl | hi
    · exact hf
    · exact h.rest k hk hl hi
  case holes =>
    intro k b l k1 k2 k3 k4 k5 e
    have hle := d.more h.qn (show k + 1 ≤ q by omega)
    rw [get, if_neg (by omega)] at e
    exact h.holes k b l k1 k2 (fun hi => k3 ((in_set (by omega)).2 (.inr hi))) k4 k5 e
  case pend =>
    intro b l hb e
    by_cases e2 : b = n
    · refine ⟨j, Nat.le_of_lt hq, hf, (in_set (by omega)).2 (.inl rfl), by omega, ?_⟩
      subst e2
      rw [hz, List.getElem?_append_right (by omega), List.getElem?_set_self (by omega)]
      simp [hn]
    · rw [get, if_neg e2] at e
      obtain ⟨k, k1, k2, k3, k4, k5⟩ := h.pend b l hb e
      refine ⟨k, k1, k2, (in_set (by omega)).2 (.inr k3), k4, ?_⟩
      rw [List.getElem?_set_ne (by omega)]
      exact k5
  case post =>
    have hq' := h.post
    refine ⟨?_, ⟨?_, Nat.le_trans hq'.hr.grow hp.size, lat.old, fun b l e => ?_, fun b b' l l' a a' e e' => ?_⟩, hp.os.trans hq'.os, hp.tape.trans hq'.tape, hp.output.trans hq'.output, Nat.le_trans hq'.size hp.size, ?_, ?_, ?_, ?_⟩
    · obtain ⟨ν0, e0⟩ := hq'.app
      refine ⟨ν0.set (n - μ0.length) (some loc), ?_⟩
      rw [e0, List.set_append_right _ _ (by rw [h.start]; omega)]
    · simp only [List.length_set, List.length_append]; omega
    · rw [getH]
      by_cases e2 : b = n
      · subst e2
        rw [get, if_pos rfl] at e
        cases e
        rw [if_pos rfl]
        have := hp.hr.blk _ _ hm
        rw [hcell] at this
        exact this.ext (E2.trans ext_of_take)
      · rw [get, if_neg e2] at e
        rw [if_neg e2]
        exact (lat.blk b l e).ext E1
    · intro ee
      have old : ∀ b l, b ≠ n → alive ((S q).2 ++ Y.set (n - (S q).2.length) (.cells false z)) b → μ[b]? = some (some l) → l.c < w.heap.size := fun b l e a m => BR.lt (al b e a) (hq'.hr.blk b l m)
      rw [get] at e e'
      split at e <;> split at e'
      · omega
      · rename_i x1 x2; cases e; have := old b' l' x2 a' e'; omega
      · rename_i x1 x2; cases e'; have := old b l x1 a e; omega
      · rename_i x1 x2; exact hq'.hr.inj b b' l l' (al b x1 a) (al b' x2 a') e e' ee
    · exact fun c hc ho => (frame c (Nat.lt_of_lt_of_le hc hq'.size)).trans (hq'.frame c hc ho)
    · rintro c hc ⟨b, l, b1, b2, b3, b4⟩
      rw [get] at b3
      split at b3
      · cases b3
        have := hq'.size
        omega
      · rename_i x; exact hq'.sub c hc ⟨b, l, b1, al b x b2, b3, b4⟩
    · intro b hb hb0
      rw [getH, if_neg (by omega)]
      exact hq'.low b hb hb0
    · simp only [List.length_append]; omega
  case fine =>
    intro k b l k1 k2 k3 e
    have hle := d.more h.qn k2
    rw [get, if_neg (by omega)] at e
    exact ((h.fine k b l k1 k2 k3 e).later frame).ext (ext_take E1 _)

theorem take_all {α : Type} (l : List α) (n : Nat) (h : l.length = n) : l.take n = l := by rw [← h, List.take_length]

theorem draw_go (hE : EnvOK P E) (hC : CallSim P E ex) (d : Dr P E ex lim ops S) {Q : Exit → Act → World → Prop} (hQ : ∀ μ' a' w', Post w0 ro lim μ0 (S 0).2 w00 μ' (S ops.size).2 w' → AR w0 ro μ' (S ops.size).1 a' → Q .normal a' w') :
    ∀ (fuel : Nat) (L : Array Bool) (μ : Mu) (a : Act) (w : World) (p q : Nat) (Y : Heap), L.size = ops.size → ((List.range ops.size).filter fun i => !L.getD i true).length ≤ fuel → Closed ops L → InvH w0 ro P lim ops S μ0 w00 L μ w p q Y → InvT w0 ro ops S L μ a → wpAny P .any ops Q fuel L a w := by
  -- nobody is at hand: all is done
  have finish : ∀ (L : Array Bool) (μ : Mu) (a : Act) (w : World) (p q : Nat) (Y : Heap), L.size = ops.size → Closed ops L → InvH w0 ro P lim ops S μ0 w00 L μ w p q Y → InvT w0 ro ops S L μ a → Region.ready .any ops L = [] → Q .normal a w := by
    intro L μ a w p q Y hs hL hH hT hr
    have all : ∀ N i, i < N → i < ops.size → In L i := by
      intro N
      induction N with
      | zero => intro i h; omega
      | succ N ih =>
        intro i h1 h2
        have hi := Array.getElem?_eq_getElem h2
        rcases Nat.lt_or_ge i N with c | c
        · exact ih i c h2
        · cases hb : L.getD i true with
          | true =>
            unfold In
            have : i < L.size := by omega
            simp [this] at hb ⊢
            exact hb
          | false =>
            have : i ∈ Region.ready .any ops L := mem_ready.2 ⟨hb, _, hi, fun e he hbb => ih e.on (by
              have := edges_lt d.ed (show ops.toList[i]? = some ops[i] by simp) (Array.mem_toList_iff.2 he) hbb; omega) (by
              have := edges_lt d.ed (show ops.toList[i]? = some ops[i] by simp) (Array.mem_toList_iff.2 he) hbb; omega)⟩
            rw [hr] at this
            cases this
    have hq : q = ops.size := by
      rcases Nat.lt_or_ge q ops.size with c | c
      · exact absurd (hH.rest q (Nat.le_refl q) (solo_loud (hH.next c)) (all (q + 1) q (Nat.lt_succ_self q) c)) (solo_old (hH.next c))
      · have := hH.qn; omega
    subst hq
    have hY : Y = [] := List.length_eq_zero_iff.1 (by have := hH.ylen; omega)
    subst hY
    refine hQ μ a w (by have := hH.post; rwa [List.append_nil] at this) ⟨hT.defers, VRs.of_get ?_ fun t v hv => ?_⟩
    · have := d.tlen (Nat.le_refl ops.size)
      have := hT.size
      simp; omega
    · obtain ⟨v', h1, h2⟩ := hT.tmp ops.size t v (Nat.le_refl _) (fun i ⟨x, hx, _⟩ => by
        have hi := (Array.getElem?_eq_some_iff.1 hx).1
        exact ⟨fun _ => all (i + 1) i (Nat.lt_succ_self i) hi, fun _ => hi⟩) hv
      exact ⟨v', by simpa using h1, h2.ext ext_of_take⟩
  intro fuel
  induction fuel with
  | zero =>
    intro L μ a w p q Y hs hf hL hH hT
    have hr : Region.ready .any ops L = [] := by
      cases e : Region.ready .any ops L with
      | nil => rfl
      | cons i r =>
        have hi : i ∈ Region.ready .any ops L := by rw [e]; exact .head _
        obtain ⟨h1, o, h2, _⟩ := mem_ready.1 hi
        have : i ∈ (List.range ops.size).filter fun i => !L.getD i true := List.mem_filter.2 ⟨List.mem_range.2 (Array.getElem?_eq_some_iff.1 h2).1, by simp only [h1]; rfl⟩
        have := List.length_pos_of_mem this
        omega
    exact ⟨hr, finish L μ a w p q Y hs hL hH hT hr⟩
  | succ fuel ih =>
    intro L μ a w p q Y hs hf hL hH hT
    refine ⟨finish L μ a w p q Y hs hL hH hT, fun j hj => ?_⟩
    obtain ⟨hun, o, ho, hpre'⟩ := mem_ready.1 hj
    have hlt : j < ops.size := (Array.getElem?_eq_some_iff.1 ho).1
    have hpre : ∀ e ∈ o.after.toList, Region.binds .any e = true → In L e.on := fun e he hb => hpre' e (Array.mem_toList_iff.1 he) hb
    have hnot : ¬ In L j := fun h => by
      unfold In at h
      have : j < L.size := by omega
      simp [this] at hun h
      rw [hun] at h; cases h
    have hs' : (L.setIfInBounds j true).size = ops.size := by simpa using hs
    have hL' := closed_set hs hL ho hpre
    have hf' : ((List.range ops.size).filter fun i => !(L.setIfInBounds j true).getD i true).length ≤ fuel := by
      have hsub : ((List.range ops.size).filter fun i => !(L.setIfInBounds j true).getD i true).length < ((List.range ops.size).filter fun i => !L.getD i true).length := by
        have e1 : ((List.range ops.size).filter fun i => !(L.setIfInBounds j true).getD i true) = ((List.range ops.size).filter fun i => !L.getD i true).filter fun i => i != j := by
          rw [List.filter_filter]
          apply List.filter_congr
          intro i hi
          by_cases e : i = j
          · subst e
            have : i < L.size := by omega
            simp [this]
          · rw [getD_set_ne true (Ne.symm e)]
            simp [e]
        rw [e1]
        refine Nat.lt_of_le_of_ne (List.length_filter_le _ _) fun e => ?_
        have := List.length_filter_eq_length_iff.1 e j (List.mem_filter.2 ⟨List.mem_range.2 hlt, by simp only [hun]; rfl⟩)
        simp at this
      omega
    obtain ⟨v, hT', hmore, hval⟩ := d.step ho
    have har := hT.frame d hL ho hnot hpre
    by_cases hq : quietOp (lowOper P ops o).op = true
    · -- it touches no memory
      have hns : ¬ isSolo P ops j := fun hs => loud_writes ho hq (solo_loud hs)
      rcases hval with ⟨hs, _⟩ | ⟨_, _, H', hv, _⟩
      · exact absurd hs hns
      obtain ⟨_, hv2⟩ := val_quiet hq hv
      have hr := HR.blank hH.post.hr.grow hH.post.hr.old (μ.take (S j).2.length)
      refine step_val (lim := (μ.take (S j).2.length).length) hE hC ho hr har (val_patch (hv2 _ _)) fun μ' v' w' hp hvr => ?_
      have hμ : μ' = μ.take (S j).2.length := by
        obtain ⟨ν, e⟩ := hp.app
        have := hp.hr.len
        rw [e] at this
        simp only [List.length_append, List.length_replicate] at this
        have : ν = [] := List.length_eq_zero_iff.1 (by omega)
        rw [e, this, List.append_nil]
      have fr : ∀ c, c < w.heap.size → w'.heap[c]? = w.heap[c]? := fun c hc => hp.frame c hc (noOwn (Nat.le_refl _))
      refine ih _ μ _ w' p q Y hs' hf' hL' (hH.later (loud_writes ho hq) (by omega) hp.size fr hp.os hp.tape hp.output) ?_
      refine hT.put d hs hL ho hnot hpre hT' (Ext.refl μ) (hvr.ext ?_)
      rw [hμ]
      exact ext_take_le hmore
    · have hloud : isLoud P ops j := ⟨o, ho, by simpa using hq⟩
      have hpj : p ≤ j := by
        rcases Nat.lt_or_ge j p with c | c
        · exact absurd (hH.done j c hloud) hnot
        · exact c
      by_cases hjq : j ≤ q
      case neg =>
        -- ahead of its turn
        have hqj : q < j := by omega
        have hsolo := hH.next (by omega)
        have hfr : isFresh P ops j := by
          rcases d.solo hsolo hloud (by omega) with this | ⟨this, _⟩
          · unfold held at this
            rw [if_pos hqj] at this
            exact absurd (hH.rest q (Nat.le_refl q) (solo_loud hsolo) (d.ahead hL ho hpre this)) (solo_old hsolo)
          · exact this
        have hfr' := hfr
        obtain ⟨oo, ho', hfo⟩ := hfr'
        rw [ho] at ho'; cases ho'
        obtain ⟨z, e1, e2, _, e3, e4⟩ := d.fresh ho hfo
        have hr := HR.blank hH.post.hr.grow hH.post.hr.old (List.replicate (S j).2.length (none : Option Loc))
        simp only [List.length_replicate] at hr
        have har2 : AR w0 ro (List.replicate (S j).2.length none) (patch (S j).1 []) a := by
          refine ⟨har.1, VRs.of_get (by have := har.2.len; simpa [patch] using this) fun t v hv => ?_⟩
          rw [patch_get, Option.map_eq_some_iff] at hv
          obtain ⟨u, x1, x2⟩ := hv
          simp only [List.contains_nil, Bool.false_eq_true, if_false] at x2
          subst x2
          have ht : t < a.tmps.toList.length := by
            rw [← har.2.len]
            have := (List.getElem?_eq_some_iff.1 x1).1
            simpa [patch] using this
          exact ⟨a.tmps.toList[t], List.getElem?_eq_getElem ht, .undef _⟩
        have hval2 : ValOf E ex (S j).2.length (lowOper P ops o) (patch (S j).1 []) (List.replicate (S j).2.length .dead) (.ptr (some ((S j).2.length, 0))) (List.replicate (S j).2.length .dead ++ [.cells false z]) := by
          refine .inr ⟨by rw [e1]; rfl, ?_⟩
          rw [e2]
          simp [runOp, aop]
        refine step_val (lim := (S j).2.length) hE hC ho hr har2 hval2 fun μ' v' w' hp hvr => ?_
        obtain ⟨loc, hm⟩ : ∃ loc : Loc, μ'[(S j).2.length]? = some (some loc) := by
          cases hvr with | ptr h => exact ⟨_, h⟩
        obtain ⟨μ'', Y', g1, g2, g3⟩ := hH.early d hs hfr hnot hqj e4 hp hm
        have hvv : (.ptr (some ((S j).2.length, 0)) : AV) = v := by
          have : putT (S j).1 o.dst (.ptr (some ((S j).2.length, 0))) = putT (S j).1 o.dst v := by rw [← e3, hT']
          rcases hval with ⟨hs2, _⟩ | ⟨_, _, H', hv, _⟩
          · exact absurd hfr (solo_old hs2)
          · rcases hv with ⟨x1, _⟩ | ⟨_, x2⟩
            · rw [e1] at x1; simp [wantedA] at x1
            · rw [e2] at x2
              simp only [runOp, aop, Option.some.injEq, Prod.mk.injEq] at x2
              exact x2.1
        exact ih _ μ'' _ w' p q Y' hs' hf' hL' g3 (hT.put d hs hL ho hnot hpre e3 g1 (hvr.ext g2))
      case pos =>
      rcases Nat.lt_or_ge j q with c | c
      · have hns := hH.calm j hpj c
        rcases hval with ⟨hs, _⟩ | ⟨_, _, H', hv, hH'⟩
        · exact absurd hs hns
        refine step_val hE hC ho (hH.soft_hr d hpj hjq) har (val_patch hv) fun μ' v' w' hp hvr => ?_
        have e : (S (j + 1)).2 = H' := by rw [hH']; exact take_pre hp.more fun b hb => hp.low b hb hb
        rw [← e] at hp
        obtain ⟨μ'', e1, e2, h3⟩ := hH.soft d (by omega) hnot hpj c hp
        refine ih _ μ'' _ w' p q Y hs' hf' hL' h3 (hT.put d hs hL ho hnot hpre hT' e1 ?_)
        rw [e2]
        exact hvr
      · have : j = q := by omega
        subst this
        rcases hval with ⟨_, hv⟩ | ⟨hns, _⟩
        · refine step_val hE hC ho (hH.soft_hr d hpj hjq) har (val_patch hv) fun μ' v' w' hp hvr => ?_
          obtain ⟨μ'', p', q', Y', e1, e2, h3⟩ := hH.hard d hs hL ho hnot hpre hp
          exact ih _ μ'' _ w' p' q' Y' hs' hf' hL' h3 (hT.put d hs hL ho hnot hpre hT' e1 (hvr.ext e2))
        · exact absurd (hH.next hlt) hns

theorem draw_sim (hE : EnvOK P E) (hC : CallSim P E ex) {id : Nat} {T : Tmps} {H : Heap} {a : Act} {T' : Tmps} {H' : Heap} {Q : Exit → Act → World → Prop}
    (hr : HR w0 ro μ H w) (hle : lim ≤ H.length) (har : AR w0 ro μ T a) (hap : apartOk (befores ops.toList []) (ops.toList.map (lowOper P ops)) = true) (hed : edgesOk ops.toList = true)
    (h : runDraw E ex lim (flagged (befores ops.toList []) (ops.toList.map (lowOper P ops))) T H = some (T', H'))
    (hQ : ∀ μ' a' w', Post w0 ro lim μ H w μ' H' w' → AR w0 ro μ' T' a' → Q .normal a' w') : (Code.region id ops true).wp P Q a w := by
  obtain ⟨S, h1, h2, h3⟩ := draw_states _ T H _ h
  have hlen : (flagged (befores ops.toList []) (ops.toList.map (lowOper P ops))).length = ops.size := by simp [flagged]
  rw [hlen] at h2
  have d : Dr P E ex lim ops S := ⟨hap, hed, by rw [h1]; exact hle, fun k oo hk => h3 k _ _ (by
    unfold flagged
    rw [List.getElem?_map, List.getElem?_zipIdx, Dr.low hk]
    simp)⟩
  have hr' : HR w0 ro μ H { w with drawn := w.drawn + 1 } := hr.later (Nat.le_refl _) fun _ _ => rfl
  obtain ⟨q, c1, c2, c3, c4⟩ := next_solo P ops ops.size 0 (by omega)
  obtain ⟨X, hX⟩ := d.pre c2 c1 c3
  have s1 : (S 0).2 = H := by rw [h1]
  have s2 : (S 0).1 = T := by rw [h1]
  rw [s1] at hX
  have none : ∀ k, ¬ In (Array.replicate ops.size false) k := fun k hk => by
    unfold In at hk
    rcases Nat.lt_or_ge k ops.size with c | c
    · simp [c] at hk
    · simp [Nat.not_lt.2 c] at hk
  have hup : (S q).2.length ≤ (S ops.size).2.length := d.more (Nat.le_refl _) c2
  generalize hY : List.replicate ((S ops.size).2.length - (S q).2.length) ABlk.dead = Y
  have hYl : Y.length = (S ops.size).2.length - (S q).2.length := by rw [← hY]; simp
  have old : ∀ (b : Nat) (loc : Loc), (μ ++ List.replicate (X ++ Y).length Option.none)[b]? = some (some loc) → b < H.length ∧ μ[b]? = some (some loc) := fun b loc e => by
    rcases Nat.lt_or_ge b μ.length with q1 | q1
    · rw [List.getElem?_append_left q1] at e; exact ⟨by have := hr.len; omega, e⟩
    · rw [List.getElem?_append_right q1, List.getElem?_replicate] at e
      split at e <;> cases e
  have tk : (μ ++ List.replicate (X ++ Y).length Option.none).take (S 0).2.length = μ := by
    rw [s1, ← hr.len, List.take_append_of_le_length (Nat.le_refl _), List.take_length]
  refine wp_region_any hE.mixed (draw_go (w0 := w0) (ro := ro) (lim := lim) (S := S) (μ0 := μ) (w00 := { w with drawn := w.drawn + 1 }) hE hC d ?_ ops.size (Array.replicate ops.size false) (μ ++ List.replicate (X ++ Y).length Option.none) a { w with drawn := w.drawn + 1 } 0 q Y (by simp) (by
      refine Nat.le_trans (List.length_filter_le _ _) (by simp)) (fun j o _ hj => absurd hj (none j)) ?_ ?_)
  · intro μ' a' w' hp ha
    rw [s1, h2] at hp
    rw [h2] at ha
    exact hQ μ' a' w' ⟨hp.app, hp.hr, hp.os, hp.tape, hp.output, hp.size, hp.frame, hp.sub, hp.low, hp.more⟩ ha
  · constructor
    case start => rw [s1]; exact hr.len
    case pq => exact Nat.zero_le _
    case qn => exact c2
    case calm => exact c3
    case next => exact c4
    case done => intro k hk; omega
    case rest => exact fun k _ _ h => absurd h (none k)
    case ylen => omega
    case pend =>
      intro b loc k1 e
      have := (old b loc e).1
      have := d.more c2 (Nat.zero_le q)
      rw [s1] at this
      omega
    case holes =>
      intro k b loc k1 k2 k3 k4 k5 e
      have := (old b loc e).1
      have := d.more (show k ≤ ops.size by omega) (Nat.zero_le k)
      rw [s1] at this
      omega
    case post => rw [s1, hX, List.append_assoc]; exact (Post.refl hr').room (X ++ Y)
    case fine =>
      intro k b loc k1 k2 k3 e
      obtain ⟨b1, b2⟩ := old b loc e
      have := hr'.blk b loc b2
      rw [hX, List.getElem?_append_left b1]
      refine this.ext ?_
      have hle3 := d.more (show k ≤ ops.size by omega) k1
      have E3 : Ext ((μ ++ List.replicate (X ++ Y).length Option.none).take (S 0).2.length) ((μ ++ List.replicate (X ++ Y).length Option.none).take (S k).2.length) := ext_take_le hle3
      rw [tk] at E3
      exact E3
  · refine ⟨har.1, by rw [s2, har.2.len]; simp, fun m t v hm hc hv => ?_⟩
    have e : (S m).1[t]? = (S 0).1[t]? := d.keep hm (Nat.zero_le m) fun i _ h2 hw => none i ((hc i hw).1 h2)
    rw [e, s2] at hv
    obtain ⟨v', h5, h6⟩ := har.get hv
    refine ⟨v', h5, h6.ext ?_⟩
    have hle3 := d.more hm (Nat.zero_le m)
    have E3 : Ext ((μ ++ List.replicate (X ++ Y).length Option.none).take (S 0).2.length) ((μ ++ List.replicate (X ++ Y).length Option.none).take (S m).2.length) := ext_take_le hle3
    rw [tk] at E3
    exact E3

end
end Go.Proofs.YtdbgebbofpgjmaaGreatA

/- Regions whose order is drawn: every order comes to the same (end). No statement about the program is proved here. -/
import Derived.Test.YtdbgebbofpgjmaaGreatA13
namespace Go.Proofs.YtdbgebbofpgjmaaGreatA
open Go Go.RowKit
set_option linter.unusedVariables false

section
variable {w0 : World} {ro : Nat → Prop} {P : Program} {lim : Nat} {E : AEnv} {ex : AC → Nat → Tmps → Heap → Step} {ops : Array Oper} {S : Nat → Tmps × Heap}
variable {μ0 : Mu} {w00 w : World} {L : Array Bool} {μ : Mu} {p q : Nat}

theorem InvH.len (h : InvH w0 ro P lim ops S μ0 w00 L μ w p q) : μ.length = (S q).2.length := h.post.hr.len

theorem InvH.prefix (d : Dr P E ex lim ops S) (h : InvH w0 ro P lim ops S μ0 w00 L μ w p q) {k : Nat} (h1 : p ≤ k) (h2 : k ≤ q) : ∃ X, (S q).2 = (S k).2 ++ X :=
  d.pre h.qn h2 fun i a b => h.calm i (by omega) b

theorem InvH.soft_hr (d : Dr P E ex lim ops S) (h : InvH w0 ro P lim ops S μ0 w00 L μ w p q) {j : Nat} (h1 : p ≤ j) (h2 : j ≤ q) : HR w0 ro (μ.take (S j).2.length) (S j).2 w := by
  obtain ⟨X, hX⟩ := h.prefix d h1 h2
  have hl := h.len
  have hle : (S j).2.length ≤ (S q).2.length := d.more h.qn h2
  have tk : ∀ (b : Nat) (loc : Loc), (μ.take (S j).2.length)[b]? = some (some loc) → b < (S j).2.length ∧ μ[b]? = some (some loc) := fun b loc e => by
    rw [List.getElem?_take] at e
    split at e
    · exact ⟨by assumption, e⟩
    · cases e
  refine ⟨by simp; omega, h.post.hr.grow, h.post.hr.old, fun b loc e => ?_, fun b b' l l' a a' e e' => ?_⟩
  · obtain ⟨q1, e1⟩ := tk b loc e
    have := h.fine j b loc h1 h2 q1 e1
    rw [hX, List.getElem?_append_left q1] at this
    exact this
  · refine h.post.hr.inj b b' l l' ?_ ?_ (tk b l e).2 (tk b' l' e').2
    · rw [hX]; exact alive_pre a
    · rw [hX]; exact alive_pre a'

theorem InvH.soft (d : Dr P E ex lim ops S) (h : InvH w0 ro P lim ops S μ0 w00 L μ w p q) {j : Nat} (hlt : j < L.size) (hj : ¬ In L j) (h1 : p ≤ j) (h2 : j < q) {μ' : Mu} {w' : World}
    (hp : Post w0 ro (S j).2.length (μ.take (S j).2.length) (S j).2 w μ' (S (j + 1)).2 w') :
    ∃ μ'', Ext μ μ'' ∧ μ''.take (S (j + 1)).2.length = μ' ∧ InvH w0 ro P lim ops S μ0 w00 (L.setIfInBounds j true) μ'' w' p q := by
  have hl := h.len
  have hle0 : (S 0).2.length ≤ (S j).2.length := d.more (by have := h.qn; omega) (Nat.zero_le _)
  have hle1 : (S j).2.length ≤ (S (j + 1)).2.length := d.more (by have := h.qn; omega) (Nat.le_succ j)
  have hle2 : (S (j + 1)).2.length ≤ (S q).2.length := d.more h.qn h2
  obtain ⟨X, hX⟩ := h.prefix d (show p ≤ j + 1 by omega) h2
  have hl' : μ'.length = (S (j + 1)).2.length := hp.hr.len
  have hj' : (μ.take (S j).2.length).length = (S j).2.length := by simp; omega
  have noown : ∀ c, ¬ Owned (μ.take (S j).2.length) (S j).2 (S j).2.length c := fun c => noOwn (by simp; omega)
  have frame : ∀ c, c < w.heap.size → w'.heap[c]? = w.heap[c]? := fun c hc => hp.frame c hc (noown c)
  have newloc : ∀ (b : Nat) (loc : Loc), (S j).2.length ≤ b → alive (S (j + 1)).2 b → μ'[b]? = some (some loc) → w.heap.size ≤ loc.c := fun b loc hb ha hm => by
    rcases Nat.lt_or_ge loc.c w.heap.size with q1 | q1
    · exact absurd (hp.sub loc.c q1 ⟨b, loc, hb, ha, hm, rfl⟩) (noown _)
    · exact q1
  have low : ∀ b, b < (S j).2.length → μ'[b]? = μ[b]? := fun b hb => by
    obtain ⟨ν, e⟩ := hp.app
    rw [e, List.getElem?_append_left (by omega), List.getElem?_take, if_pos hb]
  have get : ∀ b, (μ' ++ μ.drop (S (j + 1)).2.length)[b]? = if b < (S (j + 1)).2.length then μ'[b]? else μ[b]? := fun b => by
    split
    · rw [List.getElem?_append_left (by omega)]
    · rw [List.getElem?_append_right (by omega), List.getElem?_drop]
      congr 1; omega
  -- what is mapped is old, or it is new
  have cls : ∀ (b : Nat) (loc : Loc), (μ' ++ μ.drop (S (j + 1)).2.length)[b]? = some (some loc) → ((b < (S j).2.length ∨ (S (j + 1)).2.length ≤ b) ∧ μ[b]? = some (some loc)) ∨ ((S j).2.length ≤ b ∧ b < (S (j + 1)).2.length ∧ μ'[b]? = some (some loc)) := fun b loc e => by
    rw [get] at e
    split at e
    · rename_i q1
      rcases Nat.lt_or_ge b (S j).2.length with q2 | q2
      · rw [low b q2] at e; exact .inl ⟨.inl q2, e⟩
      · exact .inr ⟨q2, q1, e⟩
    · rename_i q1; exact .inl ⟨.inr (by omega), e⟩
  have E1 : Ext μ (μ' ++ μ.drop (S (j + 1)).2.length) := fun b loc e => by
    rw [get]
    split
    · rename_i q1
      rcases Nat.lt_or_ge b (S j).2.length with q2 | q2
      · rw [low b q2]; exact e
      · exact absurd e (h.holes j b loc h1 h2 hj q2 q1)
    · exact e
  have tk : (μ' ++ μ.drop (S (j + 1)).2.length).take (S (j + 1)).2.length = μ' := by
    rw [← hl', List.take_append_of_le_length (Nat.le_refl _), List.take_length]
  have E2 : Ext μ' (μ' ++ μ.drop (S (j + 1)).2.length) := Ext.app _ _
  have lat := h.post.hr.later hp.size frame
  refine ⟨μ' ++ μ.drop (S (j + 1)).2.length, E1, tk, ?_⟩
  constructor
  case start => exact h.start
  case pq => exact h.pq
  case qn => exact h.qn
  case done => exact fun k hk hl => (in_set hlt).2 (.inr (h.done k hk hl))
  case calm => exact h.calm
  case next => exact h.next
  case rest =>
    intro k hk hl hi
    rcases (in_set hlt).1 hi with rfl | hi
    · omega
    · exact h.rest k hk hl hi
  case holes =>
    intro k b loc k1 k2 k3 k4 k5 e
    have hne : k ≠ j := fun e => k3 ((in_set hlt).2 (.inl e))
    have k3' : ¬ In L k := fun hi => k3 ((in_set hlt).2 (.inr hi))
    rcases cls b loc e with ⟨_, e'⟩ | ⟨c1, c2, _⟩
    · exact h.holes k b loc k1 k2 k3' k4 k5 e'
    · rcases Nat.lt_or_gt_of_ne hne with q1 | q1
      · have := d.more (show j ≤ ops.size by have := h.qn; omega) (show k + 1 ≤ j by omega); omega
      · have := d.more (show k ≤ ops.size by have := h.qn; omega) (show j + 1 ≤ k by omega); omega
  case post =>
    have hq := h.post
    refine ⟨?_, ⟨?_, Nat.le_trans hq.hr.grow hp.size, lat.old, fun b loc e => ?_, fun b b' l l' a a' e e' => ?_⟩, hp.os.trans hq.os, hp.tape.trans hq.tape, hp.output.trans hq.output, Nat.le_trans hq.size hp.size, ?_, ?_, hq.low, hq.more⟩
    · obtain ⟨ν0, e0⟩ := hq.app
      obtain ⟨ν, e1⟩ := hp.app
      have hm0 : μ0.length ≤ (S j).2.length := by rw [h.start]; exact hle0
      refine ⟨(ν0.take ((S j).2.length - μ0.length)) ++ ν ++ μ.drop (S (j + 1)).2.length, ?_⟩
      rw [e1]
      have : μ.take (S j).2.length = μ0 ++ ν0.take ((S j).2.length - μ0.length) := by
        rw [e0, List.take_append, List.take_of_length_le hm0]
      rw [this]
      simp only [List.append_assoc]
    · simp only [List.length_append, List.length_drop]; omega
    · rcases Nat.lt_or_ge b (S (j + 1)).2.length with q1 | q1
      · rw [get, if_pos q1] at e
        have := (hp.hr.blk b loc e).ext E2
        rw [hX, List.getElem?_append_left q1]
        exact this
      · rw [get, if_neg (by omega)] at e
        exact (lat.blk b loc e).ext E1
    · have old : ∀ (b : Nat) (l : Loc), alive (S q).2 b → μ[b]? = some (some l) → l.c < w.heap.size := fun b l a e => BR.lt a (hq.hr.blk b l e)
      have new : ∀ (b : Nat) (l : Loc), alive (S q).2 b → (S j).2.length ≤ b → b < (S (j + 1)).2.length → μ'[b]? = some (some l) → w.heap.size ≤ l.c := fun b l a c1 c2 e => by
        refine newloc b l c1 ?_ e
        rw [hX] at a
        exact alive_cut c2 a
      intro ee
      rcases cls b l e with ⟨_, x⟩ | ⟨c1, c2, x⟩ <;> rcases cls b' l' e' with ⟨_, x'⟩ | ⟨c1', c2', x'⟩
      · exact hq.hr.inj b b' l l' a a' x x' ee
      · have := old b l a x; have := new b' l' a' c1' c2' x'; omega
      · have := old b' l' a' x'; have := new b l a c1 c2 x; omega
      · rw [hX] at a a'
        exact hp.hr.inj b b' l l' (alive_cut c2 a) (alive_cut c2' a') x x' ee
    · exact fun c hc ho => (frame c (Nat.lt_of_lt_of_le hc hq.size)).trans (hq.frame c hc ho)
    · rintro c hc ⟨b, loc, b1, b2, b3, b4⟩
      rcases cls b loc b3 with ⟨_, x⟩ | ⟨c1, c2, x⟩
      · exact hq.sub c hc ⟨b, loc, b1, b2, x, b4⟩
      · rw [hX] at b2
        have := newloc b loc c1 (alive_cut c2 b2) x
        have := hq.size
        omega
  case fine =>
    intro k b loc k1 k2 k3 e
    rcases cls b loc e with ⟨_, x⟩ | ⟨c1, c2, x⟩
    · exact ((h.fine k b loc k1 k2 k3 x).later frame).ext (ext_take E1 _)
    · have hjk : j + 1 ≤ k := by
        rcases Nat.lt_or_ge j k with q1 | q1
        · exact q1
        · have := d.more (show j ≤ ops.size by have := h.qn; omega) q1; omega
      have hle3 := d.more (show k ≤ ops.size by have := h.qn; omega) hjk
      have := (hp.hr.blk b loc x)
      rw [hX, List.getElem?_append_left c2]
      refine this.ext ?_
      have E3 : Ext ((μ' ++ μ.drop (S (j + 1)).2.length).take (S (j + 1)).2.length) ((μ' ++ μ.drop (S (j + 1)).2.length).take (S k).2.length) := ext_take_le hle3
      rw [tk] at E3
      exact E3


/-- One that may write. -/
theorem InvH.hard (d : Dr P E ex lim ops S) (h : InvH w0 ro P lim ops S μ0 w00 L μ w p q) (hs : L.size = ops.size) (hL : Closed ops L) {o : Oper} (ho : ops[q]? = some o) (hj : ¬ In L q) (hpre : ∀ e ∈ o.after.toList, Region.binds .any e = true → In L e.on) {μ' : Mu} {w' : World}
    (hp : Post w0 ro lim μ (S q).2 w μ' (S (q + 1)).2 w') :
    ∃ μ'' p' q', Ext μ μ'' ∧ Ext μ' (μ''.take (S (q + 1)).2.length) ∧ InvH w0 ro P lim ops S μ0 w00 (L.setIfInBounds q true) μ'' w' p' q' := by
  have hlt : q < ops.size := (Array.getElem?_eq_some_iff.1 ho).1
  have hsolo := h.next hlt
  obtain ⟨q', c1, c2, c3, c4⟩ := next_solo P ops (ops.size - (q + 1)) (q + 1) (by omega)
  obtain ⟨X, hX⟩ := d.pre c2 c1 c3
  have hl' : μ'.length = (S (q + 1)).2.length := hp.hr.len
  have tk : (μ' ++ List.replicate X.length none).take (S (q + 1)).2.length = μ' := by
    rw [← hl', List.take_append_of_le_length (Nat.le_refl _), List.take_length]
  have E2 : Ext μ' (μ' ++ List.replicate X.length none) := Ext.app _ _
  have old : ∀ (b : Nat) (loc : Loc), (μ' ++ List.replicate X.length none)[b]? = some (some loc) → b < (S (q + 1)).2.length ∧ μ'[b]? = some (some loc) := fun b loc e => by
    rcases Nat.lt_or_ge b μ'.length with q1 | q1
    · rw [List.getElem?_append_left q1] at e; exact ⟨by omega, e⟩
    · rw [List.getElem?_append_right q1, List.getElem?_replicate] at e
      split at e <;> cases e
  refine ⟨μ' ++ List.replicate X.length none, q + 1, q', hp.ext.trans E2, by rw [tk]; exact Ext.refl _, ?_⟩
  constructor
  case start => exact h.start
  case pq => exact c1
  case qn => exact c2
  case calm => exact c3
  case next => exact c4
  case done =>
    intro k hk hl
    rw [in_set (by omega)]
    by_cases e : k = q
    · exact .inl e
    · have := d.solo hsolo hl (Ne.symm e)
      unfold held at this
      rw [if_neg (by omega)] at this
      exact .inr (d.ahead hL ho hpre this)
  case rest =>
    intro k hk hl hi
    have hne : k ≠ q := by omega
    have hi' := ((in_set (by omega)).1 hi).resolve_left hne
    have := d.solo hsolo hl (Ne.symm hne)
    unfold held at this
    rw [if_pos (by omega)] at this
    obtain ⟨x, hx, _⟩ := hl
    exact hj (d.ahead hL hx (hL k x hx hi') this)
  case holes =>
    intro k b loc k1 k2 k3 k4 k5 e
    have := (old b loc e).1
    have := d.more (show k ≤ ops.size by omega) k1
    omega
  case post =>
    rw [hX]
    exact (h.post.trans hp).room X
  case fine =>
    intro k b loc k1 k2 k3 e
    obtain ⟨b1, b2⟩ := old b loc e
    have := hp.hr.blk b loc b2
    rw [hX, List.getElem?_append_left b1]
    refine this.ext ?_
    have hle3 := d.more (show k ≤ ops.size by omega) k1
    have E3 : Ext ((μ' ++ List.replicate X.length none).take (S (q + 1)).2.length) ((μ' ++ List.replicate X.length none).take (S k).2.length) := ext_take_le hle3
    rw [tk] at E3
    exact E3

theorem take_all {α : Type} (l : List α) (n : Nat) (h : l.length = n) : l.take n = l := by rw [← h, List.take_length]

theorem draw_go (hE : EnvOK P E) (hC : CallSim P E ex) (d : Dr P E ex lim ops S) {Q : Exit → Act → World → Prop} (hQ : ∀ μ' a' w', Post w0 ro lim μ0 (S 0).2 w00 μ' (S ops.size).2 w' → AR w0 ro μ' (S ops.size).1 a' → Q .normal a' w') :
    ∀ (fuel : Nat) (L : Array Bool) (μ : Mu) (a : Act) (w : World) (p q : Nat), L.size = ops.size → ((List.range ops.size).filter fun i => !L.getD i true).length ≤ fuel → Closed ops L → InvH w0 ro P lim ops S μ0 w00 L μ w p q → InvT w0 ro ops S L μ a → wpAny P .any ops Q fuel L a w := by
  -- nobody is at hand: all is done
  have finish : ∀ (L : Array Bool) (μ : Mu) (a : Act) (w : World) (p q : Nat), L.size = ops.size → Closed ops L → InvH w0 ro P lim ops S μ0 w00 L μ w p q → InvT w0 ro ops S L μ a → Region.ready .any ops L = [] → Q .normal a w := by
    intro L μ a w p q hs hL hH hT hr
    have all : ∀ N i, i < N → i < ops.size → In L i := by
      intro N
      induction N with
      | zero => intro i h; omega
      | succ N ih =>
        intro i h1 h2
        have hi := Array.getElem?_eq_getElem h2
        rcases Nat.lt_or_ge i N with c | c
        · exact ih i c h2
        · cases hb : L.getD i true with
          | true =>
            unfold In
            have : i < L.size := by omega
            simp [this] at hb ⊢
            exact hb
          | false =>
            have : i ∈ Region.ready .any ops L := mem_ready.2 ⟨hb, _, hi, fun e he hbb => ih e.on (by
              have := edges_lt d.ed (show ops.toList[i]? = some ops[i] by simp) (Array.mem_toList_iff.2 he) hbb; omega) (by
              have := edges_lt d.ed (show ops.toList[i]? = some ops[i] by simp) (Array.mem_toList_iff.2 he) hbb; omega)⟩
            rw [hr] at this
            cases this
    have hq : q = ops.size := by
      rcases Nat.lt_or_ge q ops.size with c | c
      · exact absurd (all (q + 1) q (Nat.lt_succ_self q) c) (hH.rest q (Nat.le_refl q) (solo_loud (hH.next c)))
      · have := hH.qn; omega
    subst hq
    refine hQ μ a w hH.post ⟨hT.defers, VRs.of_get ?_ fun t v hv => ?_⟩
    · have := d.tlen (Nat.le_refl ops.size)
      have := hT.size
      simp; omega
    · obtain ⟨v', h1, h2⟩ := hT.tmp ops.size t v (Nat.le_refl _) (fun i ⟨x, hx, _⟩ => by
        have hi := (Array.getElem?_eq_some_iff.1 hx).1
        exact ⟨fun _ => all (i + 1) i (Nat.lt_succ_self i) hi, fun _ => hi⟩) hv
      exact ⟨v', by simpa using h1, h2.ext ext_of_take⟩
  intro fuel
  induction fuel with
  | zero =>
    intro L μ a w p q hs hf hL hH hT
    have hr : Region.ready .any ops L = [] := by
      cases e : Region.ready .any ops L with
      | nil => rfl
      | cons i r =>
        have hi : i ∈ Region.ready .any ops L := by rw [e]; exact .head _
        obtain ⟨h1, o, h2, _⟩ := mem_ready.1 hi
        have : i ∈ (List.range ops.size).filter fun i => !L.getD i true := List.mem_filter.2 ⟨List.mem_range.2 (Array.getElem?_eq_some_iff.1 h2).1, by simp only [h1]; rfl⟩
        have := List.length_pos_of_mem this
        omega
    exact ⟨hr, finish L μ a w p q hs hL hH hT hr⟩
  | succ fuel ih =>
    intro L μ a w p q hs hf hL hH hT
    refine ⟨finish L μ a w p q hs hL hH hT, fun j hj => ?_⟩
    obtain ⟨hun, o, ho, hpre'⟩ := mem_ready.1 hj
    have hlt : j < ops.size := (Array.getElem?_eq_some_iff.1 ho).1
    have hpre : ∀ e ∈ o.after.toList, Region.binds .any e = true → In L e.on := fun e he hb => hpre' e (Array.mem_toList_iff.1 he) hb
    have hnot : ¬ In L j := fun h => by
      unfold In at h
      have : j < L.size := by omega
      simp [this] at hun h
      rw [hun] at h; cases h
    have hs' : (L.setIfInBounds j true).size = ops.size := by simpa using hs
    have hL' := closed_set hs hL ho hpre
    have hf' : ((List.range ops.size).filter fun i => !(L.setIfInBounds j true).getD i true).length ≤ fuel := by
      have hsub : ((List.range ops.size).filter fun i => !(L.setIfInBounds j true).getD i true).length < ((List.range ops.size).filter fun i => !L.getD i true).length := by
        have e1 : ((List.range ops.size).filter fun i => !(L.setIfInBounds j true).getD i true) = ((List.range ops.size).filter fun i => !L.getD i true).filter fun i => i != j := by
          rw [List.filter_filter]
          apply List.filter_congr
          intro i hi
          by_cases e : i = j
          · subst e
            have : i < L.size := by omega
            simp [this]
          · rw [getD_set_ne true (Ne.symm e)]
            simp [e]
        rw [e1]
        refine Nat.lt_of_le_of_ne (List.length_filter_le _ _) fun e => ?_
        have := List.length_filter_eq_length_iff.1 e j (List.mem_filter.2 ⟨List.mem_range.2 hlt, by simp only [hun]; rfl⟩)
        simp at this
      omega
    obtain ⟨v, hT', hmore, hval⟩ := d.step ho
    have har := hT.frame d hL ho hnot hpre
    by_cases hq : quietOp (lowOper P ops o).op = true
    · -- it touches no memory
      have hns : ¬ isSolo P ops j := fun hs => loud_writes ho hq (solo_loud hs)
      rcases hval with ⟨hs, _⟩ | ⟨_, _, H', hv, _⟩
      · exact absurd hs hns
      obtain ⟨_, hv2⟩ := val_quiet hq hv
      have hr := HR.blank hH.post.hr.grow hH.post.hr.old (μ.take (S j).2.length)
      refine step_val (lim := (μ.take (S j).2.length).length) hE hC ho hr har (val_patch (hv2 _ _)) fun μ' v' w' hp hvr => ?_
      have hμ : μ' = μ.take (S j).2.length := by
        obtain ⟨ν, e⟩ := hp.app
        have := hp.hr.len
        rw [e] at this
        simp only [List.length_append, List.length_replicate] at this
        have : ν = [] := List.length_eq_zero_iff.1 (by omega)
        rw [e, this, List.append_nil]
      have fr : ∀ c, c < w.heap.size → w'.heap[c]? = w.heap[c]? := fun c hc => hp.frame c hc (noOwn (Nat.le_refl _))
      refine ih _ μ _ w' p q hs' hf' hL' (hH.later (loud_writes ho hq) (by omega) hp.size fr hp.os hp.tape hp.output) ?_
      refine hT.put d hs hL ho hnot hpre hT' (Ext.refl μ) (hvr.ext ?_)
      rw [hμ]
      exact ext_take_le hmore
    · have hloud : isLoud P ops j := ⟨o, ho, by simpa using hq⟩
      have hpj : p ≤ j := by
        rcases Nat.lt_or_ge j p with c | c
        · exact absurd (hH.done j c hloud) hnot
        · exact c
      have hjq : j ≤ q := by
        rcases Nat.lt_or_ge q j with c | c
        · have hsolo := hH.next (by omega)
          have := d.solo hsolo hloud (by omega)
          unfold held at this
          rw [if_pos c] at this
          exact absurd (d.ahead hL ho hpre this) (hH.rest q (Nat.le_refl q) (solo_loud hsolo))
        · exact c
      rcases Nat.lt_or_ge j q with c | c
      · have hns := hH.calm j hpj c
        rcases hval with ⟨hs, _⟩ | ⟨_, _, H', hv, hH'⟩
        · exact absurd hs hns
        refine step_val hE hC ho (hH.soft_hr d hpj hjq) har (val_patch hv) fun μ' v' w' hp hvr => ?_
        have e : (S (j + 1)).2 = H' := by rw [hH']; exact take_pre hp.more fun b hb => hp.low b hb hb
        rw [← e] at hp
        obtain ⟨μ'', e1, e2, h3⟩ := hH.soft d (by omega) hnot hpj c hp
        refine ih _ μ'' _ w' p q hs' hf' hL' h3 (hT.put d hs hL ho hnot hpre hT' e1 ?_)
        rw [e2]
        exact hvr
      · have : j = q := by omega
        subst this
        rcases hval with ⟨_, hv⟩ | ⟨hns, _⟩
        · rw [take_all _ _ hH.len] at har
          refine step_val hE hC ho hH.post.hr har (val_patch hv) fun μ' v' w' hp hvr => ?_
          obtain ⟨μ'', p', q', e1, e2, h3⟩ := hH.hard d hs hL ho hnot hpre hp
          exact ih _ μ'' _ w' p' q' hs' hf' hL' h3 (hT.put d hs hL ho hnot hpre hT' e1 (hvr.ext e2))
        · exact absurd (hH.next hlt) hns

theorem draw_sim (hE : EnvOK P E) (hC : CallSim P E ex) {id : Nat} {T : Tmps} {H : Heap} {a : Act} {T' : Tmps} {H' : Heap} {Q : Exit → Act → World → Prop}
    (hr : HR w0 ro μ H w) (har : AR w0 ro μ T a) (hap : apartOk (befores ops.toList []) (ops.toList.map (lowOper P ops)) = true) (hed : edgesOk ops.toList = true)
    (h : runDraw E ex lim (flagged (befores ops.toList []) (ops.toList.map (lowOper P ops))) T H = some (T', H'))
    (hQ : ∀ μ' a' w', Post w0 ro lim μ H w μ' H' w' → AR w0 ro μ' T' a' → Q .normal a' w') : (Code.region id ops true).wp P Q a w := by
  obtain ⟨S, h1, h2, h3⟩ := draw_states _ T H _ h
  have hlen : (flagged (befores ops.toList []) (ops.toList.map (lowOper P ops))).length = ops.size := by simp [flagged]
  rw [hlen] at h2
  have d : Dr P E ex lim ops S := ⟨hap, hed, fun k oo hk => h3 k _ _ (by
    unfold flagged
    rw [List.getElem?_map, List.getElem?_zipIdx, Dr.low hk]
    simp)⟩
  have hr' : HR w0 ro μ H { w with drawn := w.drawn + 1 } := hr.later (Nat.le_refl _) fun _ _ => rfl
  obtain ⟨q, c1, c2, c3, c4⟩ := next_solo P ops ops.size 0 (by omega)
  obtain ⟨X, hX⟩ := d.pre c2 c1 c3
  have s1 : (S 0).2 = H := by rw [h1]
  have s2 : (S 0).1 = T := by rw [h1]
  rw [s1] at hX
  have none : ∀ k, ¬ In (Array.replicate ops.size false) k := fun k hk => by
    unfold In at hk
    rcases Nat.lt_or_ge k ops.size with c | c
    · simp [c] at hk
    · simp [Nat.not_lt.2 c] at hk
  have old : ∀ (b : Nat) (loc : Loc), (μ ++ List.replicate X.length Option.none)[b]? = some (some loc) → b < H.length ∧ μ[b]? = some (some loc) := fun b loc e => by
    rcases Nat.lt_or_ge b μ.length with q1 | q1
    · rw [List.getElem?_append_left q1] at e; exact ⟨by have := hr.len; omega, e⟩
    · rw [List.getElem?_append_right q1, List.getElem?_replicate] at e
      split at e <;> cases e
  have tk : (μ ++ List.replicate X.length Option.none).take (S 0).2.length = μ := by
    rw [s1, ← hr.len, List.take_append_of_le_length (Nat.le_refl _), List.take_length]
  refine wp_region_any hE.mixed (draw_go (w0 := w0) (ro := ro) (lim := lim) (S := S) (μ0 := μ) (w00 := { w with drawn := w.drawn + 1 }) hE hC d ?_ ops.size _ (μ ++ List.replicate X.length Option.none) a { w with drawn := w.drawn + 1 } 0 q (by simp) (by
      refine Nat.le_trans (List.length_filter_le _ _) (by simp)) (fun j o _ hj => absurd hj (none j)) ?_ ?_)
  · intro μ' a' w' hp ha
    rw [s1, h2] at hp
    rw [h2] at ha
    exact hQ μ' a' w' ⟨hp.app, hp.hr, hp.os, hp.tape, hp.output, hp.size, hp.frame, hp.sub, hp.low, hp.more⟩ ha
  · constructor
    case start => rw [s1]; exact hr.len
    case pq => exact Nat.zero_le _
    case qn => exact c2
    case calm => exact c3
    case next => exact c4
    case done => intro k hk; omega
    case rest => exact fun k _ _ => none k
    case holes =>
      intro k b loc k1 k2 k3 k4 k5 e
      have := (old b loc e).1
      have := d.more (show k ≤ ops.size by omega) (Nat.zero_le k)
      rw [s1] at this
      omega
    case post => rw [s1, hX]; exact (Post.refl hr').room X
    case fine =>
      intro k b loc k1 k2 k3 e
      obtain ⟨b1, b2⟩ := old b loc e
      have := hr'.blk b loc b2
      rw [hX, List.getElem?_append_left b1]
      refine this.ext ?_
      have hle3 := d.more (show k ≤ ops.size by omega) k1
      have E3 : Ext ((μ ++ List.replicate X.length Option.none).take (S 0).2.length) ((μ ++ List.replicate X.length Option.none).take (S k).2.length) := ext_take_le hle3
      rw [tk] at E3
      exact E3
  · refine ⟨har.1, by rw [s2, har.2.len]; simp, fun m t v hm hc hv => ?_⟩
    have e : (S m).1[t]? = (S 0).1[t]? := d.keep hm (Nat.zero_le m) fun i _ h2 hw => none i ((hc i hw).1 h2)
    rw [e, s2] at hv
    obtain ⟨v', h5, h6⟩ := har.get hv
    refine ⟨v', h5, h6.ext ?_⟩
    have hle3 := d.more hm (Nat.zero_le m)
    have E3 : Ext ((μ ++ List.replicate X.length Option.none).take (S 0).2.length) ((μ ++ List.replicate X.length Option.none).take (S m).2.length) := ext_take_le hle3
    rw [tk] at E3
    exact E3

end
end Go.Proofs.YtdbgebbofpgjmaaGreatA

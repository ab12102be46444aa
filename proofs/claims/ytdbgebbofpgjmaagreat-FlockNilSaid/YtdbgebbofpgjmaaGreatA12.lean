/- Regions whose order is drawn. No statement about the program is proved here. -/
import Derived.Test.YtdbgebbofpgjmaaGreatA11
namespace Go.Proofs.YtdbgebbofpgjmaaGreatA
open Go Go.RowKit
set_option linter.unusedVariables false

theorem ext_take {μ μ' : Mu} (E : Ext μ μ') (n : Nat) : Ext (μ.take n) (μ'.take n) := fun b loc h => by
  rw [List.getElem?_take] at h ⊢
  split at h
  · rename_i q; rw [if_pos q]; exact E b loc h
  · cases h
theorem ext_take_le {μ : Mu} {n m : Nat} (h : n ≤ m) : Ext (μ.take n) (μ.take m) := fun b loc e => by
  rw [List.getElem?_take] at e ⊢
  split at e
  · rw [if_pos (by omega)]; exact e
  · cases e
theorem ext_of_take {μ : Mu} {n : Nat} : Ext (μ.take n) μ := fun b loc e => by
  rw [List.getElem?_take] at e
  split at e
  · exact e
  · cases e

section
variable {w0 : World} {ro : Nat → Prop} {P : Program} {μ : Mu} {H : Heap} {w : World} {T : Tmps} {lim : Nat} {E : AEnv} {ex : AC → Nat → Tmps → Heap → Step} {ops : Array Oper}

theorem alive_pre {H X : Heap} {b : Nat} (h : alive H b) : alive (H ++ X) b := by
  unfold alive at *
  have : b < H.length := by
    rcases Nat.lt_or_ge b H.length with q | q
    · exact q
    · rw [List.getElem?_eq_none q] at h; rcases h with ⟨_, _, h⟩ | ⟨_, _, h⟩ | ⟨_, _, _, _, h⟩ <;> cases h
  rw [List.getElem?_append_left this]
  exact h
theorem alive_cut {H X : Heap} {b : Nat} (hb : b < H.length) (h : alive (H ++ X) b) : alive H b := by
  unfold alive at *
  rw [List.getElem?_append_left hb] at h
  exact h
theorem alive_lt {H : Heap} {b : Nat} (h : alive H b) : b < H.length := by
  unfold alive at h
  rcases Nat.lt_or_ge b H.length with q | q
  · exact q
  · rw [List.getElem?_eq_none q] at h; rcases h with ⟨_, _, h⟩ | ⟨_, _, h⟩ | ⟨_, _, _, _, h⟩ <;> cases h

theorem BR.later {loc : Loc} {w' : World} {H : Heap} {b : Nat} (h : BR w0 ro μ loc w H[b]?) (hk : ∀ c, c < w.heap.size → w'.heap[c]? = w.heap[c]?) : BR w0 ro μ loc w' H[b]? := by
  cases e : H[b]? with
  | none => rw [e] at h; exact h.elim
  | some x =>
    cases x with
    | dead => trivial
    | cells g cs => have := BR.lt (H := H) (b := b) (.inl ⟨g, cs, e⟩) h; rw [e] at h; exact BR.world (hk _ this) h
    | map es c => have := BR.lt (H := H) (b := b) (.inr (.inl ⟨es, c, e⟩)) h; rw [e] at h; exact BR.world (hk _ this) h
    | iter m s l k => have := BR.lt (H := H) (b := b) (.inr (.inr ⟨m, s, l, k, e⟩)) h; rw [e] at h; exact BR.world (hk _ this) h

/-- Blocks to come. -/
theorem Post.room {μ' : Mu} {H' : Heap} {w' : World} (h : Post w0 ro lim μ H w μ' H' w') (X : Heap) : Post w0 ro lim μ H w (μ' ++ List.replicate X.length none) (H' ++ X) w' := by
  have hl : μ'.length = H'.length := h.hr.len
  have old : ∀ (b : Nat) (loc : Loc), (μ' ++ List.replicate X.length none)[b]? = some (some loc) → b < H'.length ∧ μ'[b]? = some (some loc) := fun b loc e => by
    rcases Nat.lt_or_ge b μ'.length with q | q
    · rw [List.getElem?_append_left q] at e; exact ⟨by omega, e⟩
    · rw [List.getElem?_append_right q, List.getElem?_replicate] at e
      split at e <;> cases e
  refine ⟨?_, ⟨by simp [hl], h.hr.grow, h.hr.old, fun b loc e => ?_, fun b b' l l' a a' e e' => ?_⟩, h.os, h.tape, h.output, h.size, h.frame, fun c hc ⟨b, l, h1, h2, h3, h4⟩ => ?_, fun b hb hl' => ?_, ?_⟩
  · obtain ⟨ν, rfl⟩ := h.app; exact ⟨_, List.append_assoc _ _ _⟩
  · obtain ⟨q, e'⟩ := old b loc e
    rw [List.getElem?_append_left q]
    exact (h.hr.blk b loc e').ext (Ext.app _ _)
  · obtain ⟨q, e1⟩ := old b l e
    obtain ⟨q', e2⟩ := old b' l' e'
    exact h.hr.inj b b' l l' (alive_cut q a) (alive_cut q' a') e1 e2
  · obtain ⟨q, e1⟩ := old b l h3
    exact h.sub c hc ⟨b, l, h1, alive_cut q h2, e1, h4⟩
  · rw [List.getElem?_append_left (Nat.lt_of_lt_of_le hl' h.more)]; exact h.low b hb hl'
  · have := h.more; simp; omega

/-- A memory of which nothing is known. -/
theorem HR.blank (h1 : w0.heap.size ≤ w.heap.size) (h2 : ∀ c, ro c → c < w0.heap.size ∧ w.heap[c]? = w0.heap[c]?) (μ : Mu) : HR w0 ro μ (List.replicate μ.length .dead) w := by
  refine ⟨by simp, h1, h2, fun b loc e => ?_, fun b b' l l' a => ?_⟩
  · have : b < μ.length := (List.getElem?_eq_some_iff.1 e).1
    rw [List.getElem?_replicate, if_pos this]
    trivial
  · unfold alive at a
    rw [List.getElem?_replicate] at a
    split at a <;> rcases a with ⟨_, _, a⟩ | ⟨_, _, a⟩ | ⟨_, _, _, _, a⟩ <;> cases a

/-- What of a frame an operation reads. -/
def patch (T : Tmps) (l : List Nat) : Tmps := T.mapIdx fun i v => if l.contains i then v else .undef
theorem patch_get {l : List Nat} {t : Nat} : (patch T l)[t]? = (T[t]?).map fun v => if l.contains t then v else .undef := by
  unfold patch
  rw [List.getElem?_mapIdx]
theorem patch_same {l : List Nat} {t : Nat} (h : t ∈ l) : (patch T l)[t]? = T[t]? := by
  rw [patch_get]
  cases T[t]? with
  | none => rfl
  | some v => simp [h]
theorem val_patch {o : AOper} {v : AV} {H' : Heap} (h : ValOf E ex lim o T H v H') : ValOf E ex lim o (patch T (operTmps o)) H v H' := by
  have e1 : wantedA (patch T (operTmps o)) o.guard = wantedA T o.guard := by
    cases hg : o.guard with
    | none => rfl
    | some p =>
      obtain ⟨t, b⟩ := p
      simp only [wantedA]
      rw [patch_same (by simp [operTmps, hg])]
  have e2 : runOp E ex lim (patch T (operTmps o)) H o.op = runOp E ex lim T H o.op := runOp_congr fun t ht => by
    rw [List.getD_eq_getElem?_getD, List.getD_eq_getElem?_getD, patch_same (by simp [operTmps, ht])]
  unfold ValOf
  rw [e1, e2]
  exact h
theorem val_quiet {o : AOper} {v : AV} {H' : Heap} (hq : quietOp o.op = true) (h : ValOf E ex lim o T H v H') : H' = H ∧ ∀ lim2 H2, ValOf E ex lim2 o T H2 v H2 := by
  rcases h with ⟨h1, h2, h3⟩ | ⟨h1, h2⟩
  · exact ⟨h3, fun lim2 H2 => .inl ⟨h1, h2, rfl⟩⟩
  · have e : ∀ lim H, runOp E ex lim T H o.op = aop lim H T o.op := fun lim H => by
      generalize ho : o.op = op at hq
      cases op <;> first | rfl | cases hq
    rw [e] at h2
    obtain ⟨h3, h4⟩ := quiet_aop hq h2
    exact ⟨h3, fun lim2 H2 => .inr ⟨h1, by rw [e]; exact h4 lim2 H2⟩⟩

theorem draw_states : ∀ (l : List (Bool × AOper)) (T : Tmps) (H : Heap) (R : Tmps × Heap), runDraw E ex lim l T H = some R →
    ∃ S : Nat → Tmps × Heap, S 0 = (T, H) ∧ S l.length = R ∧ ∀ k b o, l[k]? = some (b, o) → stepD E ex lim b o (S k).1 (S k).2 = some (S (k + 1))
  | [], T, H, R, h => by
    simp only [runDraw, Option.some.injEq] at h
    exact ⟨fun _ => (T, H), rfl, h, fun k b o e => by simp at e⟩
  | (b, o) :: l, T, H, R, h => by
    simp only [runDraw, Option.bind_eq_some_iff] at h
    obtain ⟨r, h1, h2⟩ := h
    obtain ⟨S, h3, h4, h5⟩ := draw_states l r.1 r.2 R h2
    refine ⟨fun | 0 => (T, H) | k + 1 => S k, rfl, h4, fun k b' o' e => ?_⟩
    cases k with
    | zero =>
      simp only [List.getElem?_cons_zero, Option.some.injEq, Prod.mk.injEq] at e
      obtain ⟨rfl, rfl⟩ := e
      simp only [h1, h3]
    | succ k => exact h5 k b' o' (by simpa using e)

/-! ## Constants are the same everywhere -/
theorem const_any {c : Value} {a : AV} {μ2 : Mu} (h : ofConst c = some a) {v : Value} (k : VR w0 ro μ a v) : VR w0 ro μ2 a v := by
  unfold ofConst at h
  split at h <;> cases h <;> cases k <;> constructor
  assumption
theorem consts_any : ∀ {cs : List Value} {as : List AV}, ofConsts cs = some as → ∀ a ∈ as, ∀ {μ μ2 : Mu} {v : Value}, VR w0 ro μ a v → VR w0 ro μ2 a v
  | [], as, h => by simp only [ofConsts, Option.some.injEq] at h; subst h; intro a ha; cases ha
  | c :: cs, as, h => by
    simp only [ofConsts, Option.bind_eq_some_iff, Option.map_eq_some_iff] at h
    obtain ⟨a, h1, as', h2, rfl⟩ := h
    intro b hb μ μ2 v k
    rcases List.mem_cons.1 hb with rfl | hb
    · exact const_any h1 k
    · exact consts_any h2 b hb k
theorem const_block {cs : List Value} {z : List AV} {g : Bool} {loc : Loc} {μ2 : Mu} (h : ofConsts cs = some z) (k : BR w0 ro μ loc w (some (.cells g z))) : BR w0 ro μ2 loc w (some (.cells g z)) := by
  obtain ⟨h0, arr, t, h1, h2, h3, h4⟩ := k
  exact ⟨h0, arr, t, h1, h2, h3, fun j v e => let ⟨o, v', a, r⟩ := h4 j v e; ⟨o, v', a, consts_any h v (List.mem_of_getElem? e) r⟩⟩
theorem low_alloc {o : Op} {z : List AV} (e : lowOp P o = .alloc z) : ∃ cs, ofConsts cs = some z := by
  cases o <;> simp only [lowOp, lowLookup, lowMapSet, lowAssert] at e
  case alloc t =>
    split at e
    · rename_i z' hz
      cases e
      unfold zeroT at hz
      rw [Option.bind_eq_some_iff] at hz
      obtain ⟨zv, _, h2⟩ := hz
      exact ⟨_, h2⟩
    · cases e
  case binOp op t x y yt =>
    split at e
    · unfold lowBin at e
      (repeat' split at e) <;> cases e
    · cases e
  case call c =>
    unfold lowCall at e
    split at e
    · cases e
    · split at e
      · unfold lowBuiltin at e
        (repeat' split at e) <;> cases e
      · split at e <;> cases e
      · split at e <;> cases e
  all_goals first | (cases e; done) | ((repeat' split at e) <;> cases e)

/-- A drawn region: its run in the order of the text. -/
structure Dr (P : Program) (E : AEnv) (ex : AC → Nat → Tmps → Heap → Step) (lim : Nat) (ops : Array Oper) (S : Nat → Tmps × Heap) : Prop where
  ap : apartOk (befores ops.toList []) (ops.toList.map (lowOper P ops)) = true
  ed : edgesOk ops.toList = true
  le : lim ≤ (S 0).2.length
  st : ∀ (k : Nat) (oo : Oper), ops[k]? = some oo → stepD E ex lim (soloAt (befores ops.toList []) (ops.toList.map (lowOper P ops)) (lowOper P ops oo) k) (lowOper P ops oo) (S k).1 (S k).2 = some (S (k + 1))

def isSolo (P : Program) (ops : Array Oper) (k : Nat) : Prop := ∃ oo, ops[k]? = some oo ∧ soloAt (befores ops.toList []) (ops.toList.map (lowOper P ops)) (lowOper P ops oo) k = true
def isLoud (P : Program) (ops : Array Oper) (k : Nat) : Prop := ∃ oo, ops[k]? = some oo ∧ quietOp (lowOper P ops oo).op = false
def isFresh (P : Program) (ops : Array Oper) (k : Nat) : Prop := ∃ oo, ops[k]? = some oo ∧ freshOper (lowOper P ops oo) = true
def writes (ops : Array Oper) (t k : Nat) : Prop := ∃ oo, ops[k]? = some oo ∧ oo.dst = some t

variable {S : Nat → Tmps × Heap}

theorem Dr.low {k : Nat} {oo : Oper} (h : ops[k]? = some oo) : (ops.toList.map (lowOper P ops))[k]? = some (lowOper P ops oo) := by
  rw [List.getElem?_map, Array.getElem?_toList, h]; rfl

theorem Dr.apart (d : Dr P E ex lim ops S) {i j t : Nat} {x y : Oper} (hx : ops[i]? = some x) (hy : ops[j]? = some y) (hd : x.dst = some t) (hne : i ≠ j) (h : t ∈ operTmps (lowOper P ops y) ∨ y.dst = some t) : held (befores ops.toList []) i j = true := by
  have h1 := d.ap
  unfold apartOk at h1
  rw [List.all_eq_true] at h1
  have h2 := h1 _ (List.mem_zipIdx_iff_getElem?.2 (Dr.low hx) : (lowOper P ops x, i) ∈ _)
  simp only [lowOper_dst, hd, List.all_eq_true] at h2
  have h3 := h2 _ (List.mem_zipIdx_iff_getElem?.2 (Dr.low hy) : (lowOper P ops y, j) ∈ _)
  simp only [Bool.or_eq_true, beq_iff_eq, hne, false_or, Bool.not_eq_true', Bool.or_eq_false_iff, lowOper_dst] at h3
  rcases h3 with h3 | ⟨h3, h4⟩
  · exact h3
  · rcases h with h | h
    · simp [h] at h3
    · rw [h] at h4; simp at h4

theorem Dr.solo (d : Dr P E ex lim ops S) {i j : Nat} (hi : isSolo P ops i) (hj : isLoud P ops j) (hne : i ≠ j) : held (befores ops.toList []) i j = true ∨ (isFresh P ops j ∧ i < j) := by
  obtain ⟨x, h1, h2⟩ := hi
  obtain ⟨y, h3, h4⟩ := hj
  unfold soloAt at h2
  simp only [Bool.and_eq_true, List.all_eq_true] at h2
  have h5 := h2.2 _ (List.mem_zipIdx_iff_getElem?.2 (Dr.low h3) : (lowOper P ops y, j) ∈ _)
  simp only [h4, Bool.or_eq_true, beq_iff_eq, hne, false_or, Bool.false_eq_true, Bool.and_eq_true, decide_eq_true_eq] at h5
  rcases h5 with h5 | h5
  · exact .inl h5
  · exact .inr ⟨⟨y, h3, h5.1⟩, h5.2⟩
theorem solo_loud {i : Nat} (hi : isSolo P ops i) : isLoud P ops i := by
  obtain ⟨x, h1, h2⟩ := hi
  unfold soloAt at h2
  simp only [Bool.and_eq_true, Bool.not_eq_true'] at h2
  exact ⟨x, h1, h2.1.1⟩
theorem solo_old {i : Nat} (hi : isSolo P ops i) : ¬ isFresh P ops i := by
  obtain ⟨x, h1, h2⟩ := hi
  unfold soloAt at h2
  simp only [Bool.and_eq_true, Bool.not_eq_true'] at h2
  rintro ⟨y, h3, h4⟩
  rw [h1] at h3; cases h3
  rw [h2.1.2] at h4; cases h4

/-- One step of the text's order. -/
theorem Dr.step (d : Dr P E ex lim ops S) {k : Nat} {oo : Oper} (h : ops[k]? = some oo) :
    ∃ v, (S (k + 1)).1 = putT (S k).1 oo.dst v ∧ (S k).2.length ≤ (S (k + 1)).2.length ∧
      ((isSolo P ops k ∧ ValOf E ex lim (lowOper P ops oo) (S k).1 (S k).2 v (S (k + 1)).2) ∨
       (¬ isSolo P ops k ∧ (∃ X, (S (k + 1)).2 = (S k).2 ++ X) ∧ ∃ H', ValOf E ex (S k).2.length (lowOper P ops oo) (S k).1 (S k).2 v H' ∧ (S (k + 1)).2 = (S k).2 ++ H'.drop (S k).2.length)) := by
  have h1 := d.st k oo h
  unfold stepD at h1
  split at h1
  · rename_i hs
    simp only [Option.bind_eq_some_iff] at h1
    obtain ⟨r, h2, h3⟩ := h1
    split at h3
    · rename_i hle
      cases h3
      obtain ⟨v, h4, h5⟩ := stepOp_val h2
      rw [lowOper_dst] at h4
      exact ⟨v, h4, hle, .inl ⟨⟨oo, h, hs⟩, h5⟩⟩
    · cases h3
  · rename_i hs
    simp only [Option.map_eq_some_iff] at h1
    obtain ⟨r, h2, h3⟩ := h1
    obtain ⟨v, h4, h5⟩ := stepOp_val h2
    rw [lowOper_dst] at h4
    refine ⟨v, by rw [← h3]; exact h4, by rw [← h3]; simp, .inr ⟨?_, ⟨r.2.drop (S k).2.length, by rw [← h3]⟩, r.2, h5, by rw [← h3]⟩⟩
    rintro ⟨oo', e, hs'⟩
    rw [h] at e
    cases e
    exact hs hs'

theorem fresh_form {o : AOper} (h : freshOper o = true) : ∃ z, o.guard = none ∧ o.op = .alloc z := by
  unfold freshOper at h
  split at h
  · rename_i z e1 e2; exact ⟨z, e1, e2⟩
  · cases h
/-- A new variable, in the text's order. -/
theorem Dr.fresh (d : Dr P E ex lim ops S) {k : Nat} {oo : Oper} (h : ops[k]? = some oo) (hf : freshOper (lowOper P ops oo) = true) :
    ∃ z, (lowOper P ops oo).guard = none ∧ (lowOper P ops oo).op = .alloc z ∧ (∃ cs, ofConsts cs = some z) ∧ (S (k + 1)).1 = putT (S k).1 oo.dst (.ptr (some ((S k).2.length, 0))) ∧ (S (k + 1)).2 = (S k).2 ++ [.cells false z] := by
  obtain ⟨z, h1, h2⟩ := fresh_form hf
  refine ⟨z, h1, h2, ?_, ?_⟩
  · unfold lowOper at h2
    split at h2
    · exact low_alloc h2
    · cases h2
  have h3 := d.st k oo h
  have hs : soloAt (befores ops.toList []) (ops.toList.map (lowOper P ops)) (lowOper P ops oo) k = false := by
    unfold soloAt
    rw [hf]
    simp
  rw [hs] at h3
  have h4 : stepOp E ex (S k).2.length (lowOper P ops oo) (S k).1 (S k).2 = some (putT (S k).1 oo.dst (.ptr (some ((S k).2.length, 0))), (S k).2 ++ [.cells false z]) := by
    unfold stepOp
    rw [h1, h2, lowOper_dst]
    rfl
  unfold stepD at h3
  simp only [Bool.false_eq_true, if_false, h4, Option.map_some, Option.some.injEq] at h3
  rw [← h3]
  exact ⟨rfl, by simp⟩

theorem Dr.more (d : Dr P E ex lim ops S) {k m : Nat} (hm : m ≤ ops.size) (h : k ≤ m) : (S k).2.length ≤ (S m).2.length := by
  induction m with
  | zero => have : k = 0 := by omega
            subst this; exact Nat.le_refl _
  | succ m ih =>
    rcases Nat.lt_or_ge k (m + 1) with q | q
    · obtain ⟨v, _, h2, _⟩ := d.step (Array.getElem?_eq_getElem (show m < ops.size by omega))
      exact Nat.le_trans (ih (by omega) (by omega)) h2
    · have : k = m + 1 := by omega
      subst this; exact Nat.le_refl _
theorem Dr.pre (d : Dr P E ex lim ops S) {k m : Nat} (hm : m ≤ ops.size) (h : k ≤ m) (hc : ∀ i, k ≤ i → i < m → ¬ isSolo P ops i) : ∃ X, (S m).2 = (S k).2 ++ X := by
  induction m with
  | zero => have : k = 0 := by omega
            subst this; exact ⟨[], by simp⟩
  | succ m ih =>
    rcases Nat.lt_or_ge k (m + 1) with q | q
    · obtain ⟨v, _, _, h3⟩ := d.step (Array.getElem?_eq_getElem (show m < ops.size by omega))
      obtain ⟨X, hX⟩ := ih (by omega) (by omega) fun i h1 h2 => hc i h1 (by omega)
      rcases h3 with ⟨h3, _⟩ | ⟨_, ⟨Y, hY⟩, _⟩
      · exact absurd h3 (hc m (by omega) (by omega))
      · exact ⟨X ++ Y, by rw [hY, hX, List.append_assoc]⟩
    · have : k = m + 1 := by omega
      subst this; exact ⟨[], by simp⟩
theorem putT_len {dst : Option Nat} {v : AV} : (putT T dst v).length = T.length := by
  cases dst <;> simp [putT]
theorem Dr.tlen (d : Dr P E ex lim ops S) {m : Nat} (hm : m ≤ ops.size) : (S m).1.length = (S 0).1.length := by
  induction m with
  | zero => rfl
  | succ m ih =>
    obtain ⟨v, h1, _⟩ := d.step (Array.getElem?_eq_getElem (show m < ops.size by omega))
    rw [h1, putT_len]
    exact ih (by omega)
theorem putT_ne {dst : Option Nat} {v : AV} {t : Nat} (h : dst ≠ some t) : (putT T dst v)[t]? = T[t]? := by
  cases dst with
  | none => rfl
  | some d =>
    simp only [putT]
    rw [List.getElem?_set_ne]
    intro e; subst e; exact h rfl
theorem Dr.keep (d : Dr P E ex lim ops S) {k m t : Nat} (hm : m ≤ ops.size) (h : k ≤ m) (hc : ∀ i, k ≤ i → i < m → ¬ writes ops t i) : (S m).1[t]? = (S k).1[t]? := by
  induction m with
  | zero => have : k = 0 := by omega
            subst this; rfl
  | succ m ih =>
    rcases Nat.lt_or_ge k (m + 1) with q | q
    · have hi := Array.getElem?_eq_getElem (show m < ops.size by omega)
      obtain ⟨v, h1, _⟩ := d.step hi
      rw [h1, putT_ne fun e => hc m (by omega) (by omega) ⟨_, hi, e⟩]
      exact ih (by omega) (by omega) fun i h1 h2 => hc i h1 (by omega)
    · have : k = m + 1 := by omega
      subst this; rfl

/-- The next one that may write. -/
theorem next_solo (P : Program) (ops : Array Oper) : ∀ (n k : Nat), k + n = ops.size → ∃ q, k ≤ q ∧ q ≤ ops.size ∧ (∀ i, k ≤ i → i < q → ¬ isSolo P ops i) ∧ (q < ops.size → isSolo P ops q)
  | 0, k, h => ⟨k, Nat.le_refl _, by omega, fun i h1 h2 => by omega, fun h2 => by omega⟩
  | n + 1, k, h => by
    by_cases hs : isSolo P ops k
    · exact ⟨k, Nat.le_refl _, by omega, fun i h1 h2 => by omega, fun _ => hs⟩
    · obtain ⟨q, h1, h2, h3, h4⟩ := next_solo P ops n (k + 1) (by omega)
      refine ⟨q, by omega, h2, fun i a b => ?_, h4⟩
      rcases Nat.lt_or_ge k i with c | c
      · exact h3 i (by omega) b
      · have : i = k := by omega
        subst this; exact hs

end
end Go.Proofs.YtdbgebbofpgjmaaGreatA

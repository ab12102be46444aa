/- Walking through loops; rows of structs; what fits a shape. No statement about the program is proved here. -/
import Derived.Test.YtdbgebbofpgjmaaGreatA27
namespace Go.Proofs.YtdbgebbofpgjmaaGreatA
open Go Go.RowKit
set_option linter.unusedVariables false
universe u

/-- A rule that the kernel need not unfold. -/
theorem hard {α : Sort u} {a b : α} (h : a = b) : a = b := h

theorem afterP_eq {T : Tmps} {dst : Option Nat} {next : Tmps → Heap → Prop} {r : AV} {H1 : Heap} : afterP T dst next r H1 = next (putT T dst r) H1 := propext Iff.rfl

/-! ## Frames -/
/-- Of a frame what is still read; the rest is whatever it is. -/
theorem fr_pick (live : List Nat) {n : Nat} {b : Nat → AV} {l : List (Nat × AV)} : fr n b l = fr n (fun t => (look l t).getD (b t)) (live.map fun d => (d, (look l d).getD (b d))) := by
  unfold fr
  apply List.map_congr_left
  intro i hi
  have key : ∀ live : List Nat, look (live.map fun d => (d, (look l d).getD (b d))) i = if i ∈ live then some ((look l i).getD (b i)) else none := by
    intro live
    induction live with
    | nil => rfl
    | cons d ds ih =>
      simp only [List.map_cons, look]
      by_cases e : i = d
      · subst e; simp
      · rw [if_neg e, ih]; simp [e]
  rw [key]
  by_cases e : i ∈ live
  · rw [if_pos e]; rfl
  · rw [if_neg e]; rfl
def kb (b : Nat → AV) (ts : List Nat) : Nat → AV := fun t => if ts.contains t then .undef else b t
theorem fr_kill1 {n t : Nat} {b : Nat → AV} {l : List (Nat × AV)} (h : ∀ p ∈ l, p.1 ≠ t) : (fr n b l).set t .undef = fr n (fun i => if i = t then .undef else b i) l := by
  rw [fr_set]
  unfold fr
  apply List.map_congr_left
  intro i hi
  simp only [look]
  by_cases e : i = t
  · subst e
    have : look l i = none := by
      clear hi
      induction l with
      | nil => rfl
      | cons p r ih =>
        simp only [look]
        rw [if_neg (fun e => h p (.head _) e.symm), ih fun q hq => h q (.tail _ hq)]
    rw [if_pos rfl, if_pos rfl, this]
    rfl
  · rw [if_neg e, if_neg e]
theorem fr_kill (ts : List Nat) {n : Nat} {b : Nat → AV} {l : List (Nat × AV)} (h : (l.all fun p => !ts.contains p.1) = true) : ∃ b', killT (fr n b l) ts = fr n b' l := by
  induction ts generalizing b with
  | nil => exact ⟨b, rfl⟩
  | cons t ts ih =>
    have h1 : ∀ p ∈ l, p.1 ≠ t := fun p hp e => by
      have := List.all_eq_true.1 h p hp
      simp [e] at this
    have h2 : (l.all fun p => !ts.contains p.1) = true := List.all_eq_true.2 fun p hp => by
      have := List.all_eq_true.1 h p hp
      simp at this ⊢
      exact this.2
    simp only [killT]
    rw [fr_kill1 h1]
    exact ih h2

/-- A loop: I holds ahead of each round, of what is left to do and of what the frame still holds. -/
theorem loop_fr {E : AEnv} {lim n : Nat} {ts : List Nat} {c : AC} {K : AExit → Tmps → Heap → Prop} (live : List Nat) (hl : (live.all fun d => !ts.contains d) = true) (I : Nat → List AV → Heap → Prop)
    (step : ∀ (m : Nat) (vs : List AV) (H : Heap) (b : Nat → AV), vs.length = live.length → I m vs H → wC E lim c (andThen (fun T' H' => ∃ m' vs', m' < m ∧ I m' vs' H' ∧ vs'.length = live.length ∧ ∃ b', T' = fr n b' (live.zip vs')) K) (fr n b (live.zip vs)) H)
    {T : Tmps} {H : Heap} (h0 : ∃ m vs, I m vs H ∧ vs.length = live.length ∧ ∃ b, T = fr n b (live.zip vs)) : Wp E (.loop (.seq (.kill ts) c)) lim T H K := by
  obtain ⟨m, vs, h1, h2, b, rfl⟩ := h0
  refine Wp.loop (fun m T H => ∃ vs, I m vs H ∧ vs.length = live.length ∧ ∃ b, T = fr n b (live.zip vs)) ?_ m _ H ⟨vs, h1, h2, b, rfl⟩
  rintro m T H ⟨vs, h1, h2, b, rfl⟩
  refine Wp.seq (Wp.kill ?_)
  show Wp E c lim (killT (fr n b (live.zip vs)) ts) H _
  obtain ⟨b', e⟩ := fr_kill ts (n := n) (b := b) (l := live.zip vs) (by
    rw [List.all_eq_true]
    rintro ⟨d, v⟩ hp
    exact List.all_eq_true.1 hl d (List.of_mem_zip hp).1)
  rw [e]
  refine (wC_ok (step m vs H b' h2 h1)).mono fun x T' H' h => ?_
  cases x with
  | normal =>
    obtain ⟨m', vs', g1, g2, g3, g4⟩ := h
    exact ⟨m', g1, vs', g2, g3, g4⟩
  | ret => exact h
  | exit id => exact h

theorem wrap_succ {i : Nat} (h : i < 4611686018427387904) : IntKind.i64.wrap ((i : Int) + 1) = ((i + 1 : Nat) : Int) := by
  rw [wrap_i64] <;> omega

/-! ## Rows -/
/-- A row that is only read, element by element. -/
def roL {α : Type} (f : α → List AV) (l : List α) : AV := .ro l.length (l.flatMap f)
theorem flatMap_len {α : Type} {f : α → List AV} {es : Nat} (hf : ∀ x, (f x).length = es) (l : List α) : (l.flatMap f).length = l.length * es := by
  induction l with
  | nil => simp
  | cons x l ih => rw [List.flatMap_cons, List.length_append, hf, ih, List.length_cons, Nat.succ_mul]; omega
theorem flatMap_drop {α : Type} {f : α → List AV} {es : Nat} (hf : ∀ x, (f x).length = es) : ∀ (l : List α) (i : Nat), (l.flatMap f).drop (i * es) = (l.drop i).flatMap f
  | [], i => by simp
  | x :: l, 0 => by simp
  | x :: l, i + 1 => by
    rw [List.flatMap_cons, List.drop_succ_cons, Nat.succ_mul, Nat.add_comm, ← List.drop_drop, List.drop_left' (hf x), flatMap_drop hf l i]
theorem flatMap_cut {α : Type} {f : α → List AV} {es : Nat} (hf : ∀ x, (f x).length = es) (l : List α) (i : Nat) (h : i < l.length) : cut ((l.flatMap f).drop (i * es)) 0 es = some (f l[i]) := by
  rw [flatMap_drop hf, List.drop_eq_getElem_cons h, List.flatMap_cons]
  unfold cut
  rw [if_pos (by simp [hf])]
  simp only [List.drop_zero, Option.some.injEq]
  exact List.take_left' (hf _)
theorem flatMap_take {α : Type} {f : α → List AV} {es : Nat} (hf : ∀ x, (f x).length = es) : ∀ (l : List α) (i : Nat), (l.flatMap f).take (i * es) = (l.take i).flatMap f
  | [], i => by simp
  | x :: l, 0 => by simp
  | x :: l, i + 1 => by
    rw [List.flatMap_cons, List.take_succ_cons, List.flatMap_cons, Nat.succ_mul, Nat.add_comm, ← hf x, List.take_length_add_append, hf x, flatMap_take hf l i]

theorem frz_ro {H : Heap} {d n : Nat} {cs : List AV} (h : n = 0 → cs = []) : frz H (d + 1) (.ro n cs) = some (.ro n cs) := by
  unfold frz
  by_cases e : n = 0
  · subst e; rw [h rfl]; rfl
  · simp [e]
theorem frz_roL {H : Heap} {d : Nat} {α : Type} {f : α → List AV} {l : List α} : frz H (d + 1) (roL f l) = some (roL f l) := frz_ro fun h => by
  rw [List.length_eq_zero_iff.1 h]; rfl

theorem len_roL {α : Type} {f : α → List AV} {l : List α} : lenSlAV (roL f l) = some (.int .i64 l.length) := hard rfl
theorem idx_nat {k : IntKind} {i n : Nat} (h : i < n) : idx (.int k (i : Int)) n = some i := by
  simp only [idx, AV.isInt, Option.bind_some]
  rw [if_pos ⟨by omega, by omega⟩]
  simp
theorem idxSl_roL {α : Type} {f : α → List AV} {l : List α} {es : Nat} {k : IntKind} {i : Nat} (h : i < l.length) : idxSlAV es (.int k (i : Int)) (roL f l) = some (.tp ((l.flatMap f).drop (i * es))) := by
  simp only [idxSlAV, roL, idx_nat h, Option.map_some]
theorem load_roL {α : Type} {f : α → List AV} {es : Nat} (hf : ∀ x, (f x).length = es) {l : List α} {i : Nat} (h : i < l.length) {H : Heap} : loadAt H (some es) (.tp ((l.flatMap f).drop (i * es))) = some (.agg (f l[i])) := by
  simp only [loadAt, Option.getD_some, flatMap_cut hf l i h, Option.bind_some, shapeOf]
theorem load_roL1 {α : Type} {f : α → List AV} {g : α → AV} (hf : ∀ x, f x = [g x]) {l : List α} {i : Nat} (h : i < l.length) {H : Heap} : loadAt H none (.tp ((l.flatMap f).drop (i * 1))) = some (g l[i]) := by
  have e := flatMap_cut (f := f) (es := 1) (fun x => by rw [hf]; rfl) l i h
  simp only [loadAt, Option.getD_none, e, Option.bind_some, hf, shapeOf]

/-! ## Memory behind which new blocks lie -/
theorem new_get {H X : Heap} {k : Nat} : (H ++ X)[H.length + k]? = X[k]? := by
  rw [List.getElem?_append_right (Nat.le_add_right _ _), Nat.add_sub_cancel_left]
theorem new_get0 {H X : Heap} : (H ++ X)[H.length]? = X[0]? := hard (new_get (k := 0))
theorem new_set {H X : Heap} {k : Nat} {x : ABlk} : (H ++ X).set (H.length + k) x = H ++ X.set k x := by
  rw [List.set_append_right _ _ (Nat.le_add_right _ _), Nat.add_sub_cancel_left]
theorem new_set0 {H X : Heap} {x : ABlk} : (H ++ X).set H.length x = H ++ X.set 0 x := hard (new_set (k := 0))
theorem setFrom_all : ∀ (vs cs : List AV), cs.length = vs.length → setFrom cs 0 vs = vs := by
  intro vs cs h
  apply List.ext_getElem?
  intro j
  rw [setFrom_get _ _ _ _ (by omega)]
  rcases Nat.lt_or_ge j vs.length with q | q
  · rw [if_pos (by omega), Nat.sub_zero]
  · rw [if_neg (by omega), List.getElem?_eq_none (by omega), List.getElem?_eq_none q]
/-- A variable of its own is written whole. -/
theorem store_all {lim n b : Nat} {H : Heap} {g : Bool} {cs vs : List AV} (h1 : lim ≤ b) (h2 : H[b]? = some (.cells g cs)) (h3 : cs.length = n) (h4 : vs.length = n) (h5 : vs.all AV.one = true) : storeAt lim H n (.ptr (some (b, 0))) (.agg vs) = some (H.set b (.cells g vs)) := by
  have e : setFrom cs 0 vs = vs := setFrom_all _ _ (by omega)
  have e2 : (AV.agg vs).cells = vs := hard rfl
  have e3 : vs.length = n ∧ 0 + n ≤ cs.length ∧ vs.all AV.one = true := ⟨h4, by omega, h5⟩
  unfold storeAt
  simp only [h1, if_true, h2, e2]
  exact (if_pos e3).trans (by rw [e])
theorem cells_new {H X : Heap} {k : Nat} : Heap.cells? (H ++ X) (H.length + k) = Heap.cells? X k := by unfold Heap.cells?; rw [new_get]
theorem cells_new0 {H X : Heap} : Heap.cells? (H ++ X) H.length = Heap.cells? X 0 := hard (cells_new (k := 0))
theorem cells_app {H X : Heap} {b : Nat} {cs : List AV} (h : H.cells? b = some cs) : Heap.cells? (H ++ X) b = some cs := by
  unfold Heap.cells? at h ⊢
  have hb : b < H.length := by
    rcases Nat.lt_or_ge b H.length with q | q
    · exact q
    · rw [List.getElem?_eq_none q] at h; cases h
  rw [List.getElem?_append_left hb]
  exact h
theorem cells_hd {g : Bool} {cs : List AV} {X : Heap} : Heap.cells? (.cells g cs :: X) 0 = some cs := hard rfl
theorem cells_tl {x : ABlk} {X : Heap} {k : Nat} : Heap.cells? (x :: X) (k + 1) = Heap.cells? X k := by unfold Heap.cells?; rw [List.getElem?_cons_succ]
theorem cells_tl1 {x : ABlk} {X : Heap} : Heap.cells? (x :: X) 1 = Heap.cells? X 0 := hard (cells_tl (k := 0))
theorem cells_tl2 {x y : ABlk} {X : Heap} : Heap.cells? (x :: y :: X) 2 = Heap.cells? X 0 := hard rfl
theorem storeAt_new {lim n k o : Nat} {H X : Heap} {v : AV} (h : lim ≤ H.length) : storeAt lim (H ++ X) n (.ptr (some (H.length + k, o))) v = (storeAt 0 X n (.ptr (some (k, o))) v).map (H ++ ·) := by
  have h' : lim ≤ H.length + k := by omega
  unfold storeAt
  simp only [h', if_true, new_get, Nat.zero_le]
  cases X[k]? with
  | none => rfl
  | some x =>
    cases x with
    | cells g cs =>
      simp only
      split
      · exact congrArg some new_set
      · rfl
    | _ => rfl
theorem storeAt_new0 {lim n o : Nat} {H X : Heap} {v : AV} (h : lim ≤ H.length) : storeAt lim (H ++ X) n (.ptr (some (H.length, o))) v = (storeAt 0 X n (.ptr (some (0, o))) v).map (H ++ ·) := hard (storeAt_new (k := 0) h)
theorem storeAt_hd {n o : Nat} {g : Bool} {cs : List AV} {X : Heap} {v : AV} : storeAt 0 (.cells g cs :: X) n (.ptr (some (0, o))) v = if v.cells.length = n ∧ o + n ≤ cs.length ∧ v.cells.all AV.one = true then some (.cells g (setFrom cs o v.cells) :: X) else none := hard rfl
theorem storeAt_tl {n o k : Nat} {x : ABlk} {X : Heap} {v : AV} : storeAt 0 (x :: X) n (.ptr (some (k + 1, o))) v = (storeAt 0 X n (.ptr (some (k, o))) v).map (x :: ·) := by
  unfold storeAt
  simp only [Nat.zero_le, if_true, List.getElem?_cons_succ]
  cases X[k]? with
  | none => rfl
  | some y =>
    cases y with
    | cells g cs => simp only; split <;> simp
    | _ => rfl
theorem storeAt_tl1 {n o : Nat} {x : ABlk} {X : Heap} {v : AV} : storeAt 0 (x :: X) n (.ptr (some (1, o))) v = (storeAt 0 X n (.ptr (some (0, o))) v).map (x :: ·) := hard (storeAt_tl (k := 0))
theorem storeAt_tl2 {n o : Nat} {x : ABlk} {X : Heap} {v : AV} : storeAt 0 (x :: X) n (.ptr (some (2, o))) v = (storeAt 0 X n (.ptr (some (1, o))) v).map (x :: ·) := hard (storeAt_tl (k := 1))
theorem storeAt_tl3 {n o : Nat} {x : ABlk} {X : Heap} {v : AV} : storeAt 0 (x :: X) n (.ptr (some (3, o))) v = (storeAt 0 X n (.ptr (some (2, o))) v).map (x :: ·) := hard (storeAt_tl (k := 2))
theorem load_ptr {H : Heap} {n : Option Nat} {b o : Nat} : loadAt H n (.ptr (some (b, o))) = (H.cells? b).bind fun cs => (cut cs o (n.getD 1)).bind (shapeOf n) := hard rfl
theorem load_tp {H : Heap} {n : Option Nat} {cs : List AV} : loadAt H n (.tp cs) = (cut cs 0 (n.getD 1)).bind (shapeOf n) := hard rfl
theorem len_nil : lenSlAV .nilsl = some (.int .i64 0) := hard rfl
theorem len_sl {b o n es : Nat} : lenSlAV (.sl b o n es) = some (.int .i64 n) := hard rfl
theorem len_ro {n : Nat} {cs : List AV} : lenSlAV (.ro n cs) = some (.int .i64 n) := hard rfl
theorem faddr_ptr {off b o : Nat} : fieldAddrAV off (.ptr (some (b, o))) = some (.ptr (some (b, o + off))) := hard rfl
theorem faddr_tp {off : Nat} {cs : List AV} : fieldAddrAV off (.tp cs) = some (.tp (cs.drop off)) := hard rfl
theorem shape_some {n : Nat} {cs : List AV} : shapeOf (some n) cs = some (.agg cs) := hard rfl
theorem shape_none {v : AV} : shapeOf none [v] = some v := hard rfl
theorem nextD_pre {s : Bool} {v : AV} {H X Y : Heap} {T : Tmps} {dst : Option Nat} {next : Tmps → Heap → Prop} (h : Y.take X.length = X) : nextD s (some (v, H ++ Y)) T (H ++ X) dst next = next (putT T dst v) (H ++ Y) := by
  have hl : X.length ≤ Y.length := by
    have := congrArg List.length h
    simp at this
    omega
  have e : H ++ X ++ (H ++ Y).drop (H ++ X).length = H ++ Y := by
    conv => rhs; rw [← List.take_append_drop X.length Y, h]
    simp
  cases s
  · simp only [nextD, Bool.false_eq_true, if_false, e]
  · have : (H ++ X).length ≤ (H ++ Y).length := by simp; omega
    simp only [nextD, if_true, this, true_and]
theorem nextD_true {v : AV} {H X Y : Heap} {T : Tmps} {dst : Option Nat} {next : Tmps → Heap → Prop} (h : X.length ≤ Y.length) : nextD true (some (v, H ++ Y)) T (H ++ X) dst next = next (putT T dst v) (H ++ Y) := by
  have : (H ++ X).length ≤ (H ++ Y).length := by simp; omega
  simp only [nextD, if_true, this, true_and]
theorem ro_one {n : Nat} {cs : List AV} : AV.one (.ro n cs) = true := hard rfl
theorem roL_one {α : Type} {f : α → List AV} {l : List α} : AV.one (roL f l) = true := hard rfl

theorem frz_one {H : Heap} {d b es : Nat} {cs : List AV} (h1 : H.cells? b = some cs) (h2 : cs.length = es) (h3 : mapO (frz H d) cs = some cs) : frz H (d + 1) (.sl b 0 1 es) = some (.ro 1 cs) := by
  have e : cut cs 0 (1 * es) = some cs := by
    unfold cut
    rw [if_pos (by omega), List.drop_zero, List.take_of_length_le (by omega)]
  unfold frz
  simp only [Nat.one_ne_zero, if_false, h1, Option.bind_some, e, h3, Option.map_some]
theorem roL_one' {α : Type} {f : α → List AV} {x : α} : roL f [x] = .ro 1 (f x) := by simp [roL]
theorem frz_sl1 {α : Type} {f : α → List AV} {H : Heap} {b es : Nat} (x : α) (h1 : H.cells? b = some (f x)) (h2 : (f x).length = es) (h3 : mapO (frz H 11) (f x) = some (f x)) : mapO (frz H deep) [.sl b 0 1 es] = some [roL f [x]] := by
  simp only [mapO, deep, frz_one h1 h2 h3, Option.bind_some, Option.map_some, roL_one']
theorem thaw_int {k : IntKind} {n : Int} {H : Heap} : thaw (.int k n) H = (.int k n, H) := by simp [thaw]
theorem thaw_bool {b : Bool} {H : Heap} : thaw (.bool b) H = (.bool b, H) := by simp [thaw]
theorem thaw_str {s : List UInt8} {H : Heap} : thaw (.str s) H = (.str s, H) := by simp [thaw]
theorem thaw_nilsl {H : Heap} : thaw .nilsl H = (.nilsl, H) := by simp [thaw]
theorem frz_int {H : Heap} {d : Nat} {k : IntKind} {n : Int} : frz H (d + 1) (.int k n) = some (.int k n) := hard rfl
theorem frz_str {H : Heap} {d : Nat} {s : List UInt8} : frz H (d + 1) (.str s) = some (.str s) := hard rfl
theorem frz_bool {H : Heap} {d : Nat} {b : Bool} : frz H (d + 1) (.bool b) = some (.bool b) := hard rfl
theorem frz_nilsl {H : Heap} {d : Nat} : frz H (d + 1) .nilsl = some (.ro 0 []) := hard rfl
theorem frz_agg {H : Heap} {d : Nat} {cs ds : List AV} (h : mapO (frz H d) cs = some ds) : frz H (d + 1) (.agg cs) = some (.agg ds) := by
  unfold frz
  simp only [h, Option.map_some]
theorem args_nil {f : AV → Option AV} : mapO f [] = some [] := hard rfl
theorem args_cons {f : AV → Option AV} {v v' : AV} {vs vs' : List AV} (h : f v = some v') (t : mapO f vs = some vs') : mapO f (v :: vs) = some (v' :: vs') := by
  simp only [mapO, h, t, Option.bind_some, Option.map_some]
theorem mapO_app {f : AV → Option AV} : ∀ {a b a' b' : List AV}, mapO f a = some a' → mapO f b = some b' → mapO f (a ++ b) = some (a' ++ b')
  | [], b, a', b', h, k => by simp only [mapO, Option.some.injEq] at h; subst h; simpa using k
  | v :: vs, b, a', b', h, k => by
    simp only [mapO, Option.bind_eq_some_iff, Option.map_eq_some_iff] at h
    obtain ⟨v', h1, vs', h2, rfl⟩ := h
    simp only [List.cons_append, mapO, h1, Option.bind_some, mapO_app h2 k, Option.map_some]

/-! ## What fits -/
theorem fits_int {k : IntKind} {as : List AV} (h : Fits (.int k) as) : ∃ n, as = [.int k n] ∧ (Lit.int k n).wf = true := by
  cases h with | int h => exact ⟨_, rfl, h⟩
theorem fits_str {as : List AV} (h : Fits .str as) : ∃ s, as = [.str s] ∧ s.length ≤ reachBytes := by
  cases h with | str h => exact ⟨_, rfl, h⟩
theorem fits_bool {as : List AV} (h : Fits .bool as) : ∃ b, as = [.bool b] := by
  cases h with | bool b => exact ⟨_, rfl⟩
theorem fits_cons {n : Nat} {s : Sh} {ps : List (Nat × Sh)} {as : List AV} (h : Fits (.cat ((n, s) :: ps)) as) : ∃ r rest, as = r ++ rest ∧ r.length = n ∧ Fits s r ∧ Fits (.cat ps) rest := by
  cases h with
  | cat h => cases h with
    | cons hl hr h => exact ⟨_, _, rfl, hl, hr, .cat h⟩
theorem fits_nil {as : List AV} (h : Fits (.cat []) as) : as = [] := by
  cases h with
  | cat h => cases h; rfl
theorem fits_rows {α : Type} {f : α → List AV} {es : Nat} {e : Sh} (hf : ∀ r, Fits e r → ∃ x, r = f x) : ∀ {rows : List (List AV)}, FitsRows es e rows → ∃ l : List α, rows.length = l.length ∧ rows.flatten = l.flatMap f
  | _, .nil _ _ => ⟨[], rfl, rfl⟩
  | _, .snoc h hl hr => by
    obtain ⟨l, h1, h2⟩ := fits_rows hf h
    obtain ⟨x, rfl⟩ := hf _ hr
    exact ⟨l ++ [x], by simp [h1], by simp [h2]⟩
theorem fits_sl {α : Type} {f : α → List AV} {es bs : Nat} {e : Sh} {as : List AV} (hf : ∀ r, Fits e r → ∃ x, r = f x) (h : Fits (.sl es bs e) as) : ∃ l : List α, as = [roL f l] ∧ l.length ≤ maxLen ∧ l.length * bs ≤ reachBytes := by
  cases h with
  | sl h hm hb =>
    obtain ⟨l, h1, h2⟩ := fits_rows hf h
    refine ⟨l, ?_, by omega, by rw [← h1]; exact hb⟩
    unfold roL
    rw [h1, h2]
end Go.Proofs.YtdbgebbofpgjmaaGreatA

/- What three of whom each hears the others and writes come to (play). No statement about the program is proved here. -/
import Derived.Test.YtkmikfhfjjmobaaP1
import Derived.Test.YtkmikfhfjjmobaaV0
namespace Go.Proofs.YtkmikfhfjjmobaaA
open Go
set_option linter.unusedSimpArgs false
set_option linter.unusedVariables false
set_option maxRecDepth 1000000
attribute [local simp] vec_zero

def updF {α : Type} (f : Nat → α) (w : Nat) (x : α) : Nat → α := fun j => if j = w then x else f j
def arrV (K : Nat → Nat → Int) (R : Nat → AV) : List AV := bagV (K 0) (R 0) ++ (bagV (K 1) (R 1) ++ bagV (K 2) (R 2))
def nV (n : Nat → Nat) : List AV := [I (n 0), I (n 1), I (n 2)]
theorem lt3 {w : Nat} (h : w < 3) : w = 0 ∨ w = 1 ∨ w = 2 := by omega
section
variable {K : Nat → Nat → Int} {R : Nat → AV} {n : Nat → Nat} {w : Nat}
@[simp] theorem arr_len : (arrV K R).length = 27 := hard rfl
@[simp] theorem arr_take : (arrV K R).take 27 = arrV K R := hard rfl
@[simp high] theorem arr_cut (h : w < 3) : cut (arrV K R) (w * 9) 9 = some (bagV (K w) (R w)) := by
  obtain rfl | rfl | rfl := lt3 h <;> rfl
@[simp high] theorem arr_cut8 (h : w < 3) : cut (arrV K R) (w * 9) 8 = some (vecC (K w)) := by
  obtain rfl | rfl | rfl := lt3 h <;> rfl
theorem arr_set {k : Nat → Int} {r : AV} (h : w < 3) : setFrom (arrV K R) (w * 9) (bagV k r) = arrV (updF K w k) (updF R w r) := by
  obtain rfl | rfl | rfl := lt3 h <;> rfl
@[simp] theorem n_len : (nV n).length = 3 := hard rfl
@[simp] theorem n_one : (nV n).all AV.one = true := hard rfl
@[simp high] theorem n_cut (h : w < 3) : cut (nV n) w 1 = some [I (n w)] := by
  obtain rfl | rfl | rfl := lt3 h <;> rfl
@[simp] theorem n_set {x : Nat} (h : w < 3) : (nV n).set w (I (x : Int)) = nV (updF n w x) := by
  obtain rfl | rfl | rfl := lt3 h <;> rfl
theorem arr_one (h : ∀ w, w < 3 → AV.one (R w) = true) : (arrV K R).all AV.one = true := by
  simp only [arrV, List.all_append, bagV_one, h 0 (by omega), h 1 (by omega), h 2 (by omega)]
  rfl
theorem arr_zero {q0 q1 q2 : AV} : [I 0, I 0, I 0, I 0, I 0, I 0, I 0, I 0, q0, I 0, I 0, I 0, I 0, I 0, I 0, I 0, I 0, q1, I 0, I 0, I 0, I 0, I 0, I 0, I 0, I 0, q2] = arrV (fun _ => zeroV) (fun | 0 => q0 | 1 => q1 | _ => q2) := hard rfl
theorem n_zero : [I 0, I 0, I 0] = nV (fun _ => 0) := hard rfl
theorem arr_own {H : Heap} {d : Nat} {r' : Nat → AV} {u : Nat → List Nat} (h : ∀ w, w < 3 → own H (d + 1) (R w) = some (r' w, u w)) : ownL (own H (d + 1)) (arrV K R) = some (arrV K r', u 0 ++ (u 1 ++ u 2)) :=
  ownL_app2 (by simp [h 0]) (ownL_app2 (by simp [h 1]) (by simp [h 2]))
end
structure PStep where
  what : Int
  who : Int
  off : Int
def stepC (s : PStep) : List AV := [I s.what, I s.who, I s.off]
theorem stepC_len (s : PStep) : (stepC s).length = 3 := hard rfl
theorem step_load {l : List PStep} {i : Nat} (hi : i < l.length) {H : Heap} : loadAt H (some 3) (.tp ((l.flatMap stepC).drop (i * 3))) = some (.agg (stepC l[i])) := load_roL stepC_len hi
structure St where
  K : Nat → Nat → Int
  L : Nat → List Val
  n : Nat → Nat
def whoN (x : Int) : Nat := ((IntKind.u64.wrap x).tmod 3).toNat
theorem who_lt (x : Int) : whoN x < 3 ∧ IntKind.i64.wrap ((IntKind.u64.wrap x).tmod 3) = (whoN x : Int) := by
  have h0 : 0 ≤ IntKind.u64.wrap x := by simp [IntKind.wrap, IntKind.signed, IntKind.bits]; omega
  have h1 : (IntKind.u64.wrap x).tmod 3 = (IntKind.u64.wrap x) % 3 := Int.tmod_eq_emod_of_nonneg h0
  have h2 := Int.emod_nonneg (IntKind.u64.wrap x) (by omega : (3 : Int) ≠ 0)
  have h3 := Int.emod_lt_of_pos (IntKind.u64.wrap x) (by omega : (0 : Int) < 3)
  unfold whoN
  rw [h1]
  exact ⟨by omega, by rw [wrap_i64] <;> omega⟩
/-- A write. -/
def writeF (st : St) (w : Nat) (known : Nat → Int) : Option St :=
  let c := st.n w + 1
  if putE (st.K w) (st.L w) known w c (dataV w c) = 0 then some ⟨updF st.K w (putK (st.K w) (st.L w) known w c (dataV w c)), updF st.L w (putR (st.K w) (st.L w) known w c (dataV w c)), updF st.n w c⟩ else none
def playF1 (st : St) (s : PStep) : Option St :=
  let w := whoN s.who
  let o := whoN s.off
  if s.what = 0 then
    if joinE (st.K w) (st.L w) (st.K o) (st.L o) = 0 then some ⟨updF st.K w (joinK (st.K w) (st.L w) (st.K o) (st.L o)), updF st.L w (joinR (st.K w) (st.L w) (st.K o) (st.L o)), st.n⟩ else none
  else if s.what = 1 then writeF st w (st.K w) else writeF st w zeroV
def st0 : St := ⟨fun _ => zeroV, fun _ => [], fun _ => 0⟩
def runF : St → List PStep → Option St
  | st, [] => some st
  | st, s :: l => (playF1 st s).bind fun st => runF st l
theorem runF_app : ∀ {l r : List PStep} {st : St}, runF st (l ++ r) = (runF st l).bind fun st => runF st r
  | [], r, st => rfl
  | s :: l, r, st => by
    simp only [List.cons_append, runF]
    cases playF1 st s with
    | none => rfl
    | some st' => exact runF_app
theorem runF_succ {l : List PStep} {i : Nat} (hi : i < l.length) {st st' : St} (h : runF st (l.take i) = some st') : runF st (l.take (i + 1)) = playF1 st' l[i] := by
  rw [List.take_succ_eq_append_getElem hi, runF_app, h]
  simp only [Option.bind_some, runF]
  cases playF1 st' l[i] <;> rfl
structure StOk (st : St) : Prop where
  ok : ∀ w, w < 3 → BagOk (st.K w) (st.L w)
def StUpon (a b : St) : Prop := ∀ w, w < 3 → Upon (a.K w) (a.L w) (b.K w) (b.L w)
theorem st0_ok : StOk st0 := ⟨fun w _ => zero_ok⟩
theorem upd_ok {st : St} (h : StOk st) {w : Nat} {k : Nat → Int} {l : List Val} {n : Nat → Nat} (hk : BagOk k l) (hu : Upon (st.K w) (st.L w) k l) : StOk ⟨updF st.K w k, updF st.L w l, n⟩ ∧ StUpon st ⟨updF st.K w k, updF st.L w l, n⟩ := by
  constructor
  · refine ⟨fun j hj => ?_⟩
    by_cases e : j = w
    · subst e; simpa [updF] using hk
    · simpa [updF, e] using h.ok j hj
  · intro j hj
    by_cases e : j = w
    · subst e; simpa [updF] using hu
    · simpa [updF, e] using Upon.refl
theorem playF1_ok {st st' : St} {s : PStep} (h : StOk st) (hs : playF1 st s = some st') : StOk st' ∧ StUpon st st' := by
  have hw := (who_lt s.who).1
  have ho := (who_lt s.off).1
  have wr : ∀ known, writeF st (whoN s.who) known = some st' → StOk st' ∧ StUpon st st' := fun known q => by
    unfold writeF at q
    simp only at q
    split at q
    · rename_i hE
      cases q
      obtain ⟨g1, g2⟩ := put_okB (h.ok _ hw) hE rfl
      exact upd_ok h g1 g2
    · cases q
  unfold playF1 at hs
  simp only at hs
  split at hs
  · split at hs
    · rename_i hE
      cases hs
      have b1 := h.ok _ hw
      have b2 := h.ok _ ho
      rcases joinE_cases b1 b2 with ⟨q, _⟩ | ⟨_, q1, q2, q3⟩
      · rw [hE] at q; cases q
      · rw [q2, q3]
        exact upd_ok h (join_ok b1 b2 q1) (upon_join b1 b2)
    · cases hs
  · split at hs
    · exact wr _ hs
    · exact wr _ hs
theorem runF_ok : ∀ {l : List PStep} {st st' : St}, StOk st → runF st l = some st' → StOk st' ∧ StUpon st st'
  | [], st, st', h, q => by cases q; exact ⟨h, fun w _ => Upon.refl⟩
  | s :: l, st, st', h, q => by
    simp only [runF, Option.bind_eq_some_iff] at q
    obtain ⟨st1, q1, q2⟩ := q
    obtain ⟨g1, g2⟩ := playF1_ok h q1
    obtain ⟨g3, g4⟩ := runF_ok g1 q2
    exact ⟨g3, fun w hw => (g2 w hw).trans (g4 w hw)⟩

theorem noTwo_app2 : ∀ {u w : List Nat}, noTwo u = true → noTwo w = true → (∀ b ∈ u, ¬ b ∈ w) → noTwo (u ++ w) = true
  | [], w, _, h, _ => by simpa using h
  | x :: u, w, h, k, q => by
    simp only [noTwo, Bool.and_eq_true, Bool.not_eq_true', List.cons_append] at h ⊢
    refine ⟨?_, noTwo_app2 h.2 k fun b hb => q b (.tail _ hb)⟩
    have h1 := h.1
    rw [Bool.eq_false_iff] at h1 ⊢
    simp only [Ne, List.contains_iff_mem, List.mem_append, not_or] at h1 ⊢
    exact ⟨h1, q x (.head _)⟩

/-! ## The walk -/
def Sep (R : Nat → AV) : Prop := ∀ w w', w < 3 → w' < 3 → w ≠ w' → ∀ k, ¬ Off (R w) k → Off (R w') k
theorem sep_upd {R : Nat → AV} {w : Nat} {v : AV} (h : Sep R) (hv : ∀ w', w' < 3 → ∀ k, ¬ Off v k → Off (R w') k) (hv2 : ∀ w', w' < 3 → ∀ k, ¬ Off (R w') k → Off v k) : Sep (updF R w v) := by
  intro a b ha hb hab k
  unfold updF
  by_cases e1 : a = w
  · by_cases e2 : b = w
    · omega
    · simp only [e1, e2, if_true, if_false]; exact hv b hb k
  · by_cases e2 : b = w
    · simp only [e1, e2, if_true, if_false]; exact hv2 a ha k
    · simp only [e1, e2, if_false]; exact h a b ha hb hab k
theorem arr_fin {H : Heap} {K : Nat → Nat → Int} {L : Nat → List Val} {R : Nat → AV} {d lim : Nat} (hr : ∀ w, w < 3 → Row lim H 3 valC (L w) (R w)) (hs : Sep R) : ∃ u, ownL (own H (d + 2)) (arrV K R) = some (arrV K (fun w => owL 3 valC (L w)), u) ∧ noTwo u = true := by
  obtain ⟨u0, a0, b0, c0⟩ := (hr 0 (by omega)).own (d := d) valC_len (by omega) val_plain
  obtain ⟨u1, a1, b1, c1⟩ := (hr 1 (by omega)).own (d := d) valC_len (by omega) val_plain
  obtain ⟨u2, a2, b2, c2⟩ := (hr 2 (by omega)).own (d := d) valC_len (by omega) val_plain
  have dis : ∀ {w w' : Nat} {u u' : List Nat}, w < 3 → w' < 3 → w ≠ w' → (∀ b ∈ u, lim ≤ b ∧ ∃ o n s, R w = .sl b o n s) → (∀ b ∈ u', lim ≤ b ∧ ∃ o n s, R w' = .sl b o n s) → ∀ b ∈ u, ¬ b ∈ u' := fun {w w' u u'} hw hw' hne h h' b hb hb' => by
    obtain ⟨_, o, n, s, e⟩ := h b hb
    obtain ⟨_, o', n', s', e'⟩ := h' b hb'
    exact hs w w' hw hw' hne b (fun q => q o n s e) o' n' s' e'
  refine ⟨u0 ++ (u1 ++ u2), arr_own (d := d + 1) (r' := fun w => owL 3 valC (L w)) (u := fun | 0 => u0 | 1 => u1 | _ => u2) (fun w hw => by
    obtain rfl | rfl | rfl := lt3 hw
    · exact a0
    · exact a1
    · exact a2), noTwo_app2 b0 (noTwo_app2 b1 b2 (dis (by omega) (by omega) (by omega) c1 c2)) fun b hb hb' => ?_⟩
  rcases List.mem_append.1 hb' with q | q
  · exact dis (w := 0) (w' := 1) (by omega) (by omega) (by omega) c0 c1 b hb q
  · exact dis (w := 0) (w' := 2) (by omega) (by omega) (by omega) c0 c2 b hb q
end Go.Proofs.YtkmikfhfjjmobaaA

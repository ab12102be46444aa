/- What an operation reads; who is ahead of whom. No statement about the program is proved here. -/
import Derived.Test.YtdbgebbofpgjmaaGreatA10
namespace Go.Proofs.YtdbgebbofpgjmaaGreatA
open Go Go.RowKit
set_option linter.unusedVariables false

section
variable {E : AEnv} {ex : AC → Nat → Tmps → Heap → Step} {T T2 : Tmps} {lim : Nat} {H : Heap}

theorem ev_congr {x : AX} (h : ∀ t ∈ xTmps x, T.getD t .undef = T2.getD t .undef) : x.ev T = x.ev T2 := by
  cases x with
  | tmp t => exact h t (by simp [xTmps])
  | cst v => rfl
theorem evs_congr {xs : List AX} (h : ∀ t ∈ xs.flatMap xTmps, T.getD t .undef = T2.getD t .undef) : xs.map (·.ev T) = xs.map (·.ev T2) :=
  List.map_congr_left fun x hx => ev_congr fun t ht => h t (List.mem_flatMap.2 ⟨x, hx, ht⟩)
theorem evo_congr {x : Option AX} (h : ∀ t ∈ oTmps x, T.getD t .undef = T2.getD t .undef) : x.map (·.ev T) = x.map (·.ev T2) := by
  cases x with
  | none => rfl
  | some x => simp only [Option.map_some]; rw [ev_congr (x := x) fun t ht => h t (by simpa [oTmps] using ht)]
theorem evp_congr {ps : List (Nat × Nat × AX)} (h : ∀ t ∈ ps.flatMap fun (_, _, x) => xTmps x, T.getD t .undef = T2.getD t .undef) : (ps.map fun (o, s, x) => (o, s, x.ev T)) = (ps.map fun (o, s, x) => (o, s, x.ev T2)) :=
  List.map_congr_left fun ⟨o, s, x⟩ hx => by
    simp only [ev_congr (x := x) fun t ht => h t (List.mem_flatMap.2 ⟨(o, s, x), hx, ht⟩)]

theorem runOp_congr {op : AOp} (h : ∀ t ∈ opTmps op, T.getD t .undef = T2.getD t .undef) : runOp E ex lim T H op = runOp E ex lim T2 H op := by
  cases op
  case fail => rfl
  case alloc z => rfl
  case lenConst n => rfl
  case mkMap => rfl
  case build z ps => simp only [runOp, aop]; rw [evp_congr (ps := ps) h]
  case buildSlice es len z ps => simp only [runOp, aop]; rw [evp_congr (ps := ps) h]
  case max xs => simp only [runOp, aop]; rw [evs_congr (xs := xs) h]
  case min xs => simp only [runOp, aop]; rw [evs_congr (xs := xs) h]
  case pick c a b =>
    simp only [opTmps, List.mem_append] at h
    simp only [runOp, aop]
    rw [ev_congr (x := c) fun t ht => h t (.inl (.inl ht)), ev_congr (x := a) fun t ht => h t (.inl (.inr ht)), ev_congr (x := b) fun t ht => h t (.inr ht)]
  case mapSet ck c a b =>
    simp only [opTmps, List.mem_append] at h
    simp only [runOp, aop]
    rw [ev_congr (x := c) fun t ht => h t (.inl (.inl ht)), ev_congr (x := a) fun t ht => h t (.inl (.inr ht)), ev_congr (x := b) fun t ht => h t (.inr ht)]
  case mkFn f a b =>
    simp only [opTmps, List.mem_append] at h
    simp only [runOp, aop]
    rw [evs_congr (xs := a) fun t ht => h t (.inl ht), evs_congr (xs := b) fun t ht => h t (.inr ht)]
  case sliceArr len es x l hh m =>
    simp only [opTmps, List.mem_append] at h
    simp only [runOp, aop]
    rw [ev_congr (x := x) fun t ht => h t (.inl (.inl (.inl ht))), evo_congr (x := l) fun t ht => h t (.inl (.inl (.inr ht))), evo_congr (x := hh) fun t ht => h t (.inl (.inr ht))]
  case sliceSl es x l hh m =>
    simp only [opTmps, List.mem_append] at h
    simp only [runOp, aop]
    rw [ev_congr (x := x) fun t ht => h t (.inl (.inl (.inl ht))), evo_congr (x := l) fun t ht => h t (.inl (.inl (.inr ht))), evo_congr (x := hh) fun t ht => h t (.inl (.inr ht)), evo_congr (x := m) fun t ht => h t (.inr ht)]
  case sliceStr x l hh =>
    simp only [opTmps, List.mem_append] at h
    simp only [runOp, aop]
    rw [ev_congr (x := x) fun t ht => h t (.inl (.inl ht)), evo_congr (x := l) fun t ht => h t (.inl (.inr ht)), evo_congr (x := hh) fun t ht => h t (.inr ht)]
  case call c xs =>
    simp only [opTmps, List.mem_append] at h
    have e : ∀ as, callee E H T c as = callee E H T2 c as := fun as => by
      cases c with
      | fn x => simp only [callee]; rw [ev_congr (x := x) fun t ht => h t (.inl ht)]
      | meth x name => simp only [callee]; rw [ev_congr (x := x) fun t ht => h t (.inl ht)]
    simp only [runOp]
    rw [evs_congr (xs := xs) fun t ht => h t (.inr ht), e]
  all_goals
    simp only [opTmps, List.mem_append] at h
    simp only [runOp, aop]
    first
      | (rw [ev_congr fun t ht => h t (.inl ht), ev_congr fun t ht => h t (.inr ht)]; done)
      | (rw [ev_congr h]; done)

theorem quiet_form {op : AOp} (hq : quietOp op = true) : aop lim H T op = ((aop 0 [] T op).map (·.1)).map (·, H) := by
  cases op <;> simp only [quietOp, Bool.false_eq_true] at hq <;> simp only [aop]
  all_goals first
    | rfl
    | (simp only [Option.map_map, Function.comp_def]; done)
    | (simp only [Option.map_bind, Function.comp_def, Option.map_map]; (repeat' split) <;> first | rfl | (simp [Option.map_map, Option.map_bind, Function.comp_def]; done))
    | ((repeat' split) <;> first | rfl | (simp [Option.map_map, Option.map_bind, Function.comp_def]; done))
    | (cases idx _ _ <;> simp only [Option.bind_none, Option.bind_some, Option.map_none] <;> (repeat' split) <;> first | rfl | (simp [Option.map_map, Option.map_bind, Function.comp_def]; done))
theorem quiet_aop {op : AOp} {r : AV} {H' : Heap} (hq : quietOp op = true) (h : aop lim H T op = some (r, H')) : H' = H ∧ ∀ lim2 H2, aop lim2 H2 T op = some (r, H2) := by
  rw [quiet_form hq, Option.map_eq_some_iff] at h
  obtain ⟨a, h1, h2⟩ := h
  cases h2
  exact ⟨rfl, fun lim2 H2 => by rw [quiet_form hq, h1]; rfl⟩

end

/-! ## Who is ahead -/
theorem befores_spec : ∀ (os : List Oper) (acc : List Nat), (∀ j, j < acc.length → (befores os acc)[j]? = acc[j]?) ∧
    ∀ (j : Nat) (o : Oper), os[j]? = some o → (befores os acc)[acc.length + j]? = some (bitsOf ((befores os acc).take (acc.length + j)) o.after.toList)
  | [], acc => ⟨fun _ _ => rfl, fun j o h => by simp at h⟩
  | o :: os, acc => by
    obtain ⟨h1, h2⟩ := befores_spec os (acc ++ [bitsOf acc o.after.toList])
    have keep : ∀ j, j < acc.length → (befores os (acc ++ [bitsOf acc o.after.toList]))[j]? = acc[j]? := fun j hj => by
      rw [h1 j (by simp; omega), List.getElem?_append_left hj]
    refine ⟨keep, fun j x hx => ?_⟩
    simp only [befores]
    cases j with
    | zero =>
      simp only [List.getElem?_cons_zero, Option.some.injEq] at hx
      subst hx
      have e : (befores os (acc ++ [bitsOf acc o.after.toList])).take acc.length = acc := by
        apply List.ext_getElem?
        intro i
        rw [List.getElem?_take]
        split
        · rename_i hi; exact keep i hi
        · rename_i hi; rw [List.getElem?_eq_none (by omega)]
      rw [Nat.add_zero, e, h1 _ (by simp)]
      simp
    | succ j =>
      have := h2 j x (by simpa using hx)
      rw [List.length_append, List.length_singleton, Nat.add_assoc, Nat.add_comm 1 j] at this
      exact this

theorem bits_test {acc : List Nat} {i : Nat} : ∀ {es : List Edge}, (bitsOf acc es).testBit i = true → ∃ e ∈ es, Region.binds .any e = true ∧ (e.on = i ∨ (acc.getD e.on 0).testBit i = true)
  | [], h => by simp [bitsOf] at h
  | e :: es, h => by
    simp only [bitsOf] at h
    split at h
    · rename_i hb
      simp only [Nat.testBit_or, Bool.or_eq_true] at h
      rcases h with (h | h) | h
      · obtain ⟨e', h1, h2⟩ := bits_test h
        exact ⟨e', .tail _ h1, h2⟩
      · rw [Nat.testBit_two_pow] at h
        exact ⟨e, .head _, hb, .inl (by simpa using h)⟩
      · exact ⟨e, .head _, hb, .inr h⟩
    · obtain ⟨e', h1, h2⟩ := bits_test h
      exact ⟨e', .tail _ h1, h2⟩

theorem edges_lt {ops : List Oper} (h : edgesOk ops = true) {j : Nat} {o : Oper} (ho : ops[j]? = some o) {e : Edge} (he : e ∈ o.after.toList) (hb : Region.binds .any e = true) : e.on < j := by
  unfold edgesOk at h
  rw [List.all_eq_true] at h
  have := h (o, j) (List.mem_zipIdx_iff_getElem?.2 ho)
  simp only [List.all_eq_true] at this
  have := this e he
  rw [hb] at this
  simpa using this

theorem before_closed {ops : List Oper} {D : Nat → Prop} (he : edgesOk ops = true) (hD : ∀ (j : Nat) (o : Oper), ops[j]? = some o → D j → ∀ e ∈ o.after.toList, Region.binds .any e = true → D e.on) :
    ∀ (N j i : Nat) (o : Oper), j < N → ops[j]? = some o → (∀ e ∈ o.after.toList, Region.binds .any e = true → D e.on) → isBefore (befores ops []) i j = true → D i
  | 0, j, _, _, hj, _, _, _ => absurd hj (Nat.not_lt_zero j)
  | N + 1, j, i, o, hj, ho, hp, hb => by
    have h2 := (befores_spec ops []).2 j o ho
    simp only [List.length_nil, Nat.zero_add] at h2
    unfold isBefore at hb
    rw [List.getD_eq_getElem?_getD, h2] at hb
    simp only [Option.getD_some] at hb
    obtain ⟨e, h3, h4, h5⟩ := bits_test hb
    rcases h5 with rfl | h5
    · exact hp e h3 h4
    · have hlt := edges_lt he ho h3 h4
      have hle : j < ops.length := (List.getElem?_eq_some_iff.1 ho).1
      have hk : ops[e.on]? = some (ops[e.on]'(by omega)) := List.getElem?_eq_getElem _
      refine before_closed he hD N e.on i _ (by omega) hk (hD e.on _ hk (hp e h3 h4)) ?_
      unfold isBefore
      rw [List.getD_eq_getElem?_getD, List.getElem?_take, if_pos hlt] at h5
      rw [List.getD_eq_getElem?_getD]
      exact h5

end Go.Proofs.YtdbgebbofpgjmaaGreatA

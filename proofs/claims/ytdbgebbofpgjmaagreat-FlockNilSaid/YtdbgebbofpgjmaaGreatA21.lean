/- Walking through the small machine's code. No statement about the program is proved here. -/
import Derived.Test.YtdbgebbofpgjmaaGreatA20
namespace Go.Proofs.YtdbgebbofpgjmaaGreatA
open Go Go.RowKit
set_option linter.unusedVariables false

/-- Code comes to something of which K holds. -/
def Wp (E : AEnv) (c : AC) (lim : Nat) (T : Tmps) (H : Heap) (K : AExit → Tmps → Heap → Prop) : Prop := ∃ x T' H', Ev E c lim T H x T' H' ∧ K x T' H'
def WOps (E : AEnv) (os : List AOper) (lim : Nat) (T : Tmps) (H : Heap) (K : Tmps → Heap → Prop) : Prop := ∃ T' H', Ops E os lim T H T' H' ∧ K T' H'
def WDrs (E : AEnv) (os : List (Bool × AOper)) (lim : Nat) (T : Tmps) (H : Heap) (K : Tmps → Heap → Prop) : Prop := ∃ T' H', Drs E os lim T H T' H' ∧ K T' H'
def WCl (E : AEnv) (f : Nat) (as : List AV) (lim : Nat) (H : Heap) (K : AV → Heap → Prop) : Prop := ∃ r H', Cl E f as lim H r H' ∧ K r H'

section
variable {E : AEnv} {lim : Nat} {T T1 T' : Tmps} {H H1 H' : Heap}

theorem WCl.of {f : Nat} {as : List AV} {r : AV} {K : AV → Heap → Prop} (h : Cl E f as lim H r H1) (k : K r H1) : WCl E f as lim H K := ⟨r, H1, h, k⟩
theorem WCl.mono {f : Nat} {as : List AV} {K K' : AV → Heap → Prop} (h : WCl E f as lim H K) (k : ∀ r H', K r H' → K' r H') : WCl E f as lim H K' := by
  obtain ⟨r, H', h1, h2⟩ := h
  exact ⟨r, H', h1, k _ _ h2⟩
theorem Wp.mono {c : AC} {K K' : AExit → Tmps → Heap → Prop} (h : Wp E c lim T H K) (k : ∀ x T' H', K x T' H' → K' x T' H') : Wp E c lim T H K' := by
  obtain ⟨x, T', H', h1, h2⟩ := h
  exact ⟨x, T', H', h1, k _ _ _ h2⟩

theorem WOps.nil {K : Tmps → Heap → Prop} (h : K T H) : WOps E [] lim T H K := ⟨T, H, Ops.nil, h⟩
theorem WOps.op {o : AOper} {os : List AOper} {K : Tmps → Heap → Prop} {R : Tmps × Heap} (h : stepOp E (fun _ _ _ _ => none) lim o T H = some R) (k : WOps E os lim R.1 R.2 K) : WOps E (o :: os) lim T H K := by
  obtain ⟨T', H', h1, h2⟩ := k
  exact ⟨T', H', Ops.cons (Op1.plain h) h1, h2⟩
/-- An operation that isn't guarded. -/
theorem WOps.plain {dst : Option Nat} {op : AOp} {os : List AOper} {K : Tmps → Heap → Prop} {v : AV} (h : aop lim H T op = some (v, H1)) (k : WOps E os lim (putT T dst v) H1 K) : WOps E (⟨dst, none, op⟩ :: os) lim T H K := by
  refine WOps.op (R := (putT T dst v, H1)) ?_ k
  have e : runOp E (fun _ _ _ _ => none) lim T H op = some (v, H1) := by
    cases op
    case call => simp [aop] at h
    all_goals exact h
  simp only [stepOp, wantedA, Option.bind_some, e, Option.map_some]
/-- A guarded one: the guard says yes, or no, or was itself passed by. -/
theorem WOps.test {dst : Option Nat} {t : Nat} {want b : Bool} {op : AOp} {os : List AOper} {K : Tmps → Heap → Prop} (hT : T[t]? = some (.bool b)) (h1 : b = want → WOps E (⟨dst, none, op⟩ :: os) lim T H K) (h2 : b = !want → WOps E os lim (putT T dst .noval) H K) : WOps E (⟨dst, some (t, want), op⟩ :: os) lim T H K := by
  by_cases e : b = want
  · obtain ⟨T', H', ⟨n, h3⟩, h4⟩ := h1 e
    refine ⟨T', H', ⟨n, ?_⟩, h4⟩
    simp only [runOps, stepOp, wantedA, hT, Option.bind_some] at h3 ⊢
    subst e
    simp only [beq_self_eq_true] at h3 ⊢
    exact h3
  · have e' : b = !want := by cases b <;> cases want <;> simp_all
    have e2 : (b == want) = false := by simpa using e
    obtain ⟨T', H', ⟨n, h3⟩, h4⟩ := h2 e'
    refine ⟨T', H', ⟨n, ?_⟩, h4⟩
    simp only [runOps, stepOp, wantedA, hT, Option.bind_some, e2]
    exact h3
theorem WOps.pass {dst : Option Nat} {t : Nat} {want : Bool} {op : AOp} {os : List AOper} {K : Tmps → Heap → Prop} (hT : T[t]? = some .noval) (h : WOps E os lim (putT T dst .noval) H K) : WOps E (⟨dst, some (t, want), op⟩ :: os) lim T H K := by
  obtain ⟨T', H', ⟨n, h3⟩, h4⟩ := h
  refine ⟨T', H', ⟨n, ?_⟩, h4⟩
  simp only [runOps, stepOp, wantedA, hT, Option.bind_some]
  exact h3
theorem WOps.call {dst : Option Nat} {c : ACallee} {xs : List AX} {os : List AOper} {K : Tmps → Heap → Prop} {f : Nat} {as : List AV} (hc : callee E H T c (xs.map (·.ev T)) = some (f, as)) (h : WCl E f as lim H fun r H1 => WOps E os lim (putT T dst r) H1 K) : WOps E (⟨dst, none, .call c xs⟩ :: os) lim T H K := by
  obtain ⟨r, H1, h1, T', H', h2, h3⟩ := h
  exact ⟨T', H', Ops.cons (Op1.call rfl hc h1) h2, h3⟩

theorem WDrs.nil {K : Tmps → Heap → Prop} (h : K T H) : WDrs E [] lim T H K := ⟨T, H, Drs.nil, h⟩
/-- A drawn region walks like one in the order of the text, where what is not held against all makes new blocks alone. -/
theorem WDrs.plain {b : Bool} {dst : Option Nat} {op : AOp} {os : List (Bool × AOper)} {K : Tmps → Heap → Prop} {v : AV} {H2 : Heap} (h : aop (if b then lim else H.length) H T op = some (v, H1)) (he : (if b then (if H.length ≤ H1.length then some H1 else none) else some (H ++ H1.drop H.length)) = some H2) (k : WDrs E os lim (putT T dst v) H2 K) : WDrs E ((b, ⟨dst, none, op⟩) :: os) lim T H K := by
  have e : ∀ l, aop l H T op = some (v, H1) → stepOp E (fun _ _ _ _ => none) l ⟨dst, none, op⟩ T H = some (putT T dst v, H1) := fun l h => by
    have e : runOp E (fun _ _ _ _ => none) l T H op = some (v, H1) := by
      cases op
      case call => simp [aop] at h
      all_goals exact h
    simp only [stepOp, wantedA, Option.bind_some, e, Option.map_some]
  obtain ⟨T', H', h1, h2⟩ := k
  cases b with
  | true =>
    simp only [if_true] at h he
    split at he
    · rename_i hl; cases he; exact ⟨T', H', Drs.solo (Op1.plain (e _ h)) hl h1, h2⟩
    · cases he
  | false =>
    simp only [Bool.false_eq_true, if_false, Option.some.injEq] at h he
    subst he
    exact ⟨T', H', Drs.soft (Op1.plain (e _ h)) h1, h2⟩
theorem WDrs.test {s : Bool} {dst : Option Nat} {t : Nat} {want b : Bool} {op : AOp} {os : List (Bool × AOper)} {K : Tmps → Heap → Prop} (hT : T[t]? = some (.bool b)) (h1 : b = want → WDrs E ((s, ⟨dst, none, op⟩) :: os) lim T H K) (h2 : b = !want → WDrs E os lim (putT T dst .noval) H K) : WDrs E ((s, ⟨dst, some (t, want), op⟩) :: os) lim T H K := by
  by_cases e : b = want
  · obtain ⟨T', H', ⟨n, h3⟩, h4⟩ := h1 e
    refine ⟨T', H', ⟨n, ?_⟩, h4⟩
    simp only [runDraw, stepD, stepOp, wantedA, hT, Option.bind_some] at h3 ⊢
    subst e
    simp only [beq_self_eq_true] at h3 ⊢
    exact h3
  · have e' : b = !want := by cases b <;> cases want <;> simp_all
    have e2 : (b == want) = false := by simpa using e
    obtain ⟨T', H', ⟨n, h3⟩, h4⟩ := h2 e'
    refine ⟨T', H', ⟨n, ?_⟩, h4⟩
    cases s <;> simp only [runDraw, stepD, stepOp, wantedA, hT, Option.bind_some, e2, Bool.false_eq_true, if_false, if_true, Nat.le_refl, Option.map_some, List.drop_length, List.append_nil] <;> exact h3
theorem WDrs.pass {s : Bool} {dst : Option Nat} {t : Nat} {want : Bool} {op : AOp} {os : List (Bool × AOper)} {K : Tmps → Heap → Prop} (hT : T[t]? = some .noval) (h : WDrs E os lim (putT T dst .noval) H K) : WDrs E ((s, ⟨dst, some (t, want), op⟩) :: os) lim T H K := by
  obtain ⟨T', H', ⟨n, h3⟩, h4⟩ := h
  refine ⟨T', H', ⟨n, ?_⟩, h4⟩
  cases s <;> simp only [runDraw, stepD, stepOp, wantedA, hT, Option.bind_some, Bool.false_eq_true, if_false, if_true, Nat.le_refl, Option.map_some, List.drop_length, List.append_nil] <;> exact h3
theorem WDrs.call {b : Bool} {dst : Option Nat} {c : ACallee} {xs : List AX} {os : List (Bool × AOper)} {K : Tmps → Heap → Prop} {f : Nat} {as : List AV} (hc : callee E H T c (xs.map (·.ev T)) = some (f, as))
    (h : WCl E f as (if b then lim else H.length) H fun r H1 => ∃ X, H1 = H ++ X ∧ WDrs E os lim (putT T dst r) H1 K) : WDrs E ((b, ⟨dst, none, .call c xs⟩) :: os) lim T H K := by
  obtain ⟨r, H1, h1, X, rfl, T', H', h2, h3⟩ := h
  cases b with
  | true => exact ⟨T', H', Drs.solo (Op1.call rfl hc h1) (by simp) h2, h3⟩
  | false =>
    refine ⟨T', H', Drs.soft (Op1.call rfl hc h1) ?_, h3⟩
    rw [List.drop_left]
    exact h2

theorem Wp.skip {K : AExit → Tmps → Heap → Prop} (h : K .normal T H) : Wp E .skip lim T H K := ⟨_, _, _, Ev.skip, h⟩
theorem Wp.ret {K : AExit → Tmps → Heap → Prop} (h : K .ret T H) : Wp E .ret lim T H K := ⟨_, _, _, Ev.ret, h⟩
theorem Wp.exit {id : Nat} {K : AExit → Tmps → Heap → Prop} (h : K (.exit id) T H) : Wp E (.exit id) lim T H K := ⟨_, _, _, Ev.exit, h⟩
theorem Wp.kill {ts : List Nat} {K : AExit → Tmps → Heap → Prop} (h : K .normal (killT T ts) H) : Wp E (.kill ts) lim T H K := ⟨_, _, _, Ev.kill, h⟩
theorem Wp.region {os : List AOper} {K : AExit → Tmps → Heap → Prop} (h : WOps E os lim T H (K .normal)) : Wp E (.region os) lim T H K := by
  obtain ⟨T', H', h1, h2⟩ := h
  exact ⟨_, _, _, Ev.region h1, h2⟩
theorem Wp.draw {os : List (Bool × AOper)} {K : AExit → Tmps → Heap → Prop} (hl : lim ≤ H.length) (h : WDrs E os lim T H (K .normal)) : Wp E (.draw os) lim T H K := by
  obtain ⟨T', H', h1, h2⟩ := h
  exact ⟨_, _, _, Ev.draw hl h1, h2⟩
/-- What comes behind: on from the end, out of it else. -/
def andThen (k : Tmps → Heap → Prop) (K : AExit → Tmps → Heap → Prop) : AExit → Tmps → Heap → Prop
  | .normal, T, H => k T H
  | x, T, H => K x T H
theorem Wp.seq {a b : AC} {K : AExit → Tmps → Heap → Prop} (h : Wp E a lim T H (andThen (fun T H => Wp E b lim T H K) K)) : Wp E (.seq a b) lim T H K := by
  obtain ⟨x, T1, H1, h1, h2⟩ := h
  cases x with
  | normal =>
    obtain ⟨y, T2, H2, h3, h4⟩ := h2
    exact ⟨y, T2, H2, Ev.seq h1 h3, h4⟩
  | ret => exact ⟨_, T1, H1, Ev.seqx h1 (by simp), h2⟩
  | exit id => exact ⟨_, T1, H1, Ev.seqx h1 (by simp), h2⟩
theorem Wp.cond {c : AX} {t e : AC} {b : Bool} {K : AExit → Tmps → Heap → Prop} (hc : c.ev T = .bool b) (h1 : b = true → Wp E t lim T H K) (h2 : b = false → Wp E e lim T H K) : Wp E (.cond c t e) lim T H K := by
  cases b with
  | true =>
    obtain ⟨x, T', H', h3, h4⟩ := h1 rfl
    exact ⟨x, T', H', Ev.cond hc h3, h4⟩
  | false =>
    obtain ⟨x, T', H', h3, h4⟩ := h2 rfl
    exact ⟨x, T', H', Ev.cond hc h3, h4⟩
def inBlock (id : Nat) (K : AExit → Tmps → Heap → Prop) : AExit → Tmps → Heap → Prop
  | .exit j, T, H => if j = id then K .normal T H else K (.exit j) T H
  | x, T, H => K x T H
theorem Wp.block {id : Nat} {b : AC} {K : AExit → Tmps → Heap → Prop} (h : Wp E b lim T H (inBlock id K)) : Wp E (.block id b) lim T H K := by
  obtain ⟨x, T', H', h1, h2⟩ := h
  refine ⟨_, T', H', Ev.block h1, ?_⟩
  cases x with
  | normal => exact h2
  | ret => exact h2
  | exit j =>
    simp only [inBlock] at h2
    by_cases e : j = id
    · subst e; simpa using h2
    · rw [if_neg e] at h2; simpa [e] using h2
/-- A loop, round by round: where I holds it ends, or comes to I with less to do. -/
theorem Wp.loop {b : AC} {K : AExit → Tmps → Heap → Prop} (I : Nat → Tmps → Heap → Prop) (step : ∀ n T H, I n T H → Wp E b lim T H (andThen (fun T' H' => ∃ m, m < n ∧ I m T' H') K)) : ∀ (n : Nat) (T : Tmps) (H : Heap), I n T H → Wp E (.loop b) lim T H K := by
  intro n
  induction n using Nat.strongRecOn with
  | _ n ih =>
    intro T H hI
    obtain ⟨x, T1, H1, h1, h2⟩ := step n T H hI
    cases x with
    | normal =>
      obtain ⟨m, hm, hI'⟩ := h2
      obtain ⟨y, T2, H2, h3, h4⟩ := ih m hm T1 H1 hI'
      exact ⟨y, T2, H2, Ev.loop h1 h3, h4⟩
    | ret => exact ⟨_, T1, H1, Ev.loopx h1 (by simp), h2⟩
    | exit id => exact ⟨_, T1, H1, Ev.loopx h1 (by simp), h2⟩

/-- The end of a function. -/
def fnEnd (rs : List ARes) (K : AV → Heap → Prop) : AExit → Tmps → Heap → Prop
  | .exit _, _, _ => False
  | _, T, H => ∃ r, resAll H T rs = some r ∧ K r H
theorem WCl.heap {f : Nat} {fd : AFun} {as : List AV} {K : AV → Heap → Prop} (hf : E.fn f = some (.code fd)) (hm : fd.mode = .heap) (h : Wp E fd.body lim (as ++ List.replicate (fd.ntmps - as.length) .noval) H (fnEnd fd.results K)) : WCl E f as lim H K := by
  obtain ⟨x, T', H', h1, h2⟩ := h
  cases x with
  | normal => obtain ⟨r, h3, h4⟩ := h2; exact ⟨r, H', Cl.heap hf hm h1 (.inl rfl) h3, h4⟩
  | ret => obtain ⟨r, h3, h4⟩ := h2; exact ⟨r, H', Cl.heap hf hm h1 (.inr rfl) h3, h4⟩
  | exit id => exact h2.elim
/-- The end of a function that saw nothing of our memory. -/
def pureEnd (rs : List ARes) (K : AV → Prop) : AExit → Tmps → Heap → Prop
  | .exit _, _, _ => False
  | _, T, H => ∃ v d used, resAll H T rs = some v ∧ own H deep v = some (d, used) ∧ noTwo used = true ∧ K d
/-- What a pure function answers, written out; of arguments that are written out. -/
def WPu (E : AEnv) (f : Nat) (ds : List AV) (K : AV → Prop) : Prop := ∃ d, (∀ (as : List AV) (lim : Nat) (H : Heap), mapO (frz H deep) as = some ds → as.length = ds.length → Cl E f as lim H (thaw d H).1 (thaw d H).2) ∧ K d
theorem mapO_len {f : AV → Option AV} : ∀ {as ds : List AV}, mapO f as = some ds → as.length = ds.length
  | [], ds, h => by simp only [mapO, Option.some.injEq] at h; subst h; rfl
  | v :: vs, ds, h => by
    simp only [mapO, Option.bind_eq_some_iff, Option.map_eq_some_iff] at h
    obtain ⟨u, _, us, h2, rfl⟩ := h
    simp [mapO_len h2]
theorem WPu.of {f : Nat} {fd : AFun} {ds : List AV} {K : AV → Prop} (hf : E.fn f = some (.code fd)) (hm : fd.mode = .pure) (h : Wp E fd.body 0 (ds ++ List.replicate (fd.ntmps - ds.length) .noval) [] (pureEnd fd.results K)) : WPu E f ds K := by
  obtain ⟨x, T', H', h1, h2⟩ := h
  cases x with
  | normal => obtain ⟨v, d, used, h3, h4, h5, h6⟩ := h2; exact ⟨d, fun as lim H hd hl => Cl.pure hf hm hd (by rw [hl]; exact h1) (.inl rfl) h3 h4 h5, h6⟩
  | ret => obtain ⟨v, d, used, h3, h4, h5, h6⟩ := h2; exact ⟨d, fun as lim H hd hl => Cl.pure hf hm hd (by rw [hl]; exact h1) (.inr rfl) h3 h4 h5, h6⟩
  | exit id => exact h2.elim
theorem WPu.cl {f : Nat} {ds as : List AV} {K : AV → Prop} {K' : AV → Heap → Prop} (h : WPu E f ds K) (hd : mapO (frz H deep) as = some ds) (k : ∀ d, K d → K' (thaw d H).1 (thaw d H).2) : WCl E f as lim H K' := by
  obtain ⟨d, h1, h2⟩ := h
  exact ⟨_, _, h1 as lim H hd (mapO_len hd), k d h2⟩

end
end Go.Proofs.YtdbgebbofpgjmaaGreatA

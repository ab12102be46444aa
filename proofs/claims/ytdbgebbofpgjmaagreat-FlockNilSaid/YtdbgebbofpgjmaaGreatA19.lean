/- More fuel does no harm; the small twin of a program, put together. No statement about the program is proved here. -/
import Derived.Test.YtdbgebbofpgjmaaGreatA18
namespace Go.Proofs.YtdbgebbofpgjmaaGreatA
open Go Go.RowKit
set_option linter.unusedVariables false

def CodeOK (P : Program) (f : Nat) (fd : AFun) : Prop :=
  ∃ fn c h, Entered P f fn ∧ fn.body = some c ∧ fd.body = (lowC P c h).1 ∧ fd.ntmps = fn.ntmps ∧ lowRes P fn.results.toList = some fd.results
def FnGood (P : Program) (f : Nat) : AF → Prop
  | .code fd => CodeOK P f fd
  | .prim g => (∃ fn, Entered P f fn) ∧ PrimOK P f g
  | .ext g => ExtOK P f g
def MethGood (P : Program) (t : Nat) (name : String) (f : Nat) : Option (Option Nat) → Prop
  | none => ∀ v w, (method (P.types.size + Made.depth) t v name).run P w = .ok (f, v) w
  | some n => ∃ e, shp P e = some n ∧ ∀ a w, (method (P.types.size + Made.depth) t (.pointer (some a)) name).run P w = (do let r ← loadVar e a; pure (f, r) : Sem (FuncId × Value)).run P w

def findF : List (Nat × AF) → Nat → Option AF
  | [], _ => none
  | (k, x) :: r, f => if k = f then some x else findF r f
def findM : List (Nat × String × Nat × Option (Option Nat)) → Nat → String → Option (Nat × Option (Option Nat))
  | [], _, _ => none
  | (t, n, x) :: r, t', n' => if t = t' ∧ n = n' then some x else findM r t' n'
def mkEnv (fs : List (Nat × AF)) (ms : List (Nat × String × Nat × Option (Option Nat))) : AEnv := ⟨findF fs, findM ms⟩

inductive AllF (P : Program) : List (Nat × AF) → Prop
  | nil : AllF P []
  | code {f fd r} (h : CodeOK P f fd) (t : AllF P r) : AllF P ((f, .code fd) :: r)
  | prim {f g fn r} (h : Entered P f fn) (k : PrimOK P f g) (t : AllF P r) : AllF P ((f, .prim g) :: r)
  | ext {f g r} (k : ExtOK P f g) (t : AllF P r) : AllF P ((f, .ext g) :: r)

inductive AllM (P : Program) : List (Nat × String × Nat × Option (Option Nat)) → Prop
  | nil : AllM P []
  | cons {t n f k r} (h : MethGood P t n f k) (tl : AllM P r) : AllM P ((t, n, f, k) :: r)

theorem AllF.get {P : Program} : ∀ {fs : List (Nat × AF)}, AllF P fs → ∀ {f : Nat} {x : AF}, findF fs f = some x → FnGood P f x
  | _, .nil, f, x, h => by cases h
  | _, .code k t, f, x, h => by
    simp only [findF] at h
    split at h
    · rename_i e; subst e; cases h; exact k
    · exact AllF.get t h
  | _, .prim k k' t, f, x, h => by
    simp only [findF] at h
    split at h
    · rename_i e; subst e; cases h; exact ⟨⟨_, k⟩, k'⟩
    · exact AllF.get t h
  | _, .ext k t, f, x, h => by
    simp only [findF] at h
    split at h
    · rename_i e; subst e; cases h; exact k
    · exact AllF.get t h
theorem AllM.get {P : Program} : ∀ {ms : List (Nat × String × Nat × Option (Option Nat))}, AllM P ms → ∀ {t : Nat} {n : String} {f : Nat} {k : Option (Option Nat)}, findM ms t n = some (f, k) → MethGood P t n f k
  | _, .nil, _, _, _, _, h => by cases h
  | _, .cons k tl, _, _, _, _, h => by
    simp only [findM] at h
    split at h
    · rename_i e; obtain ⟨rfl, rfl⟩ := e; cases h; exact k
    · exact AllM.get tl h

theorem env_ok {P : Program} {fs : List (Nat × AF)} {ms : List (Nat × String × Nat × Option (Option Nat))} (hm : P.follows .mixedOrders = true) (h : AllF P fs) (k : AllM P ms) : EnvOK P (mkEnv fs ms) where
  mixed := hm
  code := fun f fd e => h.get e
  prim := fun f g e => h.get e
  ext := fun f g e => h.get e
  meth0 := fun t n f e => k.get e
  meth1 := fun t n f m e => k.get e

/-! ## More fuel -/
def exLe (ex ex' : AC → Nat → Tmps → Heap → Step) : Prop := ∀ c lim T H r, ex c lim T H = some r → ex' c lim T H = some r
section
variable {E : AEnv} {ex ex' : AC → Nat → Tmps → Heap → Step}
theorem callF_mono (h : exLe ex ex') {f : Nat} {as : List AV} {lim : Nat} {H : Heap} {r : AV × Heap} (k : callF E ex f as lim H = some r) : callF E ex' f as lim H = some r := by
  unfold callF at k ⊢
  cases e : E.fn f with
  | none => rw [e] at k; cases k
  | some x =>
    rw [e] at k
    cases x with
    | prim g => exact k
    | ext g => exact k
    | code fd =>
      simp only at k ⊢
      cases hm : fd.mode with
      | heap =>
        rw [hm] at k
        simp only at k ⊢
        cases e1 : ex fd.body lim (as ++ List.replicate (fd.ntmps - as.length) .noval) H with
        | none => rw [e1] at k; cases k
        | some y => rw [e1] at k; rw [h _ _ _ _ _ e1]; exact k
      | pure =>
        rw [hm] at k
        simp only [Option.bind_eq_some_iff] at k ⊢
        obtain ⟨ds, k1, k2⟩ := k
        refine ⟨ds, k1, ?_⟩
        cases e1 : ex fd.body 0 (ds ++ List.replicate (fd.ntmps - as.length) .noval) [] with
        | none => rw [e1] at k2; cases k2
        | some y => rw [e1] at k2; rw [h _ _ _ _ _ e1]; exact k2
theorem runOp_mono (h : exLe ex ex') {lim : Nat} {T : Tmps} {H : Heap} {o : AOp} {r : AV × Heap} (k : runOp E ex lim T H o = some r) : runOp E ex' lim T H o = some r := by
  cases o
  case call c as =>
    simp only [runOp, Option.bind_eq_some_iff] at k ⊢
    obtain ⟨x, k1, k2⟩ := k
    exact ⟨x, k1, callF_mono h k2⟩
  all_goals exact k
theorem stepOp_mono (h : exLe ex ex') {lim : Nat} {T : Tmps} {H : Heap} {o : AOper} {r : Tmps × Heap} (k : stepOp E ex lim o T H = some r) : stepOp E ex' lim o T H = some r := by
  simp only [stepOp, Option.bind_eq_some_iff] at k ⊢
  obtain ⟨b, k1, k2⟩ := k
  refine ⟨b, k1, ?_⟩
  cases b with
  | false => exact k2
  | true =>
    simp only [Option.map_eq_some_iff] at k2 ⊢
    obtain ⟨x, k3, k4⟩ := k2
    exact ⟨x, runOp_mono h k3, k4⟩
theorem runOps_mono (h : exLe ex ex') {lim : Nat} : ∀ {os : List AOper} {T : Tmps} {H : Heap} {r : Tmps × Heap}, runOps E ex lim os T H = some r → runOps E ex' lim os T H = some r
  | [], _, _, _, k => k
  | o :: os, T, H, r, k => by
    simp only [runOps, Option.bind_eq_some_iff] at k ⊢
    obtain ⟨x, k1, k2⟩ := k
    exact ⟨x, stepOp_mono h k1, runOps_mono h k2⟩
theorem stepD_mono (h : exLe ex ex') {lim : Nat} {b : Bool} {T : Tmps} {H : Heap} {o : AOper} {r : Tmps × Heap} (k : stepD E ex lim b o T H = some r) : stepD E ex' lim b o T H = some r := by
  unfold stepD at k ⊢
  cases b with
  | true =>
    simp only [if_true, Option.bind_eq_some_iff] at k ⊢
    obtain ⟨x, k1, k2⟩ := k
    exact ⟨x, stepOp_mono h k1, k2⟩
  | false =>
    simp only [Bool.false_eq_true, if_false, Option.map_eq_some_iff] at k ⊢
    obtain ⟨x, k1, k2⟩ := k
    exact ⟨x, stepOp_mono h k1, k2⟩
theorem runDraw_mono (h : exLe ex ex') {lim : Nat} : ∀ {os : List (Bool × AOper)} {T : Tmps} {H : Heap} {r : Tmps × Heap}, runDraw E ex lim os T H = some r → runDraw E ex' lim os T H = some r
  | [], _, _, _, k => k
  | (b, o) :: os, T, H, r, k => by
    simp only [runDraw, Option.bind_eq_some_iff] at k ⊢
    obtain ⟨x, k1, k2⟩ := k
    exact ⟨x, stepD_mono h k1, runDraw_mono h k2⟩
end
theorem exec_succ {E : AEnv} : ∀ n, exLe (exec E n) (exec E (n + 1))
  | 0 => fun c lim T H r h => by simp [exec] at h
  | n + 1 => fun c lim T H r h => by
    have ih := exec_succ (E := E) n
    cases c with
    | skip => exact h
    | ret => exact h
    | exit id => exact h
    | kill ts => exact h
    | fail => exact h
    | region ops =>
      simp only [exec, Option.map_eq_some_iff] at h ⊢
      obtain ⟨x, h1, h2⟩ := h
      exact ⟨x, runOps_mono ih h1, h2⟩
    | draw ops =>
      simp only [exec] at h ⊢
      split at h
      case isFalse => cases h
      rename_i hle
      rw [if_pos hle]
      simp only [Option.map_eq_some_iff] at h ⊢
      obtain ⟨x, h1, h2⟩ := h
      exact ⟨x, runDraw_mono ih h1, h2⟩
    | seq a b =>
      rw [exec] at h ⊢
      cases e : exec E n a lim T H with
      | none => rw [e] at h; cases h
      | some y =>
        obtain ⟨x, T1, H1⟩ := y
        rw [e] at h
        rw [ih _ _ _ _ _ e]
        cases x with
        | normal => exact ih _ _ _ _ _ h
        | ret => exact h
        | exit id => exact h
    | cond c t e =>
      rw [exec] at h ⊢
      split at h
      · exact ih _ _ _ _ _ h
      · cases h
    | block id b =>
      simp only [exec, Option.map_eq_some_iff] at h ⊢
      obtain ⟨x, h1, h2⟩ := h
      exact ⟨x, ih _ _ _ _ _ h1, h2⟩
    | loop b =>
      rw [exec] at h ⊢
      cases e : exec E n b lim T H with
      | none => rw [e] at h; cases h
      | some y =>
        obtain ⟨x, T1, H1⟩ := y
        rw [e] at h
        rw [ih _ _ _ _ _ e]
        cases x with
        | normal => exact ih _ _ _ _ _ h
        | ret => exact h
        | exit id => exact h
theorem exec_mono {E : AEnv} {n m : Nat} (h : n ≤ m) : exLe (exec E n) (exec E m) := by
  induction h with
  | refl => exact fun _ _ _ _ _ h => h
  | step _ ih => exact fun c lim T H r h => exec_succ _ _ _ _ _ _ (ih _ _ _ _ _ h)

/-! ## Runs, whatever the fuel -/
/-- Code comes to this. -/
def Ev (E : AEnv) (c : AC) (lim : Nat) (T : Tmps) (H : Heap) (x : AExit) (T' : Tmps) (H' : Heap) : Prop := ∃ n, exec E n c lim T H = some (x, T', H')
/-- A call comes to this. -/
def Cl (E : AEnv) (f : Nat) (as : List AV) (lim : Nat) (H : Heap) (r : AV) (H' : Heap) : Prop := ∃ n, callF E (exec E n) f as lim H = some (r, H')
def Op1 (E : AEnv) (o : AOper) (lim : Nat) (T : Tmps) (H : Heap) (T' : Tmps) (H' : Heap) : Prop := ∃ n, stepOp E (exec E n) lim o T H = some (T', H')
def Ops (E : AEnv) (os : List AOper) (lim : Nat) (T : Tmps) (H : Heap) (T' : Tmps) (H' : Heap) : Prop := ∃ n, runOps E (exec E n) lim os T H = some (T', H')
def Drs (E : AEnv) (os : List (Bool × AOper)) (lim : Nat) (T : Tmps) (H : Heap) (T' : Tmps) (H' : Heap) : Prop := ∃ n, runDraw E (exec E n) lim os T H = some (T', H')

section
variable {E : AEnv} {lim : Nat} {T T1 T' : Tmps} {H H1 H' : Heap}
theorem Op1.plain {o : AOper} {R : Tmps × Heap} (h : stepOp E (fun _ _ _ _ => none) lim o T H = some R) : Op1 E o lim T H R.1 R.2 :=
  ⟨0, stepOp_mono (fun _ _ _ _ _ h => by cases h) h⟩
theorem Op1.call {dst : Option Nat} {g : Option (Nat × Bool)} {c : ACallee} {xs : List AX} {f : Nat} {as : List AV} {r : AV} (hg : wantedA T g = some true) (hc : callee E H T c (xs.map (·.ev T)) = some (f, as)) (h : Cl E f as lim H r H') :
    Op1 E ⟨dst, g, .call c xs⟩ lim T H (putT T dst r) H' := by
  obtain ⟨n, h⟩ := h
  refine ⟨n, ?_⟩
  simp only [stepOp, hg, Option.bind_some, runOp, hc, h, Option.map_some]
theorem Ops.nil : Ops E [] lim T H T H := ⟨0, rfl⟩
theorem Ops.cons {o : AOper} {os : List AOper} (h : Op1 E o lim T H T1 H1) (k : Ops E os lim T1 H1 T' H') : Ops E (o :: os) lim T H T' H' := by
  obtain ⟨n, h⟩ := h
  obtain ⟨m, k⟩ := k
  refine ⟨n + m, ?_⟩
  simp only [runOps, stepOp_mono (exec_mono (Nat.le_add_right n m)) h, Option.bind_some]
  exact runOps_mono (exec_mono (Nat.le_add_left m n)) k
theorem Drs.nil : Drs E [] lim T H T H := ⟨0, rfl⟩
theorem Drs.solo {o : AOper} {os : List (Bool × AOper)} (h : Op1 E o lim T H T1 H1) (hl : H.length ≤ H1.length) (k : Drs E os lim T1 H1 T' H') : Drs E ((true, o) :: os) lim T H T' H' := by
  obtain ⟨n, h⟩ := h
  obtain ⟨m, k⟩ := k
  refine ⟨n + m, ?_⟩
  simp only [runDraw, stepD, if_true, stepOp_mono (exec_mono (Nat.le_add_right n m)) h, Option.bind_some, if_pos hl]
  exact runDraw_mono (exec_mono (Nat.le_add_left m n)) k
theorem Drs.soft {o : AOper} {os : List (Bool × AOper)} (h : Op1 E o H.length T H T1 H1) (k : Drs E os lim T1 (H ++ H1.drop H.length) T' H') : Drs E ((false, o) :: os) lim T H T' H' := by
  obtain ⟨n, h⟩ := h
  obtain ⟨m, k⟩ := k
  refine ⟨n + m, ?_⟩
  simp only [runDraw, stepD, Bool.false_eq_true, if_false, stepOp_mono (exec_mono (Nat.le_add_right n m)) h, Option.map_some, Option.bind_some]
  exact runDraw_mono (exec_mono (Nat.le_add_left m n)) k

theorem Ev.skip : Ev E .skip lim T H .normal T H := ⟨1, rfl⟩
theorem Ev.ret : Ev E .ret lim T H .ret T H := ⟨1, rfl⟩
theorem Ev.exit {id : Nat} : Ev E (.exit id) lim T H (.exit id) T H := ⟨1, rfl⟩
theorem Ev.kill {ts : List Nat} : Ev E (.kill ts) lim T H .normal (killT T ts) H := ⟨1, rfl⟩
theorem Ev.region {os : List AOper} (h : Ops E os lim T H T' H') : Ev E (.region os) lim T H .normal T' H' := by
  obtain ⟨n, h⟩ := h
  exact ⟨n + 1, by simp only [exec, h, Option.map_some]⟩
theorem Ev.draw {os : List (Bool × AOper)} (hl : lim ≤ H.length) (h : Drs E os lim T H T' H') : Ev E (.draw os) lim T H .normal T' H' := by
  obtain ⟨n, h⟩ := h
  exact ⟨n + 1, by simp only [exec, if_pos hl, h, Option.map_some]⟩
theorem Ev.seq {a b : AC} {x : AExit} (h : Ev E a lim T H .normal T1 H1) (k : Ev E b lim T1 H1 x T' H') : Ev E (.seq a b) lim T H x T' H' := by
  obtain ⟨n, h⟩ := h
  obtain ⟨m, k⟩ := k
  refine ⟨n + m + 1, ?_⟩
  rw [exec, exec_mono (Nat.le_add_right n m) _ _ _ _ _ h]
  exact exec_mono (Nat.le_add_left m n) _ _ _ _ _ k
theorem Ev.seqx {a b : AC} {x : AExit} (h : Ev E a lim T H x T' H') (hx : x ≠ .normal) : Ev E (.seq a b) lim T H x T' H' := by
  obtain ⟨n, h⟩ := h
  refine ⟨n + 1, ?_⟩
  rw [exec, h]
  cases x with
  | normal => exact absurd rfl hx
  | ret => rfl
  | exit id => rfl
theorem Ev.cond {c : AX} {t e : AC} {b : Bool} {x : AExit} (hc : c.ev T = .bool b) (h : Ev E (if b then t else e) lim T H x T' H') : Ev E (.cond c t e) lim T H x T' H' := by
  obtain ⟨n, h⟩ := h
  refine ⟨n + 1, ?_⟩
  rw [exec, hc]
  exact h
theorem Ev.block {id : Nat} {b : AC} {x : AExit} (h : Ev E b lim T H x T' H') : Ev E (.block id b) lim T H (if x = .exit id then .normal else x) T' H' := by
  obtain ⟨n, h⟩ := h
  refine ⟨n + 1, ?_⟩
  rw [exec, h]
  cases x with
  | normal => rfl
  | ret => rfl
  | exit j =>
    simp only [Option.map_some, AExit.exit.injEq]
theorem Ev.loop {b : AC} {x : AExit} (h : Ev E b lim T H .normal T1 H1) (k : Ev E (.loop b) lim T1 H1 x T' H') : Ev E (.loop b) lim T H x T' H' := by
  obtain ⟨n, h⟩ := h
  obtain ⟨m, k⟩ := k
  refine ⟨n + m + 1, ?_⟩
  rw [exec, exec_mono (Nat.le_add_right n m) _ _ _ _ _ h]
  exact exec_mono (Nat.le_add_left m n) _ _ _ _ _ k
theorem Ev.loopx {b : AC} {x : AExit} (h : Ev E b lim T H x T' H') (hx : x ≠ .normal) : Ev E (.loop b) lim T H x T' H' := by
  obtain ⟨n, h⟩ := h
  refine ⟨n + 1, ?_⟩
  rw [exec, h]
  cases x with
  | normal => exact absurd rfl hx
  | ret => rfl
  | exit id => rfl

theorem Cl.heap {f : Nat} {fd : AFun} {as : List AV} {x : AExit} {r : AV} (hf : E.fn f = some (.code fd)) (hm : fd.mode = .heap) (h : Ev E fd.body lim (as ++ List.replicate (fd.ntmps - as.length) .noval) H x T' H') (hx : x = .normal ∨ x = .ret) (hr : resAll H' T' fd.results = some r) : Cl E f as lim H r H' := by
  obtain ⟨n, h⟩ := h
  refine ⟨n, ?_⟩
  unfold callF
  rw [hf]
  simp only [hm, h]
  rcases hx with rfl | rfl <;> simp only [hr, Option.map_some]
theorem Cl.pure {f : Nat} {fd : AFun} {as ds : List AV} {x : AExit} {v d : AV} {used : List Nat} (hf : E.fn f = some (.code fd)) (hm : fd.mode = .pure) (hd : mapO (frz H deep) as = some ds) (h : Ev E fd.body 0 (ds ++ List.replicate (fd.ntmps - as.length) .noval) [] x T' H') (hx : x = .normal ∨ x = .ret) (hr : resAll H' T' fd.results = some v)
    (ho : own H' deep v = some (d, used)) (hn : noTwo used = true) : Cl E f as lim H (thaw d H).1 (thaw d H).2 := by
  obtain ⟨n, h⟩ := h
  refine ⟨n, ?_⟩
  unfold callF
  rw [hf]
  simp only [hm, hd, Option.bind_some, h]
  rcases hx with rfl | rfl <;> simp only [hr, ho, Option.bind_some, hn, if_true]
end
end Go.Proofs.YtdbgebbofpgjmaaGreatA

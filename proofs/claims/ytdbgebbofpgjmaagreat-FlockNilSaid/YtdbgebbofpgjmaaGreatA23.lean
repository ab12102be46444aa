/- Walking by rewriting. No statement about the program is proved here. -/
import Derived.Test.YtdbgebbofpgjmaaGreatA22
namespace Go.Proofs.YtdbgebbofpgjmaaGreatA
open Go Go.RowKit
set_option linter.unusedVariables false

def isCall : AOp → Bool
  | .call .. => true
  | _ => false
def optP {α : Type} (x : Option α) (k : α → Prop) : Prop := match x with | some a => k a | none => False
theorem optP_some {α : Type} {a : α} {k : α → Prop} : optP (some a) k = k a := propext Iff.rfl
theorem optP_get {α : Type} {x : Option α} {k : α → Prop} (h : optP x k) : ∃ a, x = some a ∧ k a := by
  cases x with
  | none => exact h.elim
  | some a => exact ⟨a, rfl, h⟩
def boolP (v : Option AV) (k : Bool → Prop) (none' : Prop) : Prop := match v with | some (.bool b) => k b | some .noval => none' | _ => False
theorem boolP_bool {b : Bool} {k : Bool → Prop} {n : Prop} : boolP (some (.bool b)) k n = k b := rfl
theorem boolP_noval {k : Bool → Prop} {n : Prop} : boolP (some .noval) k n = n := rfl
theorem boolP_get {v : Option AV} {k : Bool → Prop} {n : Prop} (h : boolP v k n) : (∃ b, v = some (.bool b) ∧ k b) ∨ v = some .noval ∧ n := by
  unfold boolP at h
  split at h
  · exact .inl ⟨_, rfl, h⟩
  · exact .inr ⟨rfl, h⟩
  · exact h.elim
/-- On from what an operation yields. -/
def nextP (x : Option (AV × Heap)) (T : Tmps) (dst : Option Nat) (next : Tmps → Heap → Prop) : Prop := match x with | some p => next (putT T dst p.1) p.2 | none => False
theorem nextP_some {v : AV} {H1 : Heap} {T : Tmps} {dst : Option Nat} {next : Tmps → Heap → Prop} : nextP (some (v, H1)) T dst next = next (putT T dst v) H1 := propext Iff.rfl
theorem nextP_get {x : Option (AV × Heap)} {T : Tmps} {dst : Option Nat} {next : Tmps → Heap → Prop} (h : nextP x T dst next) : ∃ v H1, x = some (v, H1) ∧ next (putT T dst v) H1 := by
  cases x with
  | none => exact h.elim
  | some p => exact ⟨p.1, p.2, rfl, h⟩
/-- On from what a call yields. -/
def afterP (T : Tmps) (dst : Option Nat) (next : Tmps → Heap → Prop) : AV → Heap → Prop := fun r H1 => next (putT T dst r) H1
def callP (E : AEnv) (lim : Nat) (H : Heap) (x : Option (Nat × List AV)) (K : AV → Heap → Prop) : Prop := match x with | some p => WCl E p.1 p.2 lim H K | none => False
theorem callP_some {E : AEnv} {lim : Nat} {H : Heap} {f : Nat} {as : List AV} {K : AV → Heap → Prop} : callP E lim H (some (f, as)) K = WCl E f as lim H K := propext Iff.rfl
/-- One way or the other. -/
def eitherP (v : Option AV) (want : Bool) (go skip : Tmps → Heap → Prop) (T : Tmps) (H : Heap) : Prop := boolP v (fun b => (b = want → go T H) ∧ (b = !want → skip T H)) (skip T H)
theorem eitherP_tt {go skip : Tmps → Heap → Prop} {T : Tmps} {H : Heap} : eitherP (some (.bool true)) true go skip T H = go T H := by simp [eitherP, boolP]
theorem eitherP_tf {go skip : Tmps → Heap → Prop} {T : Tmps} {H : Heap} : eitherP (some (.bool true)) false go skip T H = skip T H := by simp [eitherP, boolP]
theorem eitherP_ft {go skip : Tmps → Heap → Prop} {T : Tmps} {H : Heap} : eitherP (some (.bool false)) true go skip T H = skip T H := by simp [eitherP, boolP]
theorem eitherP_ff {go skip : Tmps → Heap → Prop} {T : Tmps} {H : Heap} : eitherP (some (.bool false)) false go skip T H = go T H := by simp [eitherP, boolP]
theorem eitherP_no {want : Bool} {go skip : Tmps → Heap → Prop} {T : Tmps} {H : Heap} : eitherP (some .noval) want go skip T H = skip T H := propext Iff.rfl
def wGuard (g : Option (Nat × Bool)) (go skip : Tmps → Heap → Prop) (T : Tmps) (H : Heap) : Prop :=
  match g with
  | none => go T H
  | some (t, want) => eitherP T[t]? want go skip T H
def wOp (E : AEnv) (lim : Nat) (dst : Option Nat) (next : Tmps → Heap → Prop) : AOp → Tmps → Heap → Prop
  | .call c xs, T, H => callP E lim H (callee E H T c (xs.map (·.ev T))) (afterP T dst next)
  | op, T, H => nextP (aop lim H T op) T dst next
def skipP (dst : Option Nat) (next : Tmps → Heap → Prop) (T : Tmps) (H : Heap) : Prop := next (putT T dst .noval) H
/-- What has to hold ahead of operations. -/
def wOps (E : AEnv) (lim : Nat) (K : Tmps → Heap → Prop) : List AOper → Tmps → Heap → Prop
  | [], T, H => K T H
  | o :: os, T, H => wGuard o.guard (wOp E lim o.dst (wOps E lim K os) o.op) (skipP o.dst (wOps E lim K os)) T H
/-- On in a drawn region. -/
def nextD (s : Bool) (x : Option (AV × Heap)) (T : Tmps) (H : Heap) (dst : Option Nat) (next : Tmps → Heap → Prop) : Prop :=
  match x with
  | some p => if s then H.length ≤ p.2.length ∧ next (putT T dst p.1) p.2 else next (putT T dst p.1) (H ++ p.2.drop H.length)
  | none => False
theorem nextD_same {s : Bool} {v : AV} {H : Heap} {T : Tmps} {dst : Option Nat} {next : Tmps → Heap → Prop} : nextD s (some (v, H)) T H dst next = next (putT T dst v) H := by
  cases s <;> simp [nextD]
theorem nextD_set {s : Bool} {v : AV} {H : Heap} {b : Nat} {x : ABlk} {T : Tmps} {dst : Option Nat} {next : Tmps → Heap → Prop} : nextD true (some (v, H.set b x)) T H dst next = next (putT T dst v) (H.set b x) := by
  simp [nextD]
theorem nextD_new {s : Bool} {v : AV} {H X : Heap} {T : Tmps} {dst : Option Nat} {next : Tmps → Heap → Prop} : nextD s (some (v, H ++ X)) T H dst next = next (putT T dst v) (H ++ X) := by
  cases s <;> simp [nextD]
def wDr (E : AEnv) (lim : Nat) (s : Bool) (dst : Option Nat) (next : Tmps → Heap → Prop) : AOp → Tmps → Heap → Prop
  | .call c xs, T, H => callP E (if s then lim else H.length) H (callee E H T c (xs.map (·.ev T))) fun r H1 => ∃ X, H1 = H ++ X ∧ afterP T dst next r H1
  | op, T, H => nextD s (aop (if s then lim else H.length) H T op) T H dst next
def wDrs (E : AEnv) (lim : Nat) (K : Tmps → Heap → Prop) : List (Bool × AOper) → Tmps → Heap → Prop
  | [], T, H => K T H
  | o :: os, T, H => wGuard o.2.guard (wDr E lim o.1 o.2.dst (wDrs E lim K os) o.2.op) (skipP o.2.dst (wDrs E lim K os)) T H
/-- What has to hold ahead of code; loops are left to the walker. -/
def wC (E : AEnv) (lim : Nat) : AC → (AExit → Tmps → Heap → Prop) → Tmps → Heap → Prop
  | .skip, K, T, H => K .normal T H
  | .ret, K, T, H => K .ret T H
  | .exit id, K, T, H => K (.exit id) T H
  | .kill ts, K, T, H => K .normal (killT T ts) H
  | .fail, K, T, H => False
  | .region os, K, T, H => wOps E lim (K .normal) os T H
  | .draw os, K, T, H => lim ≤ H.length ∧ wDrs E lim (K .normal) os T H
  | .seq a b, K, T, H => wC E lim a (andThen (wC E lim b K) K) T H
  | .cond c t e, K, T, H => eitherP (some (c.ev T)) true (wC E lim t K) (wC E lim e K) T H ∧ c.ev T ≠ .noval
  | .block id b, K, T, H => wC E lim b (inBlock id K) T H
  | .loop b, K, T, H => Wp E (.loop b) lim T H K

section
variable {E : AEnv} {lim : Nat}
theorem wOp_ok {K : Tmps → Heap → Prop} {os : List AOper} {T : Tmps} {H : Heap} {dst : Option Nat} {op : AOp} (ih : ∀ T H, wOps E lim K os T H → WOps E os lim T H K) (h : wOp E lim dst (wOps E lim K os) op T H) : WOps E (⟨dst, none, op⟩ :: os) lim T H K := by
  cases op
  case call c xs =>
    simp only [wOp] at h
    unfold callP at h
    split at h
    · rename_i p e
      exact WOps.call e (WCl.mono h fun r H' h3 => ih _ _ h3)
    · exact h.elim
  all_goals
    simp only [wOp] at h
    obtain ⟨v, H1, h1, h2⟩ := nextP_get h
    exact WOps.plain h1 (ih _ _ h2)
theorem wOps_ok {K : Tmps → Heap → Prop} : ∀ {os : List AOper} {T : Tmps} {H : Heap}, wOps E lim K os T H → WOps E os lim T H K
  | [], T, H, h => WOps.nil h
  | ⟨dst, none, op⟩ :: os, T, H, h => wOp_ok (fun _ _ h => wOps_ok h) h
  | ⟨dst, some (t, want), op⟩ :: os, T, H, h => by
    rcases boolP_get h with ⟨b, h1, h2, h3⟩ | ⟨h1, h2⟩
    case inr => exact WOps.pass h1 (wOps_ok h2)
    · exact WOps.test h1 (fun e => wOp_ok (fun _ _ h => wOps_ok h) (h2 e)) (fun e => wOps_ok (h3 e))
theorem wDr_ok {K : Tmps → Heap → Prop} {os : List (Bool × AOper)} {T : Tmps} {H : Heap} {s : Bool} {dst : Option Nat} {op : AOp} (ih : ∀ T H, wDrs E lim K os T H → WDrs E os lim T H K) (h : wDr E lim s dst (wDrs E lim K os) op T H) : WDrs E ((s, ⟨dst, none, op⟩) :: os) lim T H K := by
  cases op
  case call c xs =>
    simp only [wDr] at h
    unfold callP at h
    split at h
    · rename_i p e
      exact WDrs.call e (WCl.mono h fun r H' ⟨X, e, h3⟩ => ⟨X, e, ih _ _ h3⟩)
    · exact h.elim
  all_goals
    simp only [wDr] at h
    unfold nextD at h
    split at h
    · rename_i p e
      cases s with
      | true => simp only [if_true] at h; exact WDrs.plain (v := p.1) (H1 := p.2) e (by rw [if_pos rfl, if_pos h.1]) (ih _ _ h.2)
      | false => simp only [Bool.false_eq_true, if_false] at h; exact WDrs.plain (v := p.1) (H1 := p.2) e rfl (ih _ _ h)
    · exact h.elim
theorem wDrs_ok {K : Tmps → Heap → Prop} : ∀ {os : List (Bool × AOper)} {T : Tmps} {H : Heap}, wDrs E lim K os T H → WDrs E os lim T H K
  | [], T, H, h => WDrs.nil h
  | (s, ⟨dst, none, op⟩) :: os, T, H, h => wDr_ok (fun _ _ h => wDrs_ok h) h
  | (s, ⟨dst, some (t, want), op⟩) :: os, T, H, h => by
    rcases boolP_get h with ⟨b, h1, h2, h3⟩ | ⟨h1, h2⟩
    case inr => exact WDrs.pass h1 (wDrs_ok h2)
    · exact WDrs.test h1 (fun e => wDr_ok (fun _ _ h => wDrs_ok h) (h2 e)) (fun e => wDrs_ok (h3 e))
theorem wC_ok : ∀ {c : AC} {K : AExit → Tmps → Heap → Prop} {T : Tmps} {H : Heap}, wC E lim c K T H → Wp E c lim T H K
  | .skip, K, T, H, h => Wp.skip h
  | .ret, K, T, H, h => Wp.ret h
  | .exit id, K, T, H, h => Wp.exit h
  | .kill ts, K, T, H, h => Wp.kill h
  | .fail, K, T, H, h => h.elim
  | .region os, K, T, H, h => Wp.region (wOps_ok h)
  | .draw os, K, T, H, h => Wp.draw h.1 (wDrs_ok h.2)
  | .seq a b, K, T, H, h => Wp.seq ((wC_ok (c := a) h).mono fun x T' H' h2 => by
      cases x with
      | normal => exact wC_ok (c := b) h2
      | ret => exact h2
      | exit id => exact h2)
  | .cond c t e, K, T, H, h => by
    rcases boolP_get h.1 with ⟨b, h1, h2, h3⟩ | ⟨h1, _⟩
    case inr => exact absurd (Option.some.inj h1) h.2
    have h1 := Option.some.inj h1
    exact Wp.cond h1 (fun q => wC_ok (h2 q)) (fun q => wC_ok (h3 q))
  | .block id b, K, T, H, h => Wp.block (wC_ok (c := b) h)
  | .loop b, K, T, H, h => h

/-- The end of a function that saw nothing of our memory. -/
def pEnd (rs : List ARes) (K : AV → Prop) : AExit → Tmps → Heap → Prop
  | .exit _, _, _ => False
  | _, T, H => optP (resAll H T rs) fun v => optP (own H deep v) fun p => noTwo p.2 = true ∧ K p.1
theorem pEnd_ok {rs : List ARes} {K : AV → Prop} {x : AExit} {T : Tmps} {H : Heap} (h : pEnd rs K x T H) : pureEnd rs K x T H := by
  cases x with
  | exit id => exact h.elim
  | normal => obtain ⟨v, h1, h⟩ := optP_get h; obtain ⟨p, h2, h3, h4⟩ := optP_get h; exact ⟨v, p.1, p.2, h1, h2, h3, h4⟩
  | ret => obtain ⟨v, h1, h⟩ := optP_get h; obtain ⟨p, h2, h3, h4⟩ := optP_get h; exact ⟨v, p.1, p.2, h1, h2, h3, h4⟩
def hEnd (rs : List ARes) (K : AV → Heap → Prop) : AExit → Tmps → Heap → Prop
  | .exit _, _, _ => False
  | _, T, H => optP (resAll H T rs) fun v => K v H
theorem hEnd_ok {rs : List ARes} {K : AV → Heap → Prop} {x : AExit} {T : Tmps} {H : Heap} (h : hEnd rs K x T H) : fnEnd rs K x T H := by
  cases x with
  | exit id => exact h.elim
  | normal => obtain ⟨v, h1, h⟩ := optP_get h; exact ⟨v, h1, h⟩
  | ret => obtain ⟨v, h1, h⟩ := optP_get h; exact ⟨v, h1, h⟩
theorem pu_of {f : Nat} {fd : AFun} {ds : List AV} {K : AV → Prop} (hf : E.fn f = some (.code fd)) (hm : fd.mode = .pure) (h : wC E 0 fd.body (pEnd fd.results K) (ds ++ List.replicate (fd.ntmps - ds.length) .noval) []) : WPu E f ds K :=
  WPu.of hf hm ((wC_ok h).mono fun _ _ _ => pEnd_ok)
theorem cl_of {f : Nat} {fd : AFun} {as : List AV} {H : Heap} {K : AV → Heap → Prop} (hf : E.fn f = some (.code fd)) (hm : fd.mode = .heap) (h : wC E lim fd.body (hEnd fd.results K) (as ++ List.replicate (fd.ntmps - as.length) .noval) H) : WCl E f as lim H K :=
  WCl.heap hf hm ((wC_ok h).mono fun _ _ _ => hEnd_ok)

theorem own_bool {H : Heap} {b : Bool} : own H deep (.bool b) = some (.bool b, []) := rfl
theorem own_int {H : Heap} {k : IntKind} {n : Int} : own H deep (.int k n) = some (.int k n, []) := rfl
theorem own_str {H : Heap} {s : List UInt8} : own H deep (.str s) = some (.str s, []) := rfl
theorem own_nilsl {H : Heap} : own H deep .nilsl = some (.nilsl, []) := rfl
theorem bnd_nat {k : IntKind} {j d m : Nat} (h : j ≤ m) : bnd (some (.int k (j : Int))) d m = some j := by
  simp only [bnd, AV.isInt, Option.bind_some]
  rw [if_pos ⟨by omega, by omega⟩]
  simp
theorem wrap_i64 {x : Int} (h1 : -9223372036854775808 ≤ x) (h2 : x ≤ 9223372036854775807) : IntKind.i64.wrap x = x := by
  simp [IntKind.wrap, IntKind.signed, IntKind.bits]
  split <;> omega
end
end Go.Proofs.YtdbgebbofpgjmaaGreatA

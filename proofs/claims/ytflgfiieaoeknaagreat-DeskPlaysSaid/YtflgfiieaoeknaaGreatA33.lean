/- Quick runs through regions with hidden blocks. No statement about the program is proved here. -/
import Derived.Test.YtflgfiieaoeknaaGreatA32
namespace Go.Proofs.YtflgfiieaoeknaaGreatA
open Go Go.RowKit
set_option linter.unusedVariables false

theorem oneF_imp {E : AEnv} {ex : ExF} {n : Nat} (ih : exLe ex (exec E n)) {c : AC} {lim : Nat} {T : Tmps} {H : Heap} {r : AExit × Tmps × Heap} (h : oneF E ex c lim T H = some r) : exec E (n + 1) c lim T H = some r := by
  cases c with
  | skip => exact h
  | ret => exact h
  | exit id => exact h
  | kill ts =>
    have h : some (AExit.normal, killF ts T, H) = some r := h
    rw [killF_eq] at h
    exact h
  | fail => cases h
  | region os =>
    have h : Option.rec none (fun p => some (AExit.normal, p)) (opsF E ex lim os T H) = some r := h
    cases e : opsF E ex lim os T H with
    | none => rw [e] at h; cases h
    | some p =>
      rw [e] at h
      simp only [exec, runOps_mono ih (opsF_imp e), Option.map_some]
      exact h
  | draw hs os =>
    cases hs with
    | cons t ts => exact absurd (show none = some r from h) (by simp)
    | nil =>
    have h : Bool.rec none (Option.rec none (fun p => some (AExit.normal, p)) (drawF E ex lim os T H)) (Nat.ble lim H.length) = some r := h
    cases hb : Nat.ble lim H.length with
    | false => rw [hb] at h; cases h
    | true =>
    rw [hb] at h
    have hle : lim ≤ H.length := Nat.le_of_ble_eq_true hb
    have h : Option.rec none (fun p => some (AExit.normal, p)) (drawF E ex lim os T H) = some r := h
    cases e : drawF E ex lim os T H with
    | none => rw [e] at h; cases h
    | some p =>
      rw [e] at h
      simp only [exec, if_pos hle, hidden, Option.bind_some, runDraw_mono ih (drawF_imp e), Option.map_some]
      exact h
  | seq a b =>
    have h : thenF (fun T H => ex b lim T H) (ex a lim T H) = some r := h
    rw [exec]
    cases e : ex a lim T H with
    | none => rw [e] at h; cases h
    | some y =>
      rw [e] at h
      obtain ⟨x, T1, H1⟩ := y
      rw [ih _ _ _ _ _ e]
      cases x with
      | normal => exact ih _ _ _ _ _ h
      | ret => exact h
      | exit id => exact h
  | cond c t e =>
    have h : condF (evF c T) (ex t lim T H) (ex e lim T H) = some r := h
    obtain ⟨b, h1, h2⟩ := condF_imp h
    rw [evF_eq] at h1
    rw [exec, h1]
    cases b <;> exact ih _ _ _ _ _ h2
  | block id b =>
    have h : inF id (ex b lim T H) = some r := h
    rw [exec]
    cases e : ex b lim T H with
    | none => rw [e] at h; cases h
    | some y =>
      rw [e] at h
      obtain ⟨x, T1, H1⟩ := y
      rw [ih _ _ _ _ _ e]
      cases x with
      | normal => exact h
      | ret => exact h
      | exit j =>
        simp only [Option.map_some]
        have h : Bool.rec (some (AExit.exit j, T1, H1)) (some (AExit.normal, T1, H1)) (Nat.beq j id) = some r := h
        cases q : Nat.beq j id with
        | false => rw [q] at h; rw [if_neg (Nat.ne_of_beq_eq_false q)]; exact h
        | true => rw [q] at h; rw [if_pos (Nat.eq_of_beq_eq_true q)]; exact h
  | loop b =>
    have h : thenF (fun T H => ex (.loop b) lim T H) (ex b lim T H) = some r := h
    rw [exec]
    cases e : ex b lim T H with
    | none => rw [e] at h; cases h
    | some y =>
      rw [e] at h
      obtain ⟨x, T1, H1⟩ := y
      rw [ih _ _ _ _ _ e]
      cases x with
      | normal => exact ih _ _ _ _ _ h
      | ret => exact h
      | exit id => exact h
noncomputable def drawH (E : AEnv) (ex : ExF) (hs : List Nat) (os : List (Bool × AOper)) (lim : Nat) (T : Tmps) (H : Heap) : Step :=
  Bool.rec none (Option.rec none (fun B => Option.rec none (fun p => some (.normal, p)) (runDraw E ex lim B os T H)) (hidden T H.length hs)) (Nat.ble lim H.length)
theorem drawH_imp {E : AEnv} {ex : ExF} {n : Nat} (ih : exLe ex (exec E n)) {hs : List Nat} {os : List (Bool × AOper)} {lim : Nat} {T : Tmps} {H : Heap} {r : AExit × Tmps × Heap} (h : drawH E ex hs os lim T H = some r) : exec E (n + 1) (.draw hs os) lim T H = some r := by
  unfold drawH at h
  cases hb : Nat.ble lim H.length with
  | false => rw [hb] at h; cases h
  | true =>
    rw [hb] at h
    have hle : lim ≤ H.length := Nat.le_of_ble_eq_true hb
    simp only [exec, if_pos hle]
    simp only at h
    cases hB : hidden T H.length hs with
    | none => rw [hB] at h; cases h
    | some B =>
      rw [hB] at h
      simp only at h
      simp only [Option.bind_some]
      cases e : runDraw E ex lim B os T H with
      | none => rw [e] at h; cases h
      | some p =>
        rw [e] at h
        rw [runDraw_mono ih e]
        exact h
noncomputable def oneH (E : AEnv) (ex : ExF) (c : AC) : Nat → Tmps → Heap → Step :=
  AC.casesOn (motive := fun _ => Nat → Tmps → Heap → Step) c
    (oneF E ex .skip)
    (fun os => oneF E ex (.region os))
    (fun hs os => List.rec (oneF E ex (.draw [] os)) (fun t ts _ => drawH E ex (t :: ts) os) hs)
    (fun a b => oneF E ex (.seq a b))
    (fun c t e => oneF E ex (.cond c t e))
    (fun id b => oneF E ex (.block id b))
    (fun b => oneF E ex (.loop b))
    (fun id => oneF E ex (.exit id))
    (fun ts => oneF E ex (.kill ts))
    (oneF E ex .ret)
    (oneF E ex .fail)
noncomputable def fexecH (E : AEnv) (n : Nat) : ExF := Nat.rec (fun _ _ _ _ => none) (fun _ ih c => oneH E ih c) n
theorem fexecH_imp {E : AEnv} : ∀ n, exLe (fexecH E n) (exec E n)
  | 0 => fun c lim T H r h => by cases h
  | n + 1 => fun c lim T H r h => by
    have ih := fexecH_imp (E := E) n
    have h : oneH E (fexecH E n) c lim T H = some r := h
    cases c with
    | draw hs os =>
      cases hs with
      | nil => exact oneF_imp ih (c := .draw [] os) h
      | cons t ts => exact drawH_imp ih h
    | skip => exact oneF_imp ih (c := .skip) h
    | ret => exact oneF_imp ih (c := .ret) h
    | fail => exact oneF_imp ih (c := .fail) h
    | exit id => exact oneF_imp ih (c := .exit id) h
    | kill ts => exact oneF_imp ih (c := .kill ts) h
    | region os => exact oneF_imp ih (c := .region os) h
    | seq a b => exact oneF_imp ih (c := .seq a b) h
    | cond c t e => exact oneF_imp ih (c := .cond c t e) h
    | block id b => exact oneF_imp ih (c := .block id b) h
    | loop b => exact oneF_imp ih (c := .loop b) h
theorem cl_runH {E : AEnv} {f : Nat} {as : List AV} {lim : Nat} {H H' : Heap} {r : AV} (n : Nat) (h : callFF E (fexecH E n) f as lim H = some (r, H')) : Cl E f as lim H r H' := ⟨n, callF_ex (fexecH_imp n) h⟩
end Go.Proofs.YtflgfiieaoeknaaGreatA

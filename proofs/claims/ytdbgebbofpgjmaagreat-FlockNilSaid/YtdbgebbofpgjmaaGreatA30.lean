/- slices.Insert of one row into none, as the small machine does it. No statement about the program is proved here. -/
import Derived.Test.YtdbgebbofpgjmaaGreatA29
namespace Go.Proofs.YtdbgebbofpgjmaaGreatA
open Go Go.RowKit
set_option linter.unusedVariables false

/-- One row is put into none. -/
def insertG0 (es bytes : Nat) : List AV → Nat → Heap → Option (AV × Heap)
  | [.nilsl, .int .i64 i, v], lim, H =>
    (elems H es v).bind fun (m, new) =>
      match v with
      | .sl b' _ _ _ => if i = 0 ∧ m = 1 ∧ 0 < es ∧ bytes ≤ most ∧ new.all AV.one = true then some (.sl H.length 0 1 es, H ++ [.cells true new]) else none
      | _ => none
  | _, _, _ => none

theorem insert0_prim {P : Program} {E : AEnv} (hE : EnvOK P E) {f es bytes : Nat} {fd : AFun} (hfd : E.fn f = some (.code fd))
    (W : ∀ (lim : Nat) (H : Heap) (b o : Nat) (new : List AV), elems H es (.sl b o 1 es) = some (1, new) → 0 < es → bytes ≤ most → new.all AV.one = true → Cl E f [.nilsl, .int .i64 0, .sl b o 1 es] lim H (.sl H.length 0 1 es) (H ++ [.cells true new])) : PrimOK P f (insertG0 es bytes) := by
  intro w0 ro μ H w lim cs vs r H' hr hv h
  unfold insertG0 at h
  split at h
  · rename_i i v
    simp only [Option.bind_eq_some_iff] at h
    obtain ⟨⟨m, new⟩, hel, h⟩ := h
    simp only at h
    split at h
    · rename_i b' o' n' es'
      split at h
      · rename_i q
        obtain ⟨rfl, rfl, q1, q2, q3⟩ := q
        have hn : n' = 1 ∧ es' = es := by
          simp only [elems] at hel
          split at hel
          · rename_i e
            simp only [Option.bind_eq_some_iff, Option.map_eq_some_iff, Prod.mk.injEq] at hel
            obtain ⟨_, _, _, _, e1, _⟩ := hel
            exact ⟨e1, e⟩
          · cases hel
        obtain ⟨rfl, rfl⟩ := hn
        cases h
        exact call_of E hE hfd hr hv (W lim H b' o' new hel q1 q2 q3)
      · cases h
    · cases h
  · cases h
end Go.Proofs.YtdbgebbofpgjmaaGreatA

/- slices.Insert and slices.overlaps, as the small machine does them. No statement about the program is proved here. -/
import Derived.Test.YtdbgebbofpgjmaaGreatA19
import Derived.Lib.Overlaps
import Derived.Laws.Externs
namespace Go.Proofs.YtdbgebbofpgjmaaGreatA
open Go Go.RowKit
set_option linter.unusedVariables false

/-- slices.Insert of one row of es cells (bytes bytes each). -/
def insertG (es bytes : Nat) : List AV → Nat → Heap → Option (AV × Heap)
  | [s, .int .i64 i, v], lim, H =>
    (elems H es v).bind fun (m, new) =>
      match v, s with
      | .sl b' _ _ _, .nilsl => if i = 0 ∧ m = 1 ∧ 0 < es ∧ bytes ≤ most ∧ new.all AV.one = true then some (.sl H.length 0 1 es, H ++ [.cells true new]) else none
      | .sl b' _ _ _, .sl b o n es' =>
        if es' = es ∧ 0 < es ∧ m = 1 ∧ lim ≤ b ∧ (n + 1) * bytes ≤ most ∧ n + 1 ≤ most ∧ new.all AV.one = true ∧ b' ≠ b ∧ 0 ≤ i ∧ i ≤ (n : Int) then
          match H[b]? with
          | some (.cells true cs) => if o + n * es = cs.length then some (.sl H.length 0 (n + 1) es, H.set b .dead ++ [.cells true ((cs.drop o).take (i.toNat * es) ++ new ++ cs.drop (o + i.toNat * es))]) else none
          | _ => none
        else none
      | _, _ => none
  | _, _, _ => none

/-- slices.overlaps of two rows in two blocks of ours. -/
def rowAt : AV → Option (Nat × Nat)
  | .sl b o n _ => some (b, n)
  | .slc b o n _ _ => some (b, n)
  | _ => none
def isRow1 (H : Heap) (b : Nat) : Bool := match H[b]? with | some (.cells _ (_ :: _)) => true | _ => false
def overlapsG : List AV → Heap → Option AV
  | [x, y], H => (rowAt x).bind fun (b, n) => (rowAt y).bind fun (b', n') => if b ≠ b' ∧ 0 < n ∧ 0 < n' ∧ isRow1 H b = true ∧ isRow1 H b' = true then some (.bool false) else none
  | _, _ => none

section
variable {w0 : World} {ro : Nat → Prop} {P : Program} {μ : Mu} {H : Heap} {w : World}
theorem rowAt_VR {x : AV} {v : Value} {b n : Nat} (hx : VR w0 ro μ x v) (h : rowAt x = some (b, n)) (hn : 0 < n) : ∃ loc off cap, μ[b]? = some (some loc) ∧ v = .slice (some ⟨loc.c, loc.k + off, none⟩) n cap := by
  cases hx <;> simp only [rowAt, reduceCtorEq, Option.some.injEq, Prod.mk.injEq] at h
  case sl hm hn' hc => obtain ⟨rfl, rfl⟩ := h; exact ⟨_, _, _, hm, rfl⟩
  case sl0 a => omega
  case slc hm hn' hc => obtain ⟨rfl, rfl⟩ := h; exact ⟨_, _, _, hm, rfl⟩
theorem isRow1_BR (hr : HR w0 ro μ H w) {b : Nat} {loc : Loc} (h : isRow1 H b = true) (hm : μ[b]? = some (some loc)) : ∃ arr t, w.heap[loc.c]? = some (.cells arr t (0, 0)) ∧ arr.size ≠ 0 ∧ alive H b := by
  have hb := hr.blk b loc hm
  unfold isRow1 at h
  split at h
  · rename_i g c cs e
    rw [e] at hb
    obtain ⟨_, arr, t, h1, h2, h3, _⟩ := hb
    simp only [List.length_cons] at h3
    exact ⟨arr, t, h1, by omega, .inl ⟨g, _, e⟩⟩
  · cases h

theorem overlaps_ok {f : Nat} {fn : Func} {tS tR e : TypeId} (hf : P.funcs[f]? = some fn) (hname : (fn.name == "runtime.NumGoroutine") = false) (hb : fn.body.isNone = true) (hn : Extern.findNext fn = none) (he : Extern.find fn = some (Extern.SlicesOverlaps.overlaps #[tS, tS] #[tR]))
    (ht : P.underlying tS = some (.slice e)) {size : Nat} (hs : sizeT P e = some size) : ExtOK P f overlapsG := by
  intro w0 ro μ H w as vs r hr hv h
  unfold overlapsG at h
  split at h
  · rename_i x y
    simp only [Option.bind_eq_some_iff] at h
    obtain ⟨⟨b, n⟩, h1, ⟨b', n'⟩, h2, h3⟩ := h
    split at h3
    · rename_i q
      obtain ⟨q1, q2, q3, q4, q5⟩ := q
      cases h3
      obtain ⟨l⟩ := vs
      cases hv with
      | cons k t => cases t with
        | cons k' t => cases t with
          | nil =>
            obtain ⟨la, oa, ca, m1, rfl⟩ := rowAt_VR k h1 q2
            obtain ⟨lb, ob, cb, m2, rfl⟩ := rowAt_VR k' h2 q3
            obtain ⟨arr, t1, e1, _, a1⟩ := isRow1_BR hr q4 m1
            obtain ⟨arr', t2, e2, z2, a2⟩ := isRow1_BR hr q5 m2
            have hne : la.c ≠ lb.c := fun e => q1 (hr.inj b b' la lb a1 a2 m1 m2 e)
            refine ⟨.bool false, ?_, .bool _⟩
            rw [run_callFunc_extern hf hname hb hn he, Go.Lib.run_overlaps_apart w tS tR e ht size (fun w => run_sizeT hs w) ⟨la.c, la.k + oa, none⟩ ⟨lb.c, lb.k + ob, none⟩ n ca n' cb hne t1 t2 arr.size arr'.size
              (by simp [World.shape?, e1]) (by simp [World.shape?, e2]) z2 (by simp [World.frozen?, e1]) (by simp [World.frozen?, e1])]
            rfl
    · cases h3
  · cases h

end
end Go.Proofs.YtdbgebbofpgjmaaGreatA

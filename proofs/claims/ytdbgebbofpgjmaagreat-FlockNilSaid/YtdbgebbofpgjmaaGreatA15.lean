/- The small machine's runs are the program's. No statement about the program is proved here. -/
import Derived.Test.YtdbgebbofpgjmaaGreatA14
namespace Go.Proofs.YtdbgebbofpgjmaaGreatA
open Go Go.RowKit
set_option linter.unusedVariables false

section
variable {w0 : World} {ro : Nat → Prop} {P : Program} {μ : Mu} {H : Heap} {w : World} {T : Tmps} {lim : Nat} {E : AEnv}

/-- How code and its small twin lie together. -/
inductive Low (P : Program) : Code → AC → Prop
  | fail (c) : Low P c .fail
  | skip : Low P .skip .skip
  | ret : Low P .ret .ret
  | exit (id) : Low P (.exit id) (.exit id)
  | region (id) (ops : Array Oper) : Low P (.region id ops false) (.region (ops.toList.map (lowOper P ops)))
  | draw (id) (ops : Array Oper) (h1 : apartOk (befores ops.toList []) (ops.toList.map (lowOper P ops)) = true) (h2 : edgesOk ops.toList = true) : Low P (.region id ops true) (.draw (flagged (befores ops.toList []) (ops.toList.map (lowOper P ops))))
  | seq {a b a' b'} (h : Low P a a') (k : Low P b b') : Low P (.seq a b) (.seq a' b')
  | cond {c c' t e t' e'} (hc : lowX c = some c') (h : Low P t t') (k : Low P e e') : Low P (.cond c t e) (.cond c' t' e')
  | block (id) {b b'} (h : Low P b b') : Low P (.block id b) (.block id b')
  | loop {b b'} (h : Low P b b') : Low P (.loop b) (.loop b')
  | kill (ts) {c c'} (h : Low P c c') : Low P c (.seq (.kill ts) c')

theorem lowC_Low : ∀ (c : Code) (h : List (List Nat)), Low P c (lowC P c h).1
  | .skip, _ => .skip
  | .ret, _ => .ret
  | .exit id, _ => .exit id
  | .region id ops false, _ => by simp only [lowC]; exact .region id ops
  | .region id ops true, _ => by
    simp only [lowC, if_true, lowDraw]
    split
    · rename_i q
      simp only [Bool.and_eq_true] at q
      exact .draw id ops q.1 q.2
    · exact .fail _
  | .seq a b, h => by simp only [lowC]; exact .seq (lowC_Low a h) (lowC_Low b _)
  | .cond c t e, h => by
    simp only [lowC]
    split
    · rename_i c' hc; exact .cond hc (lowC_Low t h) (lowC_Low e _)
    · exact .fail _
  | .block id b, h => by simp only [lowC]; exact .block id (lowC_Low b h)
  | .loop b, [] => by simp only [lowC]; exact .loop (lowC_Low b [])
  | .loop b, ts :: h => by simp only [lowC]; exact .loop (.kill ts (lowC_Low b h))
  | .label _, _ | .goto _, _ | .scope .., _ | .rangeFunc .., _ | .refuse _, _ => by simp only [lowC]; exact .fail _

theorem VRs.kill {ts : Tmps} {vs : List Value} (h : VRs w0 ro μ ts vs) (t : Nat) : VRs w0 ro μ (ts.set t .undef) vs :=
  VRs.of_get (by simpa using h.len) fun i v e => by
    rw [List.getElem?_set] at e
    by_cases q : t = i
    · rw [if_pos q] at e
      split at e
      · rename_i hlt
        cases e
        have : i < vs.length := by rw [← h.len]; omega
        exact ⟨vs[i], List.getElem?_eq_getElem this, .undef _⟩
      · cases e
    · rw [if_neg q] at e; exact h.get e
theorem AR.kill {a : Act} : ∀ {T : Tmps} (l : List Nat), AR w0 ro μ T a → AR w0 ro μ (killT T l) a
  | _, [], h => h
  | _, t :: l, h => AR.kill l ⟨h.1, h.2.kill t⟩

def exitOf : AExit → Exit
  | .normal => .normal
  | .ret => .ret
  | .exit id => .exit id

def CodeSim (P : Program) (E : AEnv) (n : Nat) : Prop :=
  ∀ (w0 : World) (ro : Nat → Prop) (lim : Nat) (c : Code) (ac : AC) (μ : Mu) (H : Heap) (w : World) (T : Tmps) (a : Act) (x : AExit) (T' : Tmps) (H' : Heap) (Q : Exit → Act → World → Prop),
    Low P c ac → HR w0 ro μ H w → AR w0 ro μ T a → exec E n ac lim T H = some (x, T', H') →
    (∀ μ' a' w', Post w0 ro lim μ H w μ' H' w' → AR w0 ro μ' T' a' → Q (exitOf x) a' w') → c.wp P Q a w

def LoopSim (P : Program) (E : AEnv) (n : Nat) : Prop :=
  ∀ (w0 : World) (ro : Nat → Prop) (lim : Nat) (c : Code) (ac : AC) (μ : Mu) (H : Heap) (w : World) (T : Tmps) (a : Act) (x : AExit) (T' : Tmps) (H' : Heap) (Q : Exit → Act → World → Prop),
    Low P c ac → HR w0 ro μ H w → AR w0 ro μ T a → exec E n (.loop ac) lim T H = some (x, T', H') →
    (∀ μ' a' w', Post w0 ro lim μ H w μ' H' w' → AR w0 ro μ' T' a' → Q (exitOf x) a' w') → Code.rounds P c Q n a w

/-! ## Results -/
def resW (tmps : Array Value) : ResultVar → Sem Value
  | .tmp t => pure (tmps.getD t undef)
  | .cell a t => do loadVar t (← asAddr (tmps.getD a undef))
theorem resL_run {a : Act} (hr : HR w0 ro μ H w) (har : AR w0 ro μ T a) : ∀ {rv : List ResultVar} {rs : List ARes} {vs : List AV}, lowRes P rv = some rs → resL H T rs = some vs → ∃ vs', (rv.mapM (resW a.tmps)).run P w = .ok vs' w ∧ VRs w0 ro μ vs vs'
  | [], rs, vs, h, k => by
    simp only [lowRes, Option.some.injEq] at h
    subst h
    simp only [resL, Option.some.injEq] at k
    subst k
    exact ⟨[], by simp, .nil⟩
  | r :: rv, rs, vs, h, k => by
    have step : ∀ ar rs', rs = ar :: rs' → lowRes P rv = some rs' → (∀ v, resOne H T ar = some v → ∃ v', (resW a.tmps r).run P w = .ok v' w ∧ VR w0 ro μ v v') → ∃ vs', ((r :: rv).mapM (resW a.tmps)).run P w = .ok vs' w ∧ VRs w0 ro μ vs vs' := fun ar rs' e h2 hone => by
      subst e
      simp only [resL, Option.bind_eq_some_iff, Option.map_eq_some_iff] at k
      obtain ⟨v, k1, vs2, k2, rfl⟩ := k
      obtain ⟨v', h3, h4⟩ := hone v k1
      obtain ⟨vs', h5, h6⟩ := resL_run hr har h2 k2
      exact ⟨v' :: vs', by simp [h3, h5], .cons h4 h6⟩
    cases r with
    | tmp t =>
      simp only [lowRes, Option.map_eq_some_iff] at h
      obtain ⟨rs', h1, h2⟩ := h
      refine step _ _ h2.symm h1 fun v hv => ?_
      simp only [resOne] at hv
      obtain ⟨v', h3, h4⟩ := har.get hv
      exact ⟨v', by simp [resW, Array.getD_eq_getD_getElem?, h3], h4⟩
    | cell t ty =>
      simp only [lowRes, Option.bind_eq_some_iff, Option.map_eq_some_iff] at h
      obtain ⟨n, h0, rs', h1, h2⟩ := h
      refine step _ _ h2.symm h1 fun v hv => ?_
      simp only [resOne, Option.bind_eq_some_iff] at hv
      obtain ⟨u, h3, h4⟩ := hv
      obtain ⟨u', h5, h6⟩ := har.get h3
      have e : a.tmps.getD t undef = u' := by simp [Array.getD_eq_getD_getElem?, h5]
      unfold loadAt at h4
      split at h4
      · rename_i b off
        simp only [Option.bind_eq_some_iff] at h4
        obtain ⟨cs, g1, c', g2, g3⟩ := h4
        cases h6 with
        | ptr hm =>
          obtain ⟨x, x1, x2⟩ := sim_loadVar h0 (hr.lie hm g1 g2) (cut_len g2) g3
          exact ⟨x, by simp [resW, e, asAddr, x1], x2⟩
      · simp only [Option.bind_eq_some_iff] at h4
        obtain ⟨c', g2, g3⟩ := h4
        cases h6 with
        | tp h7 hd =>
          have := hd.lie hr h7 g2
          simp only [Nat.add_zero] at this
          obtain ⟨x, x1, x2⟩ := sim_loadVar h0 this (cut_len g2) g3
          exact ⟨x, by simp [resW, e, asAddr, x1], x2⟩
      · cases h4

theorem res_run {a : Act} {fn : Func} {rs : List ARes} {r : AV} (hr : HR w0 ro μ H w) (har : AR w0 ro μ T a) (h : lowRes P fn.results.toList = some rs) (k : resAll H T rs = some r) :
    ∃ v, (results fn a.tmps).run P w = .ok v w ∧ VR w0 ro μ r v := by
  simp only [resAll, Option.map_eq_some_iff] at k
  obtain ⟨vs, k1, k2⟩ := k
  obtain ⟨vs', h1, h2⟩ := resL_run hr har h k1
  have e : (results fn a.tmps).run P w = .ok (if h : vs'.toArray.size = 1 then vs'.toArray[0] else .tuple vs'.toArray) w := by
    have : results fn a.tmps = (do let vs ← fn.results.mapM (resW a.tmps); pure (if h : vs.size = 1 then vs[0] else .tuple vs)) := by
      unfold results
      congr 1
    rw [this, Array.mapM_eq_mapM_toList]
    simp [h1]
  refine ⟨_, e, ?_⟩
  cases h2 with
  | nil => subst k2; exact .tup .nil
  | cons q t =>
    cases t with
    | nil => subst k2; exact q
    | cons q' t' => subst k2; simp; exact .tup (.cons q (.cons q' t'))

end
end Go.Proofs.YtdbgebbofpgjmaaGreatA

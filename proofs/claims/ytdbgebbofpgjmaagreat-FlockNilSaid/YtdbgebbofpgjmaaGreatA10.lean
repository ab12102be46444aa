/- A step of the small machine; regions in the order of the text. No statement about the program is proved here. -/
import Derived.Test.YtdbgebbofpgjmaaGreatA9
namespace Go.Proofs.YtdbgebbofpgjmaaGreatA
open Go Go.RowKit
set_option linter.unusedVariables false

section
variable {w0 : World} {ro : Nat → Prop} {P : Program} {μ : Mu} {H : Heap} {w : World} {T : Tmps} {lim : Nat} {E : AEnv}

theorem AR.get {a : Act} {t : Nat} {v : AV} (h : AR w0 ro μ T a) (e : T[t]? = some v) : ∃ v', a.tmps[t]? = some v' ∧ VR w0 ro μ v v' := by
  obtain ⟨v', h1, h2⟩ := h.2.get e
  exact ⟨v', by simpa using h1, h2⟩

theorem wanted_sim {ops : Array Oper} {o : Oper} {a : Act} {g : Option (Nat × Bool)} {b : Bool} (har : AR w0 ro μ T a) (hg : lowGuard ops o.guard = some g) (h : wantedA T g = some b) :
    Region.wanted o (yielded ops a.tmps) = b := by
  unfold Region.wanted
  cases e : o.guard with
  | none =>
    rw [e] at hg
    simp only [lowGuard, Option.some.injEq] at hg
    subst hg
    simp only [wantedA, Option.some.injEq] at h
    simpa using h
  | some p =>
    obtain ⟨j, want⟩ := p
    rw [e] at hg
    simp only [lowGuard, Option.map_eq_some_iff] at hg
    obtain ⟨t, h1, rfl⟩ := hg
    simp only [wantedA] at h
    unfold yielded
    simp only [h1, Option.bind_some]
    split at h
    · rename_i c ec
      obtain ⟨v', h2, h3⟩ := har.get ec
      cases h3
      cases h
      rw [h2]
      cases c <;> cases want <;> rfl
    · rename_i ec
      obtain ⟨v', h2, h3⟩ := har.get ec
      cases h3
      cases h
      rw [h2]
      rfl
    · cases h

theorem lowOper_dst {ops : Array Oper} {o : Oper} : (lowOper P ops o).dst = o.dst := by
  unfold lowOper; split <;> rfl

/-- What a step yields. -/
def ValOf (E : AEnv) (ex : AC → Nat → Tmps → Heap → Step) (lim : Nat) (o : AOper) (T : Tmps) (H : Heap) (v : AV) (H' : Heap) : Prop :=
  (wantedA T o.guard = some false ∧ v = .noval ∧ H' = H) ∨ (wantedA T o.guard = some true ∧ runOp E ex lim T H o.op = some (v, H'))
theorem stepOp_val {ex : AC → Nat → Tmps → Heap → Step} {o : AOper} {R : Tmps × Heap} (h : stepOp E ex lim o T H = some R) : ∃ v, R.1 = putT T o.dst v ∧ ValOf E ex lim o T H v R.2 := by
  unfold stepOp at h
  simp only [Option.bind_eq_some_iff] at h
  obtain ⟨b, h1, h2⟩ := h
  cases b with
  | false =>
    simp only [Option.some.injEq] at h2
    subst h2
    exact ⟨.noval, rfl, .inl ⟨h1, rfl, rfl⟩⟩
  | true =>
    simp only [Option.map_eq_some_iff] at h2
    obtain ⟨⟨v, H2⟩, h3, rfl⟩ := h2
    exact ⟨v, rfl, .inr ⟨h1, h3⟩⟩

/-- One step. -/
theorem step_val (hE : EnvOK P E) {ex : AC → Nat → Tmps → Heap → Step} (hC : CallSim P E ex) {ops : Array Oper} {i : Nat} {o : Oper} {a : Act} {v : AV} {H' : Heap} (hi : ops[i]? = some o)
    (hr : HR w0 ro μ H w) (har : AR w0 ro μ T a) (h : ValOf E ex lim (lowOper P ops o) T H v H')
    {K : Act → World → Prop} {Q : Exit → Act → World → Prop} (hK : ∀ μ' v' w', Post w0 ro lim μ H w μ' H' w' → VR w0 ro μ' v v' → K (a.put o.dst v') w') : wpOp P ops Q i K a w := by
  unfold wpOp
  simp only [hi]
  cases hg : lowGuard ops o.guard with
  | none =>
    have : lowOper P ops o = ⟨o.dst, none, .fail⟩ := by simp only [lowOper, hg]
    rw [this] at h
    rcases h with ⟨h, _⟩ | ⟨_, h⟩
    · simp [wantedA] at h
    · simp [runOp, aop] at h
  | some g =>
    have e1 : lowOper P ops o = ⟨o.dst, g, lowOp P o.op⟩ := by simp only [lowOper, hg]
    rw [e1] at h
    rcases h with ⟨h1, rfl, rfl⟩ | ⟨h1, h3⟩
    · rw [wanted_sim har hg h1]
      simp only [Bool.false_eq_true, if_false]
      exact hK μ _ w (Post.refl hr) .noval
    · rw [wanted_sim har hg h1]
      simp only [if_true]
      exact .inl (run_sim hE hC hr har h3 fun μ' v' w' hp hv => hK μ' _ w' hp hv)

theorem step_sim (hE : EnvOK P E) {ex : AC → Nat → Tmps → Heap → Step} (hC : CallSim P E ex) {ops : Array Oper} {i : Nat} {o : Oper} {a : Act} {T' : Tmps} {H' : Heap} (hi : ops[i]? = some o)
    (hr : HR w0 ro μ H w) (har : AR w0 ro μ T a) (h : stepOp E ex lim (lowOper P ops o) T H = some (T', H'))
    {K : Act → World → Prop} {Q : Exit → Act → World → Prop} (hK : ∀ μ' a' w', Post w0 ro lim μ H w μ' H' w' → AR w0 ro μ' T' a' → K a' w') : wpOp P ops Q i K a w := by
  obtain ⟨v, h1, h2⟩ := stepOp_val h
  simp only at h1 h2
  subst h1
  refine step_val hE hC hi hr har h2 fun μ' v' w' hp hv => hK μ' _ w' hp ?_
  rw [lowOper_dst]
  exact (har.ext hp.ext).put o.dst hv

theorem ops_sim (hE : EnvOK P E) {ex : AC → Nat → Tmps → Heap → Step} (hC : CallSim P E ex) {ops : Array Oper} {Q : Exit → Act → World → Prop} {w1 : World} {μ1 : Mu} {H1 : Heap} : ∀ (n k : Nat) (μ : Mu) (H : Heap) (w : World) (T : Tmps) (a : Act) (T' : Tmps) (H' : Heap), k + n = ops.size →
    HR w0 ro μ H w → AR w0 ro μ T a → Post w0 ro lim μ1 H1 w1 μ H w → runOps E ex lim ((ops.toList.drop k).map (lowOper P ops)) T H = some (T', H') →
    (∀ μ' a' w', Post w0 ro lim μ1 H1 w1 μ' H' w' → AR w0 ro μ' T' a' → Q .normal a' w') → wpOps P ops Q (List.range' k n) a w
  | 0, k, μ, H, w, T, a, T', H', hk, hr, har, hp, h, hQ => by
    have : ops.toList.drop k = [] := List.drop_eq_nil_of_le (by simp; omega)
    rw [this] at h
    simp only [List.map_nil, runOps, Option.some.injEq, Prod.mk.injEq] at h
    obtain ⟨rfl, rfl⟩ := h
    exact hQ μ a w hp har
  | n + 1, k, μ, H, w, T, a, T', H', hk, hr, har, hp, h, hQ => by
    have hlt : k < ops.size := by omega
    have hi : ops[k]? = some ops[k] := Array.getElem?_eq_getElem hlt
    have : ops.toList.drop k = ops[k] :: ops.toList.drop (k + 1) := by
      rw [List.drop_eq_getElem_cons (by simpa using hlt)]; simp
    rw [this] at h
    simp only [List.map_cons, runOps, Option.bind_eq_some_iff] at h
    obtain ⟨⟨T2, H2⟩, h1, h2⟩ := h
    rw [List.range'_succ, wpOps_cons]
    exact step_sim hE hC hi hr har h1 fun μ' a' w' hp' har' => ops_sim hE hC n (k + 1) μ' H2 w' T2 a' T' H' (by omega) hp'.hr har' (hp.trans hp') h2 hQ

theorem region_sim (hE : EnvOK P E) {ex : AC → Nat → Tmps → Heap → Step} (hC : CallSim P E ex) {id : Nat} {ops : Array Oper} {Q : Exit → Act → World → Prop} {a : Act} {T' : Tmps} {H' : Heap}
    (hr : HR w0 ro μ H w) (har : AR w0 ro μ T a) (h : runOps E ex lim (ops.toList.map (lowOper P ops)) T H = some (T', H'))
    (hQ : ∀ μ' a' w', Post w0 ro lim μ H w μ' H' w' → AR w0 ro μ' T' a' → Q .normal a' w') : (Code.region id ops false).wp P Q a w := by
  refine wp_region ?_
  rw [List.range_eq_range']
  exact ops_sim hE hC ops.size 0 μ H w T a T' H' (by omega) hr har (Post.refl hr) (by simpa using h) hQ

end
end Go.Proofs.YtdbgebbofpgjmaaGreatA

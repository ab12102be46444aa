/- slices.Clone, as the small machine does it. No statement about the program is proved here. -/
import Derived.Test.YtdbgebbofpgjmaaGreatA26
namespace Go.Proofs.YtdbgebbofpgjmaaGreatA
open Go Go.RowKit
set_option linter.unusedVariables false

/-- A row of its own, or none. -/
def cloneG (es bytes : Nat) : List AV → Nat → Heap → Option (AV × Heap)
  | [s], lim, H => appendAV lim H es bytes .nilsl s
  | _, _, _ => none

section
variable {w0 : World} {ro : Nat → Prop} {P : Program} {μ : Mu} {H : Heap} {w : World} {lim : Nat}

def noEnv : AEnv := ⟨fun _ => none, fun _ _ => none⟩
theorem noEnv_ok (hm : P.follows .mixedOrders = true) : EnvOK P noEnv where
  mixed := hm
  code := fun f fd e => by cases e
  prim := fun f g e => by cases e
  ext := fun f g e => by cases e
  meth0 := fun t n f e => by cases e
  meth1 := fun t n f m e => by cases e

theorem slice_of {s : AV} {v : Value} {es n : Nat} {cs : List AV} (h : elems H es s = some (n, cs)) (hv : VR w0 ro μ s v) : ∃ a c, v = .slice a n c ∧ (a = none → n = 0) := by
  unfold elems at h
  split at h
  · cases h
    cases hv
    exact ⟨_, _, rfl, fun _ => rfl⟩
  · split at h
    · simp only [Option.bind_eq_some_iff, Option.map_eq_some_iff, Prod.mk.injEq] at h
      obtain ⟨_, _, _, _, rfl, _⟩ := h
      cases hv with
      | sl => exact ⟨_, _, rfl, fun q => by cases q⟩
      | sl0 a => exact ⟨_, _, rfl, fun _ => rfl⟩
    · cases h
  · split at h
    · simp only [Option.bind_eq_some_iff, Option.map_eq_some_iff, Prod.mk.injEq] at h
      obtain ⟨_, _, _, _, rfl, _⟩ := h
      cases hv with
      | slc => exact ⟨_, _, rfl, fun q => by cases q⟩
    · cases h
  · split at h
    · cases h
      cases hv with
      | ro0 a c => exact ⟨_, _, rfl, fun _ => rfl⟩
      | ro => exact ⟨_, _, rfl, fun q => by cases q⟩
    · cases h
  · cases h

theorem eqnil_run {t e : TypeId} (ht : P.underlying t = some (.slice e)) (a : Option Addr) (n c : Nat) (x y : Operand) (w : World) :
    (do eqGuard .eql t x y (.slice a n c) (.slice none 0 0); binOp .eql t (.slice a n c) (.slice none 0 0) : Sem Value).run P w = .ok (.bool a.isNone) w := by
  have h1 : (eqGuard .eql t x y (.slice a n c) (.slice none 0 0)).run P w = .ok () w := rfl
  have h2 : (binOp .eql t (.slice a n c) (.slice none 0 0)).run P w = .ok (.bool a.isNone) w := by
    have h3 : (Op.equal t (.slice a n c) (.slice none 0 0)).run P w = .ok a.isNone w := by
      unfold Op.equal Op.maxDepth Op.equalIn
      simp only [Sem.run_bind, run_underlying ht, Result.andThen_ok]
      cases a <;> rfl
    show (do pure (.bool (← Op.equal t (.slice a n c) (.slice none 0 0))) : Sem Value).run P w = _
    simp only [Sem.run_bind, h3, Result.andThen_ok, Sem.run_pure]
  simp only [Sem.run_bind, h1, h2, Result.andThen_ok]

theorem clone_prim (hm : P.follows .mixedOrders = true) {f : Nat} {fn : Func} {t t' e : TypeId} {es bytes : Nat} (hent : Entered P f fn) (ht : P.underlying t = some (.slice e)) {i0 i1 i2 i3 : Nat} {ops0 ops2 ops3 : Array Oper} {o3 o4 : Oper}
    (hbody : fn.body = some (.seq (.region i0 ops0 false) (.seq (.seq (.region i1 #[o3, o4] false) (.cond (.tmp 4) (.seq (.region i2 ops2 false) .ret) .skip)) (.seq (.region i3 ops3 false) .ret))))
    (h0 : ops0.toList.map (lowOper P ops0) = [⟨some 2, none, .mv (.cst .nilsl)⟩])
    (h1 : lowOper P #[o3, o4] o3 = ⟨some 3, none, .mv (.tmp 0)⟩) (h4 : o4.op = .binOp .eql t (.tmp 3) (.const (.slice none 0 0)) t') (h4d : o4.dst = some 4) (h4g : o4.guard = none)
    (h2 : ops2.toList.map (lowOper P ops2) = [⟨some 2, none, .mv (.cst .nilsl)⟩])
    (h3 : ops3.toList.map (lowOper P ops3) = [⟨some 5, none, .buildSlice es 0 [] []⟩, ⟨some 6, none, .mv (.tmp 0)⟩, ⟨some 7, none, .append es bytes (.tmp 5) (.tmp 6)⟩, ⟨some 2, none, .mv (.tmp 7)⟩])
    (hres : lowRes P fn.results.toList = some [.tmp 2]) (hn : fn.ntmps = 8) : PrimOK P f (cloneG es bytes) := by
  intro w0 ro μ H w lim as vs r H' hr hv h
  unfold cloneG at h
  split at h
  · rename_i s
    obtain ⟨l⟩ := vs
    cases hv with
    | @cons _ v _ vs' hs tl =>
      cases tl
      have hE := noEnv_ok hm
      have hC := call_sim hE 0
      have h' := h
      simp only [appendAV, Option.bind_eq_some_iff] at h'
      obtain ⟨⟨n, cs⟩, hel, _⟩ := h'
      obtain ⟨ad, c, rfl, hnone⟩ := slice_of hel hs
      refine calls_of_wp hent.1 hbody ?_
      refine wp_seq ?_
      have hAR : AR w0 ro μ (s :: List.replicate 7 .noval) ⟨#[.slice ad n c] ++ Array.replicate (fn.ntmps - 1) Go.undef, []⟩ := by
        refine ⟨rfl, ?_⟩
        rw [hn]
        exact .cons hs (replicate_VRs 7)
      refine region_sim (lim := lim) hE hC hr hAR (T' := (s :: List.replicate 7 .noval).set 2 .nilsl) (H' := H) (by rw [h0]; rfl) fun μ1 a1 w1 hp1 ha1 => ?_
      refine wp_seq ?_
      refine wp_seq ?_
      refine wp_region ?_
      show wpOps P #[o3, o4] _ [0, 1] a1 w1
      rw [wpOps_cons]
      refine step_sim (lim := lim) hE hC (i := 0) (o := o3) rfl hp1.hr ha1 (T' := ((s :: List.replicate 7 .noval).set 2 .nilsl).set 3 s) (H' := H) (by rw [h1]; rfl) fun μ2 a2 w2 hp2 ha2 => ?_
      rw [wpOps_cons]
      have hp12 := hp1.trans hp2
      have hs2 : VR w0 ro μ2 s (.slice ad n c) := hs.ext hp12.ext
      obtain ⟨ad2, n2, c2, he3, hnone2⟩ : ∃ ad2 n2 c2, a2.eval (.tmp 3) = .slice ad2 n2 c2 ∧ (ad2 = none → n = 0) := by
        have := lowX_VR (x := .tmp 3) (ax := .tmp 3) rfl ha2
        have e3 : AX.ev (((s :: List.replicate 7 .noval).set 2 .nilsl).set 3 s) (.tmp 3) = s := rfl
        rw [e3] at this
        obtain ⟨ad2, c2, q1, q2⟩ := slice_of hel this
        exact ⟨ad2, n, c2, q1, q2⟩
      have hbool : AR w0 ro μ2 ((((s :: List.replicate 7 .noval).set 2 .nilsl).set 3 s).set 4 (.bool ad2.isNone)) (a2.put (some 4) (.bool ad2.isNone)) := ha2.put (some 4) (.bool _)
      have fin : ∀ (μ3 : Mu) (a3 : Act) (w3 : World) (T3 : Tmps) (r3 : AV) (H3 : Heap), T3[2]? = some r3 → Post w0 ro lim μ H w μ3 H3 w3 → AR w0 ro μ3 T3 a3 → r3 = r → H3 = H' → a3.defers = [] ∧ ∃ v, (results fn a3.tmps).run P w3 = .ok v w3 ∧ CallPost w0 ro lim μ H w r H' (.returned v) w3 := fun μ3 a3 w3 T3 r3 H3 e1 hp ha e2 e3 => by
        subst e2; subst e3
        obtain ⟨v', g1, g2⟩ := res_run hp.hr ha hres (r := r3) (by simp [resAll, resL, resOne, e1])
        exact ⟨ha.1, v', g1, v', μ3, rfl, hp, g2⟩
      have step4 : ∀ (K : Act → World → Prop) (Q : Exit → Act → World → Prop), K (a2.put (some 4) (.bool ad2.isNone)) w2 → wpOp P #[o3, o4] Q 1 K a2 w2 := fun K Q hK => by
        unfold wpOp
        have e1 : (#[o3, o4] : Array Oper)[1]? = some o4 := rfl
        simp only [e1]
        have e2 : Region.wanted o4 (yielded #[o3, o4] a2.tmps) = true := by simp [Region.wanted, h4g]
        rw [e2]
        simp only [if_true]
        refine .inl ?_
        unfold Oper.wp
        have e3 : (execOp a2.eval o4).run P w2 = .ok (.value (.bool ad2.isNone)) w2 := by
          unfold execOp
          rw [h4]
          have e4 : a2.eval (.const (.slice none 0 0)) = .slice none 0 0 := rfl
          simp only [he3, e4]
          rw [Sem.run_bind, eqnil_run ht]
          rfl
        rw [e3]
        show K (a2.put o4.dst (.bool ad2.isNone)) w2
        rw [h4d]
        exact hK
      refine step4 _ _ ?_
      show (Code.cond (.tmp 4) _ _).wp P _ _ _
      refine wp_cond (t := ad2.isNone) ?_ ?_
      · have := lowX_VR (x := .tmp 4) (ax := .tmp 4) rfl hbool
        have e3 : AX.ev ((((s :: List.replicate 7 .noval).set 2 .nilsl).set 3 s).set 4 (.bool ad2.isNone)) (.tmp 4) = .bool ad2.isNone := rfl
        rw [e3] at this
        exact this.bool_inv
      · cases ead : ad2 with
        | none =>
          simp only [Option.isNone_none, if_true]
          rw [ead] at hbool
          have hn0 := hnone2 ead
          subst hn0
          simp only [appendAV, hel, Option.bind_some, if_true, Option.some.injEq, Prod.mk.injEq] at h
          obtain ⟨rfl, rfl⟩ := h
          refine wp_seq ?_
          refine region_sim (lim := lim) hE hC hp12.hr hbool (T' := ((((s :: List.replicate 7 .noval).set 2 .nilsl).set 3 s).set 4 (.bool true)).set 2 .nilsl) (H' := H) (by rw [h2]; rfl) fun μ3 a3 w3 hp3 ha3 => ?_
          refine wp_ret ?_
          exact fin μ3 a3 w3 _ .nilsl H rfl (hp12.trans hp3) ha3 rfl rfl
        | some x =>
          simp only [Option.isNone_some, Bool.false_eq_true, if_false]
          rw [ead] at hbool
          refine wp_skip ?_
          refine wp_seq ?_
          refine region_sim (lim := lim) hE hC hp12.hr hbool (T' := (((((((s :: List.replicate 7 .noval).set 2 .nilsl).set 3 s).set 4 (.bool false)).set 5 .nilsl).set 6 s).set 7 r).set 2 r) (H' := H') (by
            rw [h3]
            have e1 : appendAV lim H es bytes .nilsl s = some (r, H') := h
            simp [runOps, stepOp, wantedA, runOp, aop, AX.ev, putT, fillAV, e1]) fun μ3 a3 w3 hp3 ha3 => ?_
          refine wp_ret ?_
          exact fin μ3 a3 w3 _ r H' rfl (hp12.trans hp3) ha3 rfl rfl
  · cases h
end
end Go.Proofs.YtdbgebbofpgjmaaGreatA

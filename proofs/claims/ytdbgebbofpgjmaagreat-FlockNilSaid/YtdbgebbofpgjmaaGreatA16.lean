/- The small machine's runs are the program's (end). No statement about the program is proved here. -/
import Derived.Test.YtdbgebbofpgjmaaGreatA15
namespace Go.Proofs.YtdbgebbofpgjmaaGreatA
open Go Go.RowKit
set_option linter.unusedVariables false

section
variable {w0 : World} {ro : Nat → Prop} {P : Program} {μ : Mu} {H : Heap} {w : World} {T : Tmps} {lim : Nat} {E : AEnv}

theorem loop_step {n : Nat} (ih : CodeSim P E n) (ihl : LoopSim P E n) : LoopSim P E (n + 1) := by
  intro w0 ro lim c ac μ H w T a x T' H' Q hl hr har h hQ
  simp only [exec] at h
  cases e : exec E n ac lim T H with
  | none => rw [e] at h; cases h
  | some r =>
    obtain ⟨x1, T1, H1⟩ := r
    rw [e] at h
    refine ih w0 ro lim c ac μ H w T a x1 T1 H1 _ hl hr har e fun μ1 a1 w1 hp1 ha1 => ?_
    cases x1 with
    | normal => exact ihl w0 ro lim c ac μ1 H1 w1 T1 a1 x T' H' Q hl hp1.hr ha1 h fun μ' a' w' hp ha => hQ μ' a' w' (hp1.trans hp) ha
    | ret => cases h; exact hQ μ1 a1 w1 hp1 ha1
    | exit id => cases h; exact hQ μ1 a1 w1 hp1 ha1

theorem code_step (hE : EnvOK P E) {n : Nat} (hC : CallSim P E (exec E n)) (ih : CodeSim P E n) (ihl : LoopSim P E n) : CodeSim P E (n + 1) := by
  intro w0 ro lim c ac μ H w T a x T' H' Q hl hr har h hQ
  cases hl with
  | fail => simp [exec] at h
  | skip => simp only [exec, Option.some.injEq, Prod.mk.injEq] at h; obtain ⟨rfl, rfl, rfl⟩ := h; exact wp_skip (hQ μ a w (Post.refl hr) har)
  | ret => simp only [exec, Option.some.injEq, Prod.mk.injEq] at h; obtain ⟨rfl, rfl, rfl⟩ := h; exact wp_ret (hQ μ a w (Post.refl hr) har)
  | exit id => simp only [exec, Option.some.injEq, Prod.mk.injEq] at h; obtain ⟨rfl, rfl, rfl⟩ := h; exact wp_exit (hQ μ a w (Post.refl hr) har)
  | region id ops =>
    simp only [exec, Option.map_eq_some_iff, Prod.mk.injEq] at h
    obtain ⟨⟨T1, H1⟩, h1, rfl, rfl, rfl⟩ := h
    exact region_sim hE hC hr har h1 hQ
  | draw id ops h1 h2 =>
    simp only [exec] at h
    split at h
    case isFalse => cases h
    rename_i hle
    simp only [Option.map_eq_some_iff, Prod.mk.injEq] at h
    obtain ⟨⟨T1, H1⟩, h3, rfl, rfl, rfl⟩ := h
    exact draw_sim hE hC hr hle har h1 h2 h3 hQ
  | @seq c1 c2 a1 a2 k1 k2 =>
    simp only [exec] at h
    refine wp_seq ?_
    cases e : exec E n a1 lim T H with
    | none => rw [e] at h; cases h
    | some r =>
      obtain ⟨x1, T1, H1⟩ := r
      rw [e] at h
      refine ih w0 ro lim c1 a1 μ H w T a x1 T1 H1 _ k1 hr har e fun μ1 b1 w1 hp1 ha1 => ?_
      cases x1 with
      | normal => exact ih w0 ro lim c2 a2 μ1 H1 w1 T1 b1 x T' H' Q k2 hp1.hr ha1 h fun μ' a' w' hp ha => hQ μ' a' w' (hp1.trans hp) ha
      | ret => cases h; exact hQ μ1 b1 w1 hp1 ha1
      | exit id => cases h; exact hQ μ1 b1 w1 hp1 ha1
  | @cond c1 c' t e t' e' hc k1 k2 =>
    simp only [exec] at h
    have hv := lowX_VR hc har
    split at h
    · rename_i b eb
      rw [eb] at hv
      generalize ha : a.eval c1 = u at hv
      cases hv
      refine wp_cond ha ?_
      cases b with
      | true => exact ih w0 ro lim t t' μ H w T a x T' H' Q k1 hr har h hQ
      | false => exact ih w0 ro lim e e' μ H w T a x T' H' Q k2 hr har h hQ
    · cases h
  | @block id b b' k =>
    simp only [exec, Option.map_eq_some_iff] at h
    obtain ⟨⟨x1, T1, H1⟩, h1, h2⟩ := h
    refine wp_block (ih w0 ro lim b b' μ H w T a x1 T1 H1 _ k hr har h1 fun μ1 b1 w1 hp1 ha1 => ?_)
    cases x1 with
    | normal => simp only [Prod.mk.injEq] at h2; obtain ⟨rfl, rfl, rfl⟩ := h2; exact hQ μ1 b1 w1 hp1 ha1
    | ret => simp only [Prod.mk.injEq] at h2; obtain ⟨rfl, rfl, rfl⟩ := h2; exact hQ μ1 b1 w1 hp1 ha1
    | exit j =>
      simp only [Prod.mk.injEq] at h2
      obtain ⟨h2, rfl, rfl⟩ := h2
      simp only [exitOf, Exit.inBlock]
      split at h2
      · rename_i q; subst h2; rw [if_pos q]; exact hQ μ1 b1 w1 hp1 ha1
      · rename_i q; subst h2; rw [if_neg q]; exact hQ μ1 b1 w1 hp1 ha1
  | @loop b b' k => exact wp_loop_rounds (n + 1) (loop_step ih ihl w0 ro lim b b' μ H w T a x T' H' Q k hr har h hQ)
  | @kill ts _ c' k =>
    simp only [exec] at h
    cases n with
    | zero => simp only [exec] at h; cases h
    | succ m =>
      simp only [exec] at h
      exact ih w0 ro lim c c' μ H w (killT T ts) a x T' H' Q k hr (har.kill ts) h hQ

theorem replicate_VRs (n : Nat) : VRs w0 ro μ (List.replicate n .noval) (List.replicate n Go.undef) := by
  induction n with
  | zero => exact .nil
  | succ n ih => exact .cons .noval ih

theorem call_step (hE : EnvOK P E) {n : Nat} (ih : CodeSim P E n) : CallSim P E (exec E n) := by
  intro w0 ro μ H w lim f as vs r H' hne hr hv h
  unfold callF at h
  cases e : E.fn f with
  | none => rw [e] at h; cases h
  | some fx =>
    rw [e] at h
    cases fx with
    | ext g => exact absurd e (hne g)
    | prim g => exact (hE.prim f g e).2 w0 ro μ H w lim as vs r H' hr hv h
    | code fd =>
      obtain ⟨fn, c, hh, hent, hbody, hlow, hnt, hres⟩ := hE.code f fd e
      have hL : Low P c fd.body := by rw [hlow]; exact lowC_Low c hh
      have hlen : as.length = vs.size := by rw [hv.len]; simp
      simp only at h
      cases hm : fd.mode with
      | heap =>
        rw [hm] at h
        simp only at h
        have main : ∀ x T1 H1, (x = .normal ∨ x = .ret) → exec E n fd.body lim (as ++ List.replicate (fd.ntmps - as.length) .noval) H = some (x, T1, H1) → (resAll H1 T1 fd.results).map (·, H1) = some (r, H') → Calls P f vs w (CallPost w0 ro lim μ H w r H') := by
          intro x T1 H1 hx h1 h2
          simp only [Option.map_eq_some_iff, Prod.mk.injEq] at h2
          obtain ⟨v, h3, rfl, rfl⟩ := h2
          refine calls_of_wp hent.1 hbody (ih w0 ro lim c fd.body μ H w _ _ x T1 H1 _ hL hr ⟨rfl, ?_⟩ h1 fun μ1 a1 w1 hp ha => ?_)
          · simp only [Array.toList_append, Array.toList_replicate]
            rw [hnt, hlen]
            exact hv.app (replicate_VRs _)
          · obtain ⟨v', g1, g2⟩ := res_run hp.hr ha hres h3
            rcases hx with rfl | rfl
            · exact ⟨ha.1, v', g1, v', μ1, rfl, hp, g2⟩
            · exact ⟨ha.1, v', g1, v', μ1, rfl, hp, g2⟩
        split at h
        · rename_i T1 H1 e1; exact main _ T1 H1 (.inl rfl) e1 h
        · rename_i T1 H1 e1; exact main _ T1 H1 (.inr rfl) e1 h
        · cases h
      | pure =>
        rw [hm] at h
        simp only [Option.bind_eq_some_iff] at h
        obtain ⟨ds, hds, h⟩ := h
        have htr := frzs_TR (fun v u v' => frz_TR hr deep v u v') as ds vs.toList hds hv
        have hr0 : HR w (fun c => c < w.heap.size) [] [] w := ⟨rfl, Nat.le_refl _, fun c hc => ⟨hc, rfl⟩, fun b loc e => by simp at e, fun b b' l l' _ _ e => by simp at e⟩
        have main : ∀ x T1 H1, (x = .normal ∨ x = .ret) → exec E n fd.body 0 (ds ++ List.replicate (fd.ntmps - as.length) .noval) [] = some (x, T1, H1) →
            ((resAll H1 T1 fd.results).bind fun v => (own H1 deep v).bind fun (d, used) => if noTwo used then some (thaw d H) else none) = some (r, H') → Calls P f vs w (CallPost w0 ro lim μ H w r H') := by
          intro x T1 H1 hx h1 h2
          simp only [Option.bind_eq_some_iff] at h2
          obtain ⟨v, h3, ⟨d, used⟩, h4, h5⟩ := h2
          simp only at h5
          split at h5
          · rename_i hu
            refine calls_of_wp hent.1 hbody (ih w (fun c => c < w.heap.size) 0 c fd.body [] [] w _ _ x T1 H1 _ hL hr0 ⟨rfl, ?_⟩ h1 fun μ1 a1 w1 hp ha => ?_)
            · simp only [Array.toList_append, Array.toList_replicate]
              rw [hnt, hlen]
              exact htr.toVRs.app (replicate_VRs _)
            · obtain ⟨v', g1, g2⟩ := res_run hp.hr ha hres h3
              have noO : ∀ c, ¬ Owned [] [] 0 c := fun c => noOwn (Nat.le_refl _)
              have fr : ∀ c, c < w.heap.size → w1.heap[c]? = w.heap[c]? := fun c hc => hp.frame c hc (noO c)
              have hr1 := hr.later hp.size fr
              have own1 := own_thaw (w0 := w0) (ro := ro) (N := w.heap.size) (L := H.length) hp.hr (fun b l ha' hm' => by
                  rcases Nat.lt_or_ge l.c w.heap.size with q | q
                  · exact absurd (hp.sub l.c q ⟨b, l, Nat.zero_le _, ha', hm', rfl⟩) (noO _)
                  · exact q) (fun c hc => Nat.lt_of_lt_of_le (hr.old c hc).1 hr.grow) deep v d used h4 v' g2 [] μ H hr1
                ⟨fun b l ha' hm' hN => by have := BR.lt ha' (hr.blk b l hm'); omega, fun b l hb ha' _ => by have := alive_lt ha'; omega⟩ hu (by simp)
              obtain ⟨ν, K, k1, k2, k3, k4⟩ := own1
              have e5 : (thaw d H) = (r, H') := by simpa using h5
              rw [e5] at k1 k2 k3 k4
              simp only at k1 k2 k3 k4
              have hpost : Post w0 ro lim μ H w (μ ++ ν) H' w1 := by
                refine ⟨⟨ν, rfl⟩, k2, hp.os, hp.tape, hp.output, hp.size, fun c hc _ => fr c hc, ?_, ?_, by rw [k1]; simp⟩
                · rintro c hc ⟨b, l, b1, b2, b3, b4⟩
                  rcases Nat.lt_or_ge b H.length with q | q
                  · rw [k1] at b2
                    rw [List.getElem?_append_left (by rw [hr.len]; exact q)] at b3
                    exact ⟨b, l, b1, alive_cut q b2, b3, b4⟩
                  · have := k4.2 b l q b2 b3; omega
                · intro b _ hb; rw [k1, List.getElem?_append_left hb]
              rcases hx with rfl | rfl
              · exact ⟨ha.1, v', g1, v', μ ++ ν, rfl, hpost, k3⟩
              · exact ⟨ha.1, v', g1, v', μ ++ ν, rfl, hpost, k3⟩
          · cases h5
        split at h
        · rename_i T1 H1 e1; exact main _ T1 H1 (.inl rfl) e1 h
        · rename_i T1 H1 e1; exact main _ T1 H1 (.inr rfl) e1 h
        · cases h

theorem code_sim (hE : EnvOK P E) : ∀ n, CodeSim P E n ∧ LoopSim P E n
  | 0 => ⟨fun _ _ _ _ _ _ _ _ _ _ _ _ _ _ _ _ _ h => by simp [exec] at h, fun _ _ _ _ _ _ _ _ _ _ _ _ _ _ _ _ _ h => by simp [exec] at h⟩
  | n + 1 => have ih := code_sim hE n; ⟨code_step hE (call_step hE ih.1) ih.1 ih.2, loop_step ih.1 ih.2⟩
/-- What the small machine says of a call is what the program does. -/
theorem call_sim (hE : EnvOK P E) (n : Nat) : CallSim P E (exec E n) := call_step hE (code_sim hE n).1

end
end Go.Proofs.YtdbgebbofpgjmaaGreatA

/- A call whose callee sees no memory of ours: arguments written out, results laid anew. No statement about the program is proved here. -/
import Derived.Test.YtdbgebbofpgjmaaGreatA7
namespace Go.Proofs.YtdbgebbofpgjmaaGreatA
open Go Go.RowKit
set_option linter.unusedVariables false

section
variable {w0 : World} {ro : Nat → Prop} {P : Program} {μ : Mu} {H : Heap} {w : World} {T : Tmps} {lim : Nat}

theorem HR.stays (hr : HR w0 ro μ H w) : Stays w0 ro w (fun c => c < w.heap.size) := fun c hc =>
  ⟨Nat.lt_of_lt_of_le (hr.old c hc).1 hr.grow, (hr.old c hc).2⟩

theorem TRs.get {w1 : World} {ro1 : Nat → Prop} : ∀ {vs : List AV} {vs' : List Value}, TRs w1 ro1 vs vs' → ∀ {i : Nat} {v : AV}, vs[i]? = some v → ∃ v' : Value, vs'[i]? = some v' ∧ TR w1 ro1 v v'
  | _, _, .nil, i, v, h => by simp at h
  | _, _, .cons h t, 0, v, e => by simp at e; subst e; exact ⟨_, rfl, h⟩
  | _, _, .cons h t, i + 1, v, e => by simp at e; simpa using TRs.get t e

theorem frzs_TR {f : AV → Option AV} {w1 : World} {ro1 : Nat → Prop} (IH : ∀ (v u : AV) (v' : Value), f v = some u → VR w0 ro μ v v' → TR w1 ro1 u v') : ∀ (vs us : List AV) (vs' : List Value), mapO f vs = some us → VRs w0 ro μ vs vs' → TRs w1 ro1 us vs'
  | [], us, _, h, .nil => by simp [mapO] at h; subst h; exact .nil
  | v :: vs, us, _, h, .cons k t => by
    simp only [mapO, Option.bind_eq_some_iff, Option.map_eq_some_iff] at h
    obtain ⟨u, h1, us', h2, rfl⟩ := h
    exact .cons (IH v u _ h1 k) (frzs_TR IH vs us' _ h2 t)
theorem frz_TR (hr : HR w0 ro μ H w) : ∀ (d : Nat) (v u : AV) (v' : Value), frz H d v = some u → VR w0 ro μ v v' → TR w (fun c => c < w.heap.size) u v'
  | 0, _, _, _, h, _ => by simp [frz] at h
  | d + 1, v, u, v', h, k => by
    cases k with
    | undef => simp [frz] at h
    | noval => simp [frz] at h
    | bool b => simp [frz] at h; subst h; exact .bool b
    | int q n => simp [frz] at h; subst h; exact .int q n
    | str e => simp [frz] at h; subst h; exact .str e
    | ptrn => simp [frz] at h; subst h; exact .ptrn
    | ptr e => simp [frz] at h
    | tp => simp [frz] at h
    | nilsl a => simp [frz] at h; subst h; exact .ro0 a 0 rfl
    | @sl b o n es loc cap hm hn hc =>
      simp only [frz] at h
      split at h
      · rename_i q; subst q; cases h; exact .ro0 _ _ rfl
      · simp only [Option.bind_eq_some_iff, Option.map_eq_some_iff] at h
        obtain ⟨cs, h1, c, h2, c', h3, rfl⟩ := h
        obtain ⟨vs, hv, hl⟩ := hr.lie hm h1 h2
        have ht := frzs_TR (frz_TR hr d) c c' vs h3 hv
        refine .ro ?_ hn (RD.of_get fun i v hv' => ?_)
        · have hb := hr.blk b loc hm
          unfold Heap.cells? at h1
          split at h1
          · rename_i g cs' e
            rw [e] at hb
            obtain ⟨_, arr, t, h4, _⟩ := hb
            exact (Array.getElem?_eq_some_iff.1 h4).1
          · cases h1
        · obtain ⟨x, g1, g2⟩ := ht.get hv'
          refine ⟨x, ?_, g2⟩
          have := hl i x g1
          rwa [add_at] at this
    | sl0 a => simp [frz] at h; subst h; exact .ro0 a 0 rfl
    | slc => simp [frz] at h
    | ro0 a cap e => simp [frz] at h; subst h; exact .ro0 a cap rfl
    | @ro n cs c off cap h0 hn hd =>
      simp only [frz] at h
      split at h
      · rename_i q; subst q; cases h; exact .ro0 _ _ rfl
      · cases h
        exact .ro (hr.stays _ h0).1 hn (hd.stays hr.stays h0)
    | mapn => simp [frz] at h; subst h; exact .mapn
    | map e => simp [frz] at h
    | @fn f as bs as' bs' q q' =>
      cases q with
      | nil => cases q' with
        | nil => simp [frz] at h; subst h; exact .fn f
        | cons => simp [frz] at h
      | cons => simp [frz] at h
    | nilfn => simp [frz] at h; subst h; exact .nilfn
    | iface => simp [frz] at h
    | niliface => simp [frz] at h; subst h; exact .niliface
    | @agg cs vs q =>
      simp only [frz, Option.map_eq_some_iff] at h
      obtain ⟨c', h1, rfl⟩ := h
      exact .agg (frzs_TR (frz_TR hr d) cs c' vs h1 q)
    | tup => simp [frz] at h

/-! ## What comes back -/
/-- Our memory takes in a block that nobody else has. -/
theorem HR.adopt {loc : Loc} {blk : ABlk} (h : HR w0 ro μ H w) (hb : BR w0 ro (μ ++ [some loc]) loc w (some blk)) (hn : ∀ (b : Nat) (l : Loc), alive H b → μ[b]? = some (some l) → l.c ≠ loc.c) : HR w0 ro (μ ++ [some loc]) (H ++ [blk]) w := by
  refine ⟨by simp [h.len], h.grow, h.old, fun b l hm => ?_, fun b b' l l' ha ha' hm hm' e => ?_⟩
  · rw [getElem?_snoc] at hm ⊢
    rw [← h.len]
    split at hm
    · rename_i q; rw [if_pos q]; cases hm; exact hb
    · rename_i q; rw [if_neg q]; exact (h.blk b l hm).ext (Ext.app _ _)
  · have back : ∀ b, alive (H ++ [blk]) b → b ≠ μ.length → alive H b := fun b ha q => by
      unfold alive at ha ⊢
      rw [getElem?_snoc, if_neg (by rw [← h.len]; exact q)] at ha
      exact ha
    rw [getElem?_snoc] at hm hm'
    split at hm <;> split at hm'
    · omega
    · rename_i q q'; cases hm; exact absurd e.symm (hn b' l' (back b' ha' q') hm')
    · rename_i q q'; cases hm'; exact absurd e (hn b l (back b ha q) hm)
    · rename_i q q'; exact h.inj b b' l l' (back b ha q) (back b' ha' q') hm hm' e
theorem HR.adoptNone {blk : ABlk} (h : HR w0 ro μ H w) : HR w0 ro (μ ++ [none]) (H ++ [blk]) w := by
  refine ⟨by simp [h.len], h.grow, h.old, fun b l hm => ?_, fun b b' l l' ha ha' hm hm' e => ?_⟩
  · rw [getElem?_snoc] at hm ⊢
    rw [← h.len]
    split at hm
    · cases hm
    · rename_i q; rw [if_neg q]; exact (h.blk b l hm).ext (Ext.app _ _)
  · have back : ∀ b, alive (H ++ [blk]) b → b ≠ μ.length → alive H b := fun b ha q => by
      unfold alive at ha ⊢
      rw [getElem?_snoc, if_neg (by rw [← h.len]; exact q)] at ha
      exact ha
    rw [getElem?_snoc] at hm hm'
    split at hm
    · cases hm
    · split at hm'
      · cases hm'
      · rename_i q q'; exact h.inj b b' l l' (back b ha q) (back b' ha' q') hm hm' e

/-- What of our memory came from the callee: blocks from N on. -/
def From (N L : Nat) (H1 : Heap) (μ1 : Mu) (S : List Nat) (μ : Mu) (H : Heap) : Prop :=
  (∀ (b : Nat) (l : Loc), alive H b → μ[b]? = some (some l) → N ≤ l.c → ∃ (b1 : Nat) (l1 : Loc), b1 ∈ S ∧ alive H1 b1 ∧ μ1[b1]? = some (some l1) ∧ l1.c = l.c) ∧
  ∀ (b : Nat) (l : Loc), L ≤ b → alive H b → μ[b]? = some (some l) → N ≤ l.c

theorem noTwo_app : ∀ {a b : List Nat}, noTwo (a ++ b) = true → noTwo a = true ∧ noTwo b = true ∧ ∀ x ∈ b, x ∉ a
  | [], b, h => ⟨rfl, h, by simp⟩
  | x :: a, b, h => by
    simp only [List.cons_append, noTwo, Bool.and_eq_true, Bool.not_eq_true', List.contains_eq_mem, decide_eq_false_iff_not, List.mem_append, not_or] at h
    obtain ⟨h1, h2, h3⟩ := noTwo_app h.2
    refine ⟨by simp [noTwo, h1, h.1.1], h2, fun y hy hm => ?_⟩
    rcases List.mem_cons.1 hm with q | q
    · subst q; exact h.1.2 hy
    · exact h3 y hy q

theorem own_one {H1 : Heap} {d : Nat} {v u : AV} {used : List Nat} (h : own H1 d v = some (u, used)) (k : v.one = true) (H : Heap) : (thaw u H).1.one = true := by
  cases d with
  | zero => simp [own] at h
  | succ d =>
    cases v <;> simp [AV.one] at k
    all_goals try simp only [own] at h
    case bool => cases h; rfl
    case int => cases h; rfl
    case str => cases h; rfl
    case ptr p => cases p <;> simp at h; obtain ⟨rfl, rfl⟩ := h; rfl
    case nilsl => cases h; rfl
    case slc => cases h
    case sl b o n es =>
      split at h
      · split at h
        · simp only [Option.map_eq_some_iff] at h
          obtain ⟨⟨c, us⟩, _, h2⟩ := h
          cases h2; rfl
        · cases h
      · cases h
    case ro n cs => split at h <;> cases h; rfl
    case mapv r => cases r <;> simp at h; obtain ⟨rfl, rfl⟩ := h; rfl
    case fn f a b => cases a <;> cases b <;> simp at h; obtain ⟨rfl, rfl⟩ := h; rfl
    case nilfn => cases h; rfl
    case iface => cases h
    case niliface => cases h; rfl
theorem owns_one {H1 : Heap} : ∀ {d : Nat} {vs us : List AV} {used : List Nat}, ownL (own H1 d) vs = some (us, used) → (∀ v ∈ vs, v.one = true) → ∀ (H : Heap), ∀ x ∈ (thaws us H).1, x.one = true
  | _, [], us, used, h, _, H, x, hx => by
    simp [ownL] at h
    obtain ⟨rfl, rfl⟩ := h
    simp [thaws] at hx
  | d, v :: vs, us, used, h, k, H, x, hx => by
    simp only [ownL, Option.bind_eq_some_iff, Option.map_eq_some_iff] at h
    obtain ⟨⟨u, u1⟩, h1, ⟨us', u2⟩, h2, h3⟩ := h
    cases h3
    simp only [thaws, List.mem_cons] at hx
    rcases hx with rfl | hx
    · exact own_one h1 (k v (by simp)) H
    · exact owns_one h2 (fun y hy => k y (by simp [hy])) _ x hx

theorem owns_thaw {f : AV → Option (AV × List Nat)} {w1 : World} {ro1 : Nat → Prop} {μ1 : Mu} {H1 : Heap} {N L : Nat}
    (IH : ∀ (v u : AV) (used : List Nat), f v = some (u, used) → ∀ (v' : Value), VR w1 ro1 μ1 v v' → ∀ (S : List Nat) (μ : Mu) (H : Heap), HR w0 ro μ H w → From N L H1 μ1 S μ H → noTwo used = true → (∀ b ∈ used, b ∉ S) →
      ∃ ν K, (thaw u H).2 = H ++ K ∧ HR w0 ro (μ ++ ν) (thaw u H).2 w ∧ VR w0 ro (μ ++ ν) (thaw u H).1 v' ∧ From N L H1 μ1 (S ++ used) (μ ++ ν) (thaw u H).2) :
    ∀ (vs us : List AV) (used : List Nat), ownL f vs = some (us, used) → ∀ (vs' : List Value), VRs w1 ro1 μ1 vs vs' → ∀ (S : List Nat) (μ : Mu) (H : Heap), HR w0 ro μ H w → From N L H1 μ1 S μ H → noTwo used = true → (∀ b ∈ used, b ∉ S) →
    ∃ ν K, (thaws us H).2 = H ++ K ∧ HR w0 ro (μ ++ ν) (thaws us H).2 w ∧ VRs w0 ro (μ ++ ν) (thaws us H).1 vs' ∧ From N L H1 μ1 (S ++ used) (μ ++ ν) (thaws us H).2
  | [], us, used, h, _, .nil => by
    intro S μ H hr hf hu hS
    simp [ownL] at h
    obtain ⟨rfl, rfl⟩ := h
    exact ⟨[], [], by simp [thaws], by simpa [thaws] using hr, .nil, by simpa [thaws] using hf⟩
  | v :: vs, us, used, h, _, .cons k t => by
    intro S μ H hr hf hu hS
    simp only [ownL, Option.bind_eq_some_iff, Option.map_eq_some_iff] at h
    obtain ⟨⟨u, u1⟩, h1, ⟨us', u2⟩, h2, h3⟩ := h
    cases h3
    obtain ⟨n1, n2, n3⟩ := noTwo_app hu
    obtain ⟨ν, K, e1, e2, e3, e4⟩ := IH v u u1 h1 _ k S μ H hr hf n1 (fun b hb => hS b (by simp [hb]))
    obtain ⟨ν', K', f1, f2, f3, f4⟩ := owns_thaw IH vs us' u2 h2 _ t (S ++ u1) (μ ++ ν) (thaw u H).2 e2 e4 n2 (fun b hb hm => by
      rcases List.mem_append.1 hm with q | q
      · exact hS b (by simp [hb]) q
      · exact n3 b hb q)
    simp only [thaws]
    refine ⟨ν ++ ν', K ++ K', ?_, ?_, ?_, ?_⟩
    · rw [f1, e1, List.append_assoc]
    · rw [← List.append_assoc]; exact f2
    · rw [← List.append_assoc]; exact .cons (e3.ext (Ext.app _ _)) f3
    · rw [← List.append_assoc, ← List.append_assoc]; exact f4
theorem own_thaw {w1 : World} {ro1 : Nat → Prop} {μ1 : Mu} {H1 : Heap} {N L : Nat} (hr1 : HR w1 ro1 μ1 H1 w) (hN : ∀ (b : Nat) (l : Loc), alive H1 b → μ1[b]? = some (some l) → N ≤ l.c) (hroN : ∀ c, ro c → c < N) :
    ∀ (d : Nat) (v u : AV) (used : List Nat), own H1 d v = some (u, used) → ∀ (v' : Value), VR w1 ro1 μ1 v v' → ∀ (S : List Nat) (μ : Mu) (H : Heap), HR w0 ro μ H w → From N L H1 μ1 S μ H → noTwo used = true → (∀ b ∈ used, b ∉ S) →
    ∃ ν K, (thaw u H).2 = H ++ K ∧ HR w0 ro (μ ++ ν) (thaw u H).2 w ∧ VR w0 ro (μ ++ ν) (thaw u H).1 v' ∧ From N L H1 μ1 (S ++ used) (μ ++ ν) (thaw u H).2
  | 0, _, _, _, h, _, _ => by simp [own] at h
  | d + 1, v, u, used, h, v', k => by
    intro S μ H hr hf hu hS
    have plain : ∀ x : AV, used = [] → thaw x H = (x, H) → VR w0 ro μ x v' → ∃ ν K, (thaw x H).2 = H ++ K ∧ HR w0 ro (μ ++ ν) (thaw x H).2 w ∧ VR w0 ro (μ ++ ν) (thaw x H).1 v' ∧ From N L H1 μ1 (S ++ used) (μ ++ ν) (thaw x H).2 := fun x e1 e2 e3 => by
      subst e1
      rw [e2]
      exact ⟨[], [], by simp, by simpa using hr, by simpa using e3, by simpa using hf⟩
    cases k with
    | undef => simp [own] at h
    | noval => simp [own] at h; obtain ⟨rfl, rfl⟩ := h; exact plain _ rfl rfl .noval
    | bool b => simp [own] at h; obtain ⟨rfl, rfl⟩ := h; exact plain _ rfl rfl (.bool b)
    | int q n => simp [own] at h; obtain ⟨rfl, rfl⟩ := h; exact plain _ rfl rfl (.int q n)
    | str e => simp [own] at h; obtain ⟨rfl, rfl⟩ := h; exact plain _ rfl rfl (.str e)
    | ptrn => simp [own] at h; obtain ⟨rfl, rfl⟩ := h; exact plain _ rfl rfl .ptrn
    | ptr e => simp [own] at h
    | tp => simp [own] at h
    | nilsl a => simp [own] at h; obtain ⟨rfl, rfl⟩ := h; exact plain _ rfl rfl (.nilsl a)
    | @sl b o n es loc cap hm hn hc =>
      simp only [own] at h
      split at h
      · rename_i cs hb
        split at h
        · rename_i q
          simp only [Option.map_eq_some_iff] at h
          obtain ⟨⟨c, us⟩, h1, h2⟩ := h
          cases h2
          have hbr := hr1.blk b loc hm
          rw [hb] at hbr
          obtain ⟨hnro, arr, t, h3, h4, h5, h6⟩ := hbr
          have hcut : cut cs o (n * es) = some (cs.drop o) := by
            unfold cut; rw [if_pos (by omega), List.take_of_length_le (by simp; omega)]
          have hcl : H1.cells? b = some cs := by simp [Heap.cells?, hb]
          obtain ⟨vs, hv, hl⟩ := hr1.lie hm hcl hcut
          simp only [noTwo, Bool.and_eq_true, Bool.not_eq_true', List.contains_eq_mem, decide_eq_false_iff_not] at hu
          obtain ⟨ν, K, e1, e2, e3, e4⟩ := owns_thaw (H1 := H1) (N := N) (L := L) (own_thaw hr1 hN hroN d) (cs.drop o) c us h1 vs hv S μ H hr hf hu.2 (fun x hx => hS x (by simp [hx]))
          simp only [thaw]
          generalize hth : thaws c H = th at e1 e2 e3 e4
          obtain ⟨c', H'⟩ := th
          simp only at e1 e2 e3 e4 ⊢
          have hNc : N ≤ loc.c := hN b loc (.inl ⟨true, cs, hb⟩) hm
          have hne : ∀ (b' : Nat) (l : Loc), alive H' b' → (μ ++ ν)[b']? = some (some l) → l.c ≠ loc.c := fun b' l ha hm' e => by
            obtain ⟨b1, l1, g1, g4, g2, g3⟩ := e4.1 b' l ha hm' (by omega)
            obtain rfl := hr1.inj b1 b l1 loc g4 (.inl ⟨true, cs, hb⟩) g2 hm (g3.trans e)
            rcases List.mem_append.1 g1 with q1 | q1
            · exact hS b1 (by simp) q1
            · exact hu.1 q1
          have hone := owns_one h1 (fun v hv => by
            obtain ⟨j, hj, rfl⟩ := List.mem_iff_getElem.1 (List.mem_of_mem_drop hv)
            exact (h6 j _ (List.getElem?_eq_getElem hj)).1) H
          rw [hth] at hone
          have hfit : loc.k + o + c'.length ≤ arr.size := by
            have q1 := e3.len; have q2 := hv.len
            rw [List.length_drop] at q2
            omega
          have had := e2.adopt (loc := ⟨loc.c, loc.k + o, loc.sz⟩) (blk := .cells true c') ⟨fun hro => by have := hroN _ hro; simp only at this; omega, arr, t, h3, h4, hfit, fun j x hj => by
            obtain ⟨x', g1, g2⟩ := e3.get hj
            refine ⟨hone x (List.mem_of_getElem? hj), x', ?_, g2.ext (Ext.app _ _)⟩
            have := hl j x' g1
            rw [add_at] at this
            simpa [World.cell?, h3] using this⟩ hne
          refine ⟨ν ++ [some ⟨loc.c, loc.k + o, loc.sz⟩], K ++ [.cells true c'], by rw [e1, List.append_assoc], by rw [← List.append_assoc]; exact had, ?_, ?_⟩
          · rw [← List.append_assoc]
            have := VR.sl (w0 := w0) (ro := ro) (μ := (μ ++ ν) ++ [some (⟨loc.c, loc.k + o, loc.sz⟩ : Loc)]) (b := H'.length) (o := 0) (n := n) (es := es) (cap := cap) (loc := ⟨loc.c, loc.k + o, loc.sz⟩) (by rw [← e2.len]; simp) hn (by simp only; omega)
            simpa using this
          · rw [← List.append_assoc]
            refine ⟨fun b' l ha hm' hNl => ?_, fun b' l hL ha hm' => ?_⟩
            rotate_left
            · rw [getElem?_snoc, e2.len] at hm'
              split at hm'
              · cases hm'; exact hNc
              · rename_i q1
                refine e4.2 b' l hL ?_ hm'
                unfold alive at ha ⊢
                rw [getElem?_snoc, if_neg q1] at ha
                exact ha
            rw [getElem?_snoc, e2.len] at hm'
            split at hm'
            · cases hm'
              exact ⟨b, loc, by simp, .inl ⟨true, cs, hb⟩, hm, rfl⟩
            · rename_i q1
              have ha' : alive H' b' := by
                unfold alive at ha ⊢
                rw [getElem?_snoc, if_neg q1] at ha
                exact ha
              obtain ⟨b1, l1, g1, g4, g2, g3⟩ := e4.1 b' l ha' hm' hNl
              refine ⟨b1, l1, ?_, g4, g2, g3⟩
              rcases List.mem_append.1 g1 with q2 | q2
              · simp [q2]
              · simp [q2]
        · cases h
      · cases h
    | slc => simp [own] at h
    | @sl0 b o es a =>
      simp only [own] at h
      split at h
      · rename_i cs hb
        split at h
        · rename_i q
          have hd0 : cs.drop o = [] := by rw [List.drop_eq_nil_iff]; omega
          rw [hd0] at h
          simp [ownL] at h
          obtain ⟨rfl, rfl⟩ := h
          simp only [thaw, thaws]
          refine ⟨[none], [.cells true []], rfl, hr.adoptNone, .sl0 a, ?_⟩
          have back : ∀ (b' : Nat) (l : Loc), alive (H ++ [.cells true []]) b' → (μ ++ [none])[b']? = some (some l) → alive H b' ∧ μ[b']? = some (some l) := fun b' l ha hm' => by
            rw [getElem?_snoc, hr.len] at hm'
            split at hm'
            · cases hm'
            · rename_i q1
              refine ⟨?_, hm'⟩
              unfold alive at ha ⊢
              rw [getElem?_snoc, if_neg q1] at ha
              exact ha
          refine ⟨fun b' l ha hm' hNl => ?_, fun b' l hL ha hm' => hf.2 b' l hL (back b' l ha hm').1 (back b' l ha hm').2⟩
          obtain ⟨b1, l1, g1, g2⟩ := hf.1 b' l (back b' l ha hm').1 (back b' l ha hm').2 hNl
          exact ⟨b1, l1, by simp [g1], g2⟩
        · cases h
      · cases h
    | ro0 a cap e =>
      simp only [own, if_true] at h
      cases h
      exact plain _ rfl rfl (.ro0 a cap rfl)
    | @ro n cs c off cap h0 hn hd =>
      simp only [own] at h
      split at h
      · rename_i q; subst q; cases h; exact plain _ rfl rfl (.ro0 _ _ rfl)
      · cases h
    | mapn => simp [own] at h; obtain ⟨rfl, rfl⟩ := h; exact plain _ rfl rfl .mapn
    | map e => simp [own] at h
    | @fn f as bs as' bs' q q' =>
      cases q with
      | nil => cases q' with
        | nil => simp [own] at h; obtain ⟨rfl, rfl⟩ := h; exact plain _ rfl rfl (.fn (as' := []) (bs' := []) .nil .nil)
        | cons => simp [own] at h
      | cons => simp [own] at h
    | nilfn => simp [own] at h; obtain ⟨rfl, rfl⟩ := h; exact plain _ rfl rfl .nilfn
    | iface => simp [own] at h
    | niliface => simp [own] at h; obtain ⟨rfl, rfl⟩ := h; exact plain _ rfl rfl .niliface
    | @agg cs vs q =>
      simp only [own, Option.map_eq_some_iff] at h
      obtain ⟨⟨c, us⟩, h1, h2⟩ := h
      cases h2
      obtain ⟨ν, K, e1, e2, e3, e4⟩ := owns_thaw (H1 := H1) (N := N) (L := L) (own_thaw hr1 hN hroN d) cs c us h1 vs q S μ H hr hf hu hS
      exact ⟨ν, K, e1, e2, .agg e3, e4⟩
    | @tup cs vs q =>
      simp only [own, Option.map_eq_some_iff] at h
      obtain ⟨⟨c, us⟩, h1, h2⟩ := h
      cases h2
      obtain ⟨ν, K, e1, e2, e3, e4⟩ := owns_thaw (H1 := H1) (N := N) (L := L) (own_thaw hr1 hN hroN d) cs c us h1 vs q S μ H hr hf hu hS
      exact ⟨ν, K, e1, e2, .tup e3, e4⟩

end
end Go.Proofs.YtdbgebbofpgjmaaGreatA

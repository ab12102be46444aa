/- slices.Insert: from a walk through its code to what the small machine says of it. No statement about the program is proved here. -/
import Derived.Test.YtdbgebbofpgjmaaGreatA21
namespace Go.Proofs.YtdbgebbofpgjmaaGreatA
open Go Go.RowKit
set_option linter.unusedVariables false

section
variable {w0 : World} {ro : Nat → Prop} {P : Program} {μ : Mu} {H : Heap} {w : World} {lim : Nat}

theorem call_of (E : AEnv) (hE : EnvOK P E) {f : Nat} {fd : AFun} (hfd : E.fn f = some (.code fd)) {as : List AV} {vs : Array Value} {r : AV} {H' : Heap} (hr : HR w0 ro μ H w) (hv : VRs w0 ro μ as vs.toList) (h : Cl E f as lim H r H') :
    Calls P f vs w (CallPost w0 ro lim μ H w r H') := by
  obtain ⟨n, h⟩ := h
  exact call_sim hE n w0 ro μ H w lim f as vs r H' (fun g e => by rw [hfd] at e; cases e) hr hv h

theorem set_append_left {H X : Heap} {b : Nat} {x : ABlk} (h : b < H.length) : (H ++ X).set b x = H.set b x ++ X := by
  rw [List.set_append]
  simp [h]

/-- What a walk through the code of Insert has to show. -/
structure InsertWalk (E : AEnv) (f es bytes : Nat) : Prop where
  nil : ∀ (lim : Nat) (H : Heap) (v r : AV) (H' : Heap), insertG es bytes [.nilsl, .int .i64 0, v] lim H = some (r, H') → Cl E f [.nilsl, .int .i64 0, v] lim H r H'
  last : ∀ (lim : Nat) (H : Heap) (b o n : Nat) (v r : AV) (H' : Heap), insertG es bytes [.sl b o n es, .int .i64 n, v] lim H = some (r, H') → Cl E f [.sl b o n es, .int .i64 n, v] lim H r H'
  grow : ∀ (lim : Nat) (H : Heap) (b o n c i b' o' : Nat) (cs new : List AV), H[b]? = some (.cells true cs) → elems H es (.sl b' o' 1 es) = some (1, new) → 0 < es → o + n * es = cs.length → i < n → c < n + 1 → lim ≤ H.length → b' ≠ b → (n + 1) * bytes ≤ most → n + 1 ≤ most → new.all AV.one = true → cs.all AV.one = true →
    Cl E f [.slc b o n c es, .int .i64 i, .sl b' o' 1 es] lim H (.sl H.length 0 (n + 1) es) (H ++ [.cells true ((cs.drop o).take (i * es) ++ new ++ cs.drop (o + i * es))])
  room : ∀ (lim : Nat) (H : Heap) (b o n c i b' o' : Nat) (cs new : List AV), H[b]? = some (.cells true cs) → elems H es (.sl b' o' 1 es) = some (1, new) → 0 < es → o + n * es = cs.length → i < n → n + 1 ≤ c → lim ≤ b → b' ≠ b → n + 1 ≤ most → new.all AV.one = true → cs.all AV.one = true →
    Cl E f [.slc b o n c es, .int .i64 i, .sl b' o' 1 es] lim H (.slc b o (n + 1) c es) (H.set b (.cells true (cs.take (o + i * es) ++ new ++ cs.drop (o + i * es))))

theorem insert_prim (E : AEnv) (hE : EnvOK P E) {f es bytes : Nat} {fd : AFun} (hfd : E.fn f = some (.code fd)) (W : InsertWalk E f es bytes) : PrimOK P f (insertG es bytes) := by
  intro w0 ro μ H w lim as vs r H' hr hv h
  have h0 := h
  unfold insertG at h
  split at h
  · rename_i s i v
    simp only [Option.bind_eq_some_iff] at h
    obtain ⟨⟨m, new⟩, hel, h⟩ := h
    simp only at h
    split at h
    · rename_i b' o' n' es'
      split at h
      · rename_i q
        obtain ⟨rfl, _⟩ := q
        exact call_of E hE hfd hr hv (W.nil lim H _ _ _ h0)
      · cases h
    · rename_i b' o' n' es2 b o n es'
      split at h
      · rename_i q
        obtain ⟨rfl, hpos, rfl, hlim, hb1, hb2, hnew, hbb, hi0, hin⟩ := q
        split at h
        · rename_i cs hb
          split at h
          · rename_i hlen
            cases h
            obtain ⟨i, rfl⟩ := Int.eq_ofNat_of_zero_le hi0
            have hin' : i ≤ n := by omega
            simp only [Int.toNat_natCast] at h0 ⊢
            rcases Nat.lt_or_ge i n with hlt | hge
            · -- not at the end
              have hn' : n' = 1 ∧ es2 = es' := by
                simp only [elems] at hel
                split at hel
                · rename_i e
                  simp only [Option.bind_eq_some_iff, Option.map_eq_some_iff, Prod.mk.injEq] at hel
                  obtain ⟨_, _, _, _, e1, _⟩ := hel
                  exact ⟨e1, e⟩
                · cases hel
              obtain ⟨rfl, rfl⟩ := hn'
              have hbl : b < H.length := (List.getElem?_eq_some_iff.1 hb).1
              obtain ⟨l⟩ := vs
              cases hv with
              | @cons _ _ _ vs' k t => cases k with
                | sl0 a => omega
                | @sl _ _ _ _ loc cap hmu hn hc =>
                  have hbr := hr.blk b loc hmu
                  rw [hb] at hbr
                  obtain ⟨hnro, arr, ta, h3, h4, h5, h6⟩ := hbr
                  have hone : cs.all AV.one = true := List.all_eq_true.2 fun v hv => by
                    obtain ⟨j, hj, rfl⟩ := List.mem_iff_getElem.1 hv
                    exact (h6 j _ (List.getElem?_eq_getElem hj)).1
                  have hv2 : VRs w0 ro μ [.slc b o n cap es2, .int .i64 i, .sl b' o' 1 es2] (⟨(.slice (some ⟨loc.c, loc.k + o, none⟩) n cap) :: vs'⟩ : Array Value).toList := .cons (.slc hmu hn hc) t
                  rcases Nat.lt_or_ge cap (n + 1) with hg | hg
                  · refine (call_of E hE hfd hr hv2 (W.grow lim H b o n cap i b' o' cs new hb hel hpos hlen hlt hg (Nat.le_trans hlim (Nat.le_of_lt hbl)) hbb hb1 hb2 hnew hone)).mono ?_
                    rintro e w' ⟨v', μ', rfl, hp, hv'⟩
                    have hk := Post.kill' (lim := lim) (b := b) hp.hr hlim (by simp; omega)
                    rw [set_append_left hbl] at hk
                    exact ⟨v', μ', rfl, hp.trans hk, hv'⟩
                  · refine (call_of E hE hfd hr hv2 (W.room lim H b o n cap i b' o' cs new hb hel hpos hlen hlt hg hlim hbb hb2 hnew hone)).mono ?_
                    rintro e w' ⟨v', μ', rfl, hp, hv'⟩
                    cases hv' with
                    | slc hmu2 hn2 hc2 =>
                      rename_i loc2
                      have e1 := hp.ext b loc hmu
                      rw [hmu2] at e1
                      cases e1
                      have hbr2 := hp.hr.blk b loc hmu2
                      rw [List.getElem?_set_self hbl] at hbr2
                      obtain ⟨hnro2, arr2, ta2, g3, g4, g5, g6⟩ := hbr2
                      have hdrop : (cs.take (o + i * es2) ++ new ++ cs.drop (o + i * es2)).drop o = (cs.drop o).take (i * es2) ++ new ++ cs.drop (o + i * es2) := by
                        have h7 : i * es2 ≤ n * es2 := Nat.mul_le_mul_right _ hin'
                        rw [List.append_assoc, List.drop_append_of_le_length (by simp; omega), List.drop_take, Nat.add_sub_cancel_left, ← List.append_assoc]
                      have hmv := Post.move (lim := lim) (b := b) (loc := loc) (k := loc.k + o) (w1 := w') (g := true) (cs := (cs.drop o).take (i * es2) ++ new ++ cs.drop (o + i * es2)) hp.hr hlim hmu2 (.inl ⟨true, _, List.getElem?_set_self hbl⟩) rfl (fun _ _ => rfl) rfl rfl rfl
                        ⟨hnro2, arr2, ta2, g3, g4, by
                          show loc.k + o + _ ≤ arr2.size
                          rw [← hdrop, List.length_drop]
                          have h7 : i * es2 ≤ n * es2 := Nat.mul_le_mul_right _ hin'
                          have hL : o ≤ (cs.take (o + i * es2) ++ new ++ cs.drop (o + i * es2)).length := by simp; omega
                          omega, fun j v hj => by
                          rw [← hdrop, List.getElem?_drop] at hj
                          obtain ⟨k0, v', k1, k2⟩ := g6 (o + j) v hj
                          exact ⟨k0, v', by
                            show arr2[loc.k + o + j]? = some v'
                            rw [Nat.add_assoc]; exact k1, k2.ext (Ext.app _ _)⟩⟩
                      have hset : (H.set b (.cells true (cs.take (o + i * es2) ++ new ++ cs.drop (o + i * es2)))).set b .dead = H.set b .dead := by rw [List.set_set]
                      rw [hset] at hmv
                      refine ⟨_, _, rfl, hp.trans hmv, ?_⟩
                      have hl2 : H.length = μ'.length := by rw [hp.hr.len]; simp
                      have := VR.sl (w0 := w0) (ro := ro) (μ := μ' ++ [some (⟨loc.c, loc.k + o, loc.sz⟩ : Loc)]) (b := H.length) (o := 0) (n := n + 1) (es := es2) (cap := cap) (loc := ⟨loc.c, loc.k + o, loc.sz⟩) (by rw [hl2]; simp) hg (by simpa using hc2)
                      simpa using this
            · have : i = n := by omega
              subst this
              exact call_of E hE hfd hr hv (W.last lim H b o i _ _ _ h0)
          · cases h
        · cases h
      · cases h
    · cases h
  · cases h

end
end Go.Proofs.YtdbgebbofpgjmaaGreatA

/- 'starlinglaw26.ModelLess' returns true for every two numbers: a bag that covers, with a value beside that the model was not told of, covers still; with one of the newest taken away it does not. Without further conditions. -/
import Derived.Test.YtkmikfhfjjmobaaRows
import Derived.Test.YtkmikfhfjjmobaaW4
import Derived.WalkKit
import Derived.ProofKit
import Derived.ChangeOld
namespace Go.Proofs.YtkmikfhfjjmobaaA
open Go
set_option linter.unusedSimpArgs false
set_option linter.unusedVariables false
set_option maxRecDepth 1000000
attribute [local simp] vec_zero bagV_zero

structure Ml where
  K : Nat → Int
  L : List Val
  W : List Wr
def dA (i : Nat) : Int := ((i % 8 : Nat) : Int)
def dC (i : Nat) : Int := ((1 + i / 8 : Nat) : Int)
def ml : Nat → Ml
  | 0 => ⟨zeroV, [], []⟩
  | i + 1 => ⟨putK (ml i).K (ml i).L zeroV (dA i) (dC i) [118], putR (ml i).K (ml i).L zeroV (dA i) (dC i) [118], toldL (ml i).W zeroV (dA i) (dC i) [118]⟩
theorem ml_step : ∀ i, i < 10 → putE (ml i).K (ml i).L zeroV (dA i) (dC i) [118] = 0 ∧ toldMay [107] (ml i).W zeroV (dA i) (dC i) [118] = true := by decide +kernel
theorem ml_asc : ∀ i, i ≤ 10 → Asc ((ml i).W.map Wr.v) := by
  have h : ∀ i, i < 11 → goodL ((ml i).W.map Wr.v) (fun _ => 5) = true := by decide +kernel
  exact fun i hi => (goodL_iff.1 (h i (by omega))).2
theorem ml_len : ∀ i, i < 11 → (ml i).L.length = i ∧ (ml i).W.length = i := by decide +kernel
def moreK (n : Nat) : Nat → Int := putK (ml n).K (ml n).L zeroV 3 99 [119]
def moreL (n : Nat) : List Val := putR (ml n).K (ml n).L zeroV 3 99 [119]
theorem ml_more : ∀ n, n < 11 → putE (ml n).K (ml n).L zeroV 3 99 [119] = 0 ∧ coversB (ml n).W (ml n).K (ml n).L = true ∧ coversB (ml n).W (moreK n) (moreL n) = true := by decide +kernel
def lessL (n i : Nat) : List Val := (ml n).L.take i ++ (ml n).L.drop (i + 1)
theorem ml_less : ∀ n, n < 11 → ∀ i, i < n → coversB (ml n).W (ml n).K (lessL n i) = false ∧ coversB [] (ml n).K (lessL n i) = true := by decide +kernel

theorem addTwo {H : Heap} {l : List Val} {q : AV} {i : Nat} (h : Row 0 H 3 valC l q) (hi : i < l.length) (hl : l.length ≤ 10) :
    ∃ s1 s2 r1 H1 r2 X, cutSl 3 q none (some (I i)) none = some s1 ∧ (∀ lim, lim ≤ H.length → appendAV lim H 3 32 .nilsl s1 = some (r1, H1)) ∧ Pre H H1 ∧ cutSl 3 q (some (I (i + 1 : Nat))) none none = some s2 ∧ appendAV 0 H1 3 32 r1 s2 = some (r2, H ++ X) ∧ H1.length ≤ H.length + X.length ∧ Row 0 (H ++ X) 3 valC (l.take i ++ l.drop (i + 1)) r2 ∧ ∀ k, k < H.length → Off r2 k := by
  obtain ⟨ne, b, _, rfl, hb⟩ : l ≠ [] ∧ ∃ b, 0 ≤ b ∧ q = .sl b 0 l.length 3 ∧ H[b]? = some (.cells true (l.flatMap valC)) := by
    rcases h with ⟨rfl, rfl⟩ | h
    · simp at hi
    · exact h
  have hlt := lt_of hb
  have hfl := flatMap_len valC_len l
  have c1 : cutSl 3 (.sl b 0 l.length 3) none (some (I i)) none = some (.sl b 0 i 3) := by
    simp only [cutSl, if_true, bnd_nat (Nat.le_of_lt hi), Option.bind_some]
    simp [bnd]
  have c2 : cutSl 3 (.sl b 0 l.length 3) (some (I (i + 1 : Nat))) none none = some (.sl b ((i + 1) * 3) (l.length - (i + 1)) 3) := by
    have h1 : bnd (some (I ((i + 1 : Nat) : Int))) 0 l.length = some (i + 1) := bnd_nat hi
    simp only [cutSl, if_true, show bnd none l.length l.length = some l.length from rfl, Option.bind_some, h1, Nat.zero_add]
  have el1 : elems H 3 (.sl b 0 i 3) = some (i, (l.take i).flatMap valC) := by
    simp only [elems, if_true, Heap.cells?, hb, Option.bind_some]
    rw [cut_at (by rw [hfl]; omega), List.drop_zero, flatMap_take valC_len]
    rfl
  have el2 : ∀ H2 : Heap, H2[b]? = some (.cells true (l.flatMap valC)) → elems H2 3 (.sl b ((i + 1) * 3) (l.length - (i + 1)) 3) = some (l.length - (i + 1), (l.drop (i + 1)).flatMap valC) := fun H2 hb => by
    simp only [elems, if_true, Heap.cells?, hb, Option.bind_some]
    rw [cut_at (by rw [hfl]; omega), flatMap_drop valC_len]
    have : ((l.drop (i + 1)).flatMap valC).length = (l.length - (i + 1)) * 3 := by rw [flatMap_len valC_len, List.length_drop]
    rw [List.take_of_length_le (by omega)]
    rfl
  have ht : (l.take i).length = i := by rw [List.length_take]; omega
  have hd : (l.drop (i + 1)).length = l.length - (i + 1) := List.length_drop ..
  have one : ∀ m : List Val, (m.flatMap valC).all AV.one = true := fun m => by
    rw [List.all_flatMap]
    exact List.all_eq_true.2 fun x _ => valC_one x
  by_cases h0 : i = 0
  · have a0 : ∀ lim, lim ≤ H.length → appendAV lim H 3 32 .nilsl (.sl b 0 i 3) = some (.nilsl, H) := fun lim _ => by
      simp only [appendAV, el1, Option.bind_some]
      rw [if_pos h0]
    have t0 : l.take i = [] := by rw [h0]; rfl
    by_cases h1 : l.length - (i + 1) = 0
    · refine ⟨_, _, .nilsl, H, .nilsl, [], c1, a0, ⟨[], by simp⟩, c2, ?_, by simp, ?_, fun k _ => Off.nil⟩
      · simp only [appendAV, el2 H hb, Option.bind_some, List.append_nil]
        rw [if_pos h1]
      · have : l.drop (i + 1) = [] := List.drop_of_length_le (by omega)
        rw [t0, this, List.append_nil]
        exact .nil
    · refine ⟨_, _, .nilsl, H, .sl H.length 0 (l.length - (i + 1)) 3, [.cells true ((l.drop (i + 1)).flatMap valC)], c1, a0, ⟨[], by simp⟩, c2, ?_, by simp, ?_, fun k hk => Off.sl (by omega)⟩
      · simp only [appendAV, el2 H hb, Option.bind_some, h1, if_false]
        rw [if_pos ⟨by simp only [most]; omega, by simp only [most]; omega, by omega, one _⟩]
      · rw [t0, List.nil_append]
        refine .inr ⟨fun e => h1 (by rw [← hd, e]; rfl), H.length, Nat.zero_le _, by rw [hd], by simp⟩
  · have a1 : ∀ lim, lim ≤ H.length → appendAV lim H 3 32 .nilsl (.sl b 0 i 3) = some (.sl H.length 0 i 3, H ++ [.cells true ((l.take i).flatMap valC)]) := fun lim _ => by
      simp only [appendAV, el1, Option.bind_some, h0, if_false]
      rw [if_pos ⟨by simp only [most]; omega, by simp only [most]; omega, by omega, one _⟩]
    have hb1 := get_app (X := [ABlk.cells true ((l.take i).flatMap valC)]) hb
    by_cases h1 : l.length - (i + 1) = 0
    · refine ⟨_, _, _, _, .sl H.length 0 i 3, [.cells true ((l.take i).flatMap valC)], c1, a1, ⟨_, rfl⟩, c2, ?_, by simp, ?_, fun k hk => Off.sl (by omega)⟩
      · simp only [appendAV, el2 _ hb1, Option.bind_some]
        rw [if_pos h1]
      · have : l.drop (i + 1) = [] := List.drop_of_length_le (by omega)
        rw [this, List.append_nil]
        refine .inr ⟨fun e => h0 (by rw [← ht, e]; rfl), H.length, Nat.zero_le _, by rw [ht], by simp⟩
    · refine ⟨_, _, _, _, .sl (H.length + 1) 0 (i + (l.length - (i + 1))) 3, [.dead, .cells true ((l.take i).flatMap valC ++ (l.drop (i + 1)).flatMap valC)], c1, a1, ⟨_, rfl⟩, c2, ?_, by simp, ?_, fun k hk => Off.sl (by omega)⟩
      · have g : (H ++ [ABlk.cells true ((l.take i).flatMap valC)])[H.length]? = some (.cells true ((l.take i).flatMap valC)) := by simp
        have gl : cut ((l.take i).flatMap valC) 0 (i * 3) = some ((l.take i).flatMap valC) := cut_all (by rw [flatMap_len valC_len, ht])
        simp only [appendAV, el2 _ hb1, Option.bind_some, h1, if_false, g, gl, Option.map_some]
        rw [if_pos ⟨trivial, by omega, Nat.zero_le _, by simp only [most]; omega, by simp only [most]; omega, one _⟩]
        simp
      · refine .inr ⟨fun e => ?_, H.length + 1, Nat.zero_le _, ?_, ?_⟩
        · have := congrArg List.length e
          simp only [List.length_append, ht, hd, List.length_nil] at this
          omega
        · rw [List.length_append, ht, hd]
        · rw [List.flatMap_append]
          simp

set_option maxHeartbeats 4000000 in
theorem modelLess_pu (n0 at0 : Int) : Pu envE 11 [I n0, I at0] (.bool true) := by
  refine pu_is e11 rfl ?_
  rw [fr_init (by simp [fd11])]
  obtain ⟨u, hu⟩ : ∃ u, u = IntKind.u64.wrap n0 := ⟨_, rfl⟩
  obtain ⟨N, hN⟩ : ∃ N : Nat, N = 1 + (u.tmod 10).toNat := ⟨_, rfl⟩
  have hu0 : 0 ≤ u := by rw [hu]; simp [IntKind.wrap, IntKind.signed, IntKind.bits]; omega
  have hum : u.tmod 10 = ((N - 1 : Nat) : Int) := by
    rw [Int.tmod_eq_emod_of_nonneg hu0] at hN ⊢
    omega
  have hN1 : 1 ≤ N := by omega
  have hN10 : N ≤ 10 := by
    have : u.tmod 10 < 10 := by rw [Int.tmod_eq_emod_of_nonneg hu0]; omega
    omega
  have hwa : IntKind.i64.wrap ((N - 1 : Nat) : Int) = ((N - 1 : Nat) : Int) := by rw [wrap_i64] <;> omega
  have hwb : IntKind.i64.wrap (1 + ((N - 1 : Nat) : Int)) = (N : Int) := by rw [wrap_i64] <;> omega
  simp [fd11, b11, ← hu, hum, hwa, hwb]
  refine loop_go [0, 1, 5, 6, 22, 23] rfl (fun m vs H => ∃ i q v, m + i = N ∧ Mod 0 H 1 0 [107] v (ml i).W ∧ H[2]? = some (.cells false (bagV (ml i).K q)) ∧ Row 0 H 3 valC (ml i).L q ∧ (∀ c, ¬ Off q c → Off v c) ∧ vs = [I N, I at0, .ptr (some (1, 0)), .ptr (some (2, 0)), I N, I i]) ?_ N ⟨0, .nilsl, .nilsl, rfl, ⟨rfl, rfl, .nil⟩, rfl, .nil, fun c h => Off.nil, rfl⟩
  rintro J hJ m vs H f ⟨i, q, v, hm, hM, hb, hq, hs, rfl⟩
  by_cases hi : i < N
  · have hw := wrap_succ (i := i) (by omega)
    obtain ⟨he, ht⟩ := ml_step i (by omega)
    obtain ⟨l1, l2⟩ := ml_len i (by omega)
    have w1 : (i : Int).tmod 8 = dA i := by rw [dA, Int.tmod_eq_emod_of_nonneg (by omega)]; omega
    have w2 : IntKind.i64.wrap ((i : Int) / 8) = (i : Int) / 8 := by rw [wrap_i64] <;> omega
    have w3 : IntKind.i64.wrap (1 + (i : Int) / 8) = dC i := by rw [dC, wrap_i64] <;> omega
    have w4 : IntKind.i64.wrap (dA i) = dA i := by rw [dA, wrap_i64] <;> omega
    obtain ⟨a, ha⟩ : ∃ a, a = dA i := ⟨_, rfl⟩
    obtain ⟨c, hc⟩ : ∃ c, c = dC i := ⟨_, rfl⟩
    rw [← ha] at he ht w1 w4
    rw [← hc] at he ht w3
    obtain ⟨K', hK'⟩ : ∃ K', K' = (ml (i + 1)).K := ⟨_, rfl⟩
    obtain ⟨L', hL'⟩ : ∃ L', L' = (ml (i + 1)).L := ⟨_, rfl⟩
    have k17i : ∀ H Q, wPu envE 17 (some [.agg (bagV (ml i).K (roL valC (ml i).L)), .agg (vecC zeroV), .agg [I a, I c], .str [118]]) H Q = Q (.tup [.agg (bagV K' (thaw (owL 3 valC L') H).1), I 0]) (thaw (owL 3 valC L') H).2 := fun H Q => by
      have := k17 (k := (ml i).K) (known := zeroV) (l := (ml i).L) (a := a) (c := c) (data := [118]) (H := H) (K := Q) (by omega)
      rw [he] at this
      rw [hK', hL', this, ha, hc]
      rfl
    have cb := cells_of hb
    have cbz := fun Z => cells_of (get_app (X := Z) hb)
    have fq := fun Z => (hq.app (X := Z)).frz (d := 9) valC_len val_flat
    obtain ⟨v1, X1, t1, r1⟩ := thaw_owL (H := H ++ [.cells false [I a, I c]]) (lim := (H ++ [ABlk.cells false [I a, I c]]).length) (es := 3) val_still (Nat.le_refl _) L'
    have o1 := r1.one
    have o2 := hq.one
    have hM1 := hM.app (.cells false [I a, I c] :: (X1 ++ [.cells false (bagV K' v1)]))
    have hasc := ml_asc i (by omega)
    have t1' := t1
    simp only [List.append_assoc, List.cons_append, List.nil_append] at t1'
    simp [lp11_0, hi, hw, w1, w2, w3, w4, cb, cbz, o2, fq, k17i, t1', o1]
    refine WCl.mono (c50 hM1 zeroV a c [118] hasc (by omega)) ?_
    rintro r H2 (⟨e, _⟩ | ⟨_, rfl, v', h1, h2, h3, h4⟩)
    · rw [ht] at e; cases e
    have g2 : H2[2]? = some (.cells false (bagV (ml i).K q)) := h3 2 _ (get_app hb) (off_false hM1.row (get_app hb)) (by omega)
    have g3 : Heap.cells? H2 (H.length + (1 + X1.length)) = some (bagV K' v1) := by
      refine cells_of (g := false) (h3 _ _ ?_ ?_ ?_)
      · rw [List.getElem?_append_right (by omega)]
        simp [show H.length + (1 + X1.length) - H.length = X1.length + 1 from by omega]
      · exact off_false hM1.row (cs := bagV K' v1) (by
          rw [List.getElem?_append_right (by omega)]
          simp [show H.length + (1 + X1.length) - H.length = X1.length + 1 from by omega])
      · have := lt_of hM.map; omega
    have hst := store_of (lim := 0) (n := 9) (o := 0) (v := .agg (bagV K' v1)) g2 (by omega) (by simp [AV.cells]) (by simp) (by simp [AV.cells, o1])
    simp [AV.cells] at hst
    have r2 : Row (H ++ [ABlk.cells false [I a, I c]]).length H2 3 valC L' v1 := by
      rcases r1 with r | ⟨ne, b, g1, g4, g5⟩
      · exact .inl r
      · have hbl := lt_of hM.map
        simp only [List.length_append, List.length_singleton] at g1
        have e1 : (H ++ ABlk.cells false [I a, I c] :: (X1 ++ [ABlk.cells false (bagV K' v1)]))[b]? = some (.cells true (L'.flatMap valC)) := by
          have := get_app (X := [ABlk.cells false (bagV K' v1)]) g5
          simpa using this
        exact .inr ⟨ne, b, by simpa using g1, g4, h3 b _ e1 (hM.row.off_ge (by omega)) (by omega)⟩
    rw [show H.length + (X1.length + 1) = H.length + (1 + X1.length) from by omega] at *
    simp [g3, hst, hw]
    have eW : toldL (ml i).W zeroV a c [118] = (ml (i + 1)).W := by rw [ha, hc]; rfl
    rw [eW] at h1
    refine nxt hJ (m - 1) (by omega) ⟨i + 1, v1, v', by omega, ⟨get_set h1.box (by omega), get_set h1.map (by omega), h1.row.set (off_false h1.row g2)⟩, ?_, ?_, ?_, rfl⟩
    · rw [List.getElem?_set_self (lt_of g2), hK']
    · rw [← hL']
      exact (r2.mono (Nat.zero_le _)).set (off_false r2 g2)
    · intro k hk
      refine h4 k ?_
      rcases r1 with ⟨_, rfl⟩ | ⟨ne, b, g1, rfl, g5⟩
      · exact absurd Off.nil hk
      · have : k = b := Classical.byContradiction fun e => hk (Off.sl (Ne.symm e))
        subst this
        have := lt_of g5
        simp at this ⊢
        omega
  · obtain rfl : i = N := by omega
    obtain ⟨m1, m2, m3⟩ := ml_more i (by omega)
    obtain ⟨l1, l2⟩ := ml_len i (by omega)
    obtain ⟨K, hK⟩ : ∃ K, K = (ml i).K := ⟨_, rfl⟩
    obtain ⟨L, hL⟩ : ∃ L, L = (ml i).L := ⟨_, rfl⟩
    obtain ⟨W, hW⟩ : ∃ W, W = (ml i).W := ⟨_, rfl⟩
    obtain ⟨mK, hmK⟩ : ∃ mK, mK = moreK i := ⟨_, rfl⟩
    obtain ⟨mL, hmL⟩ : ∃ mL, mL = moreL i := ⟨_, rfl⟩
    have k17m : ∀ H Q, wPu envE 17 (some [.agg (bagV K (roL valC L)), .agg (vecC zeroV), .agg [I 3, I 99], .str [119]]) H Q = Q (.tup [.agg (bagV mK (thaw (owL 3 valC mL) H).1), I 0]) (thaw (owL 3 valC mL) H).2 := fun H Q => by
      have := k17 (k := (ml i).K) (known := zeroV) (l := (ml i).L) (a := 3) (c := 99) (data := [119]) (H := H) (K := Q) (by omega)
      rw [m1] at this
      rw [hK, hL, this, hmK, hmL]
      rfl
    have mlen : mL.length < 4611686018427387904 := by
      have : mL.length ≤ 32 := by rw [hmL]; exact (by decide +kernel : ∀ n, n < 11 → (moreL n).length ≤ 32) i (by omega)
      omega
    rw [← hW, ← hK, ← hL] at m2
    rw [← hW, ← hmK, ← hmL] at m3
    rw [← hW] at hM l2
    rw [← hK] at hb
    rw [← hL] at hq l1
    have cb := cells_of hb
    have cbz := fun Z => cells_of (get_app (X := Z) hb)
    have fq := fun Z => (hq.app (X := Z)).frz (d := 9) valC_len val_flat
    have fq0 := hq.frz (d := 9) valC_len val_flat
    have o2 := hq.one
    have hi' : ¬ (i : Int) < i := by omega
    obtain ⟨v1, X1, t1, r1⟩ := thaw_owL (H := H) (lim := 0) (es := 3) val_still (by simp) mL
    have o1 := r1.one
    simp [lp11_0, cb, cbz, o2, fq, fq0, k17m, t1, o1]
    have hM1 := hM.app (X1 ++ [.cells false (bagV mK v1)])
    refine WCl.mono (c51 (k := K) (l := L) hM1.mv (by omega) (fun Z => by rw [List.append_assoc]; exact (hq.app (X := _)).frz (d := 10) valC_len val_flat) (fun Z => by rw [List.append_assoc]; exact fq _) o2 (by omega) 0 (by simp)) ?_
    rintro _ _ ⟨rfl, Y1, rfl⟩
    have g1 : ∀ Z, Heap.cells? (H ++ (X1 ++ .cells false (bagV mK v1) :: Z)) (H.length + X1.length) = some (bagV mK v1) := fun Z => by simp [Heap.cells?]
    simp [m2, g1]
    have r1a := (r1.app (X := .cells false (bagV mK v1) :: Y1))
    rw [List.append_assoc] at r1a
    refine WCl.mono (c51 (k := mK) (l := mL) (by simpa using (hM1.app Y1).mv) (by omega) (fun Z => (r1a.app (X := Z)).frz (d := 10) valC_len val_flat) (fun Z => (r1a.app (X := Z)).frz (d := 9) valC_len val_flat) o1 mlen 0 (by simp)) ?_
    rintro _ _ ⟨rfl, Y2, rfl⟩
    obtain ⟨H3, hH3⟩ : ∃ H3, H3 = H ++ (X1 ++ ABlk.cells false (bagV mK v1) :: Y1) ++ Y2 := ⟨_, rfl⟩
    have hM3 : Mod 0 H3 1 0 [107] v W := by rw [hH3]; exact (hM.app _).app _
    have hb3 : H3[2]? = some (.cells false (bagV K q)) := by rw [hH3]; exact get_app (get_app hb)
    have hq3 : Row 0 H3 3 valC L q := by rw [hH3]; exact hq.app.app
    obtain ⟨j, hj, hj1⟩ : ∃ j : Nat, j < i ∧ IntKind.i64.wrap ((IntKind.u64.wrap at0).tmod (i : Int)) = (j : Int) := by
      have h0 : 0 ≤ IntKind.u64.wrap at0 := by simp [IntKind.wrap, IntKind.signed, IntKind.bits]; omega
      refine ⟨((IntKind.u64.wrap at0) % (i : Int)).toNat, ?_, ?_⟩
      · have := Int.emod_lt_of_pos (IntKind.u64.wrap at0) (show (0 : Int) < i from by omega)
        have := Int.emod_nonneg (IntKind.u64.wrap at0) (show (i : Int) ≠ 0 from by omega)
        omega
      · have := Int.emod_lt_of_pos (IntKind.u64.wrap at0) (show (0 : Int) < i from by omega)
        have := Int.emod_nonneg (IntKind.u64.wrap at0) (show (i : Int) ≠ 0 from by omega)
        rw [Int.tmod_eq_emod_of_nonneg h0, wrap_i64] <;> omega
    have hui : IntKind.u64.wrap (i : Int) = (i : Int) := by simp [IntKind.wrap, IntKind.signed, IntKind.bits]; omega
    have hi0 : ¬ (i : Int) = 0 := by omega
    have hi00 : ¬ i = 0 := by omega
    have hjw := wrap_succ (i := j) (by omega)
    obtain ⟨H4, hH4⟩ : ∃ H4, H4 = H3 ++ [ABlk.cells false (bagV K q)] := ⟨_, rfl⟩
    have hq4 : Row 0 H4 3 valC L q := by rw [hH4]; exact hq3.app
    have c3 := cells_of hb3
    have c4 : Heap.cells? H4 2 = some (bagV K q) := by rw [hH4]; exact cells_app c3
    have hlq := hq3.len
    rw [l1] at hlq
    obtain ⟨s1, s2, r3, H5, r4, X, a1, a2, a3, a4, a5, a6, a7, a8⟩ := addTwo hq4 (i := j) (by omega) (by omega)
    have cz : ∀ Z, Heap.cells? (H4 ++ Z) H3.length = some (bagV K q) := fun Z => by rw [hH4]; simp [Heap.cells?]
    have hlen4 : H4.length = H3.length + 1 := by rw [hH4]; simp
    have a2' := a2 _ (Nat.le_refl _)
    rw [Int.natCast_add, Int.natCast_one] at a4
    have cz5 : ∃ Z, H5 = H4 ++ Z := a3
    obtain ⟨Z5, hZ5⟩ := cz5
    have c5 : Heap.cells? H5 2 = some (bagV K q) := by rw [hZ5]; exact cells_app c4
    have a6' : H5.length ≤ (H4 ++ X).length := by simpa using a6
    obtain ⟨H6, hH6⟩ : ∃ H6, H6 = H4 ++ X := ⟨_, rfl⟩
    rw [← hH6] at a5 a6' a7
    have g6 : H6[H3.length]? = some (.cells false (bagV K q)) := by rw [hH6, hH4]; exact get_app (by simp)
    have hst := store_of (lim := 0) (n := 1) (o := 8) (v := r4) g6 (by omega) (by rw [a7.cells]; rfl) (by simp) (by rw [a7.cells]; simp [a7.one])
    rw [a7.cells] at hst
    simp at hst
    have e3 : H ++ (X1 ++ ABlk.cells false (bagV mK v1) :: (Y1 ++ Y2)) = H3 := by rw [hH3]; simp
    simp [m3]
    rw [e3]
    simp [c3, o2, hlq, hui, hi0, hi00, hj1, hjw, ← hH4, c4, c5, a1, a2', a3, a4, a5, a6', hst]
    obtain ⟨H7, hH7⟩ : ∃ H7, H7 = H6.set H3.length (.cells false (bagV K r4)) := ⟨_, rfl⟩
    have b6 : ∀ k z, H3[k]? = some z → H6[k]? = some z := fun k z hz => by rw [hH6, hH4]; exact get_app (get_app hz)
    have hM7 : Mod 0 H7 1 0 [107] v W := by
      have n1 := lt_of hM3.box
      have n0 := lt_of hM3.map
      rw [hH7]
      refine ⟨get_set (b6 _ _ hM3.box) (by omega), get_set (b6 _ _ hM3.map) (by omega), ?_⟩
      have : Row 0 H6 11 wrC W v := by rw [hH6, hH4]; exact hM3.row.app.app
      exact this.set (off_false this g6)
    have hr7 : Row 0 H7 3 valC (L.take j ++ L.drop (j + 1)) r4 := by rw [hH7]; exact a7.set (off_false a7 g6)
    have g7 : Heap.cells? H7 H3.length = some (bagV K r4) := by rw [hH7]; exact cells_of (List.getElem?_set_self (lt_of g6))
    have g7z : ∀ Z, Heap.cells? (H7 ++ Z) H3.length = some (bagV K r4) := fun Z => cells_app g7
    obtain ⟨x1, x2⟩ := ml_less i (by omega) j hj
    rw [← hW, ← hK, lessL, ← hL] at x1
    rw [← hK, lessL, ← hL] at x2
    have hll : (L.take j ++ L.drop (j + 1)).length < 4611686018427387904 := by simp; omega
    have hone := a7.one
    rw [← hH7]
    simp [g7, hone]
    refine WCl.mono (c51 (k := K) (l := L.take j ++ L.drop (j + 1)) hM7.mv (by omega) (fun Z => (hr7.app (X := Z)).frz (d := 10) valC_len val_flat) (fun Z => (hr7.app (X := Z)).frz (d := 9) valC_len val_flat) hone hll 0 (Nat.zero_le _)) ?_
    rintro _ _ ⟨rfl, Y7, rfl⟩
    simp [x1, g7z, hone]
    refine WCl.mono (c51 (k := K) (l := L.take j ++ L.drop (j + 1)) ((hM7.app Y7).other (key' := [111, 116, 104, 101, 114]) (by decide)) (by simp) (fun Z => (hr7.app.app (X := Z)).frz (d := 10) valC_len val_flat) (fun Z => (hr7.app.app (X := Z)).frz (d := 9) valC_len val_flat) hone hll 0 (Nat.zero_le _)) ?_
    rintro _ _ ⟨rfl, Y8, rfl⟩
    simp [x2]
theorem modelLess_law (cs : List AV) (h : FitsArgs [(false, .int .i64), (false, .int .i64)] cs) : ∃ n H', callF envE (exec envE n) 11 cs 0 [] = some (.bool true, H') := by
  obtain ⟨a, rest, rfl, h1, t⟩ := fa_one h
  obtain ⟨c, rest, rfl, h2, t⟩ := fa_one t
  cases fa_nil t
  obtain ⟨x, e, _⟩ := fits_int h1
  obtain ⟨y, e2, _⟩ := fits_int h2
  cases e
  cases e2
  exact law_of (modelLess_pu x y) (by simp)
end Go.Proofs.YtkmikfhfjjmobaaA

namespace Go.Proofs.Ytkmikfhfjjmobaa.modelLess
open Go.ChangeShapes Go.WideShapes Go.ChangeAt Go.RowKit
set_option linter.unusedVariables false
theorem own : ownKnob Try.prog.godebug = none := by kernel_rfl
set_option maxRecDepth 1000000 in
theorem lifted (os : Os) (started : os.Started) (H : Type) (enc : TypeId × Value → H) :
    ReturnsInHanded {} Try.checked os 11 .any (Rows.modelLessSpec.pre6 enc Try.prog Try.f11 Rows.modelLessRow.domain false) (Rows.modelLessSpec.post enc Try.prog Try.f11 false true false false) :=
  YtkmikfhfjjmobaaA.law_lifted (C := Try.checked) YtkmikfhfjjmobaaA.env_good (fd := YtkmikfhfjjmobaaA.fd11) (tb := 4) rfl own started (by kernel_rfl) Try.func11
    (ChangeSpec.witness6 (enc := enc) (C := Try.checked) false ⟨#[], #[((Try.prog.info? 3).bind (·.zero)).getD .nilFunc, ((Try.prog.info? 3).bind (·.zero)).getD .nilFunc], []⟩ 8 (by kernel_rfl) (by kernel_rfl) (by kernel_rfl) (by kernel_rfl))
    (by kernel_rfl) (by decide +kernel) (by kernel_rfl) rfl (by kernel_rfl) (by kernel_rfl) (fun ds h => by
      match ds, h with
      | [d0, d1], _ => rfl) YtkmikfhfjjmobaaA.modelLess_law
theorem over : Rows.modelLessRow.holds Try.pinned (OpenSpec.ofChange Rows.modelLessSpec) :=
  OpenClaim.holds_of_wide 11 Try.f11 rfl rfl rfl rfl rfl rfl rfl ⟨rfl, rfl, rfl, rfl, rfl⟩ rfl rfl rfl rfl rfl (by kernel_rfl) Try.func11 (by kernel_rfl)
    (of_decide_eq_true (by kernel_rfl)) (by unfold Func.isWrapper; first | (rw [if_pos (by decide +kernel)]; kernel_rfl) | (rw [if_neg (by decide +kernel)]; exact ⟨rfl, rfl⟩))
    (fun os started H enc _ => lifted os started H enc)
end Go.Proofs.Ytkmikfhfjjmobaa.modelLess
namespace Go.Proofs.Ytkmikfhfjjmobaa
/-- The row, under a short name, for the claim. -/
theorem modelLess_holds : Rows.ModelLessSaid := modelLess.over
#print axioms modelLess_holds
end Go.Proofs.Ytkmikfhfjjmobaa


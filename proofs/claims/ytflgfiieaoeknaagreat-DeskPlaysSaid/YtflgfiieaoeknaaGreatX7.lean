/- What the reference's vault does: Put. No statement about the program is proved here. -/
import Derived.Test.YtflgfiieaoeknaaGreatX6
namespace Go.Proofs.YtflgfiieaoeknaaGreatA
open Go
set_option linter.unusedSimpArgs false
set_option linter.unusedVariables false
set_option maxRecDepth 1000000
attribute [local simp] deed_zero

structure PutQ where
  a : Int
  c : Int
  e : Int
  t : RSt
def putDR (t : RSt) (node : Int) (key : List UInt8) (known : Nat → Int) (data : List UInt8) : Deed := bagD (t.dots + 1) key ⟨putK (bagP t key).known (bagP t key).vals known node (t.dots + 1) data, putR (bagP t key).known (bagP t key).vals known node (t.dots + 1) data⟩
def putQ (t : RSt) (node : Int) (key : List UInt8) (known : Nat → Int) (data : List UInt8) : PutQ :=
  if node < 0 ∨ 8 ≤ node ∨ keyOk key = false then ⟨0, 0, 1, t⟩
  else if 1000000 ≤ t.dots then ⟨0, 0, 6, t⟩
  else if fullP t key = true then ⟨0, 0, 5, t⟩
  else if putE (bagP t key).known (bagP t key).vals known node (t.dots + 1) data = 0 then
    (if wrE (putDR t node key known data) t.n t.cap = 0 then ⟨node, t.dots + 1, 0, wroteR t (putDR t node key known data)⟩
    else ⟨0, 0, wrE (putDR t node key known data) t.n t.cap, t⟩)
  else ⟨0, 0, putE (bagP t key).known (bagP t key).vals known node (t.dots + 1) data, t⟩
theorem bagP_fit {t : RSt} (ok : ROk t) {key : List UInt8} : (bagP t key).vals.length * 32 ≤ reachBytes := by
  unfold bagP
  cases h : atP key t.prs with
  | none => exact Nat.zero_le _
  | some x =>
    obtain ⟨hi, _, e⟩ := atP_get h
    have := ok.bfit _ (List.getElem_mem hi)
    rw [e] at this
    exact this
theorem RStep.setF {H H4 : Heap} {b w c : Nat} {t' : RSt} {y : List AV} {z : ABlk} (h : RStep H H4 b w t') (hb : H4[c]? = some (.cells false y)) (h1 : c ≠ b) (h2 : c ≠ w) (h4 : H.length ≤ c) : RStep H (H4.set c z) b w t' := by
  obtain ⟨k, rv, q, pv, cs, ps, hv⟩ := h
  have hrows : ∀ (k : Nat) (y : List AV), H4[k]? = some (.cells true y) → (H4.set c z)[k]? = some (.cells true y) := fun k y hy => get_set hy (fun e => by subst e; rw [hb] at hy; cases hy)
  refine ⟨⟨by rw [List.length_set]; exact k.1, fun d w hc n1 n2 n3 => get_set (k.keep d w hc n1 n2 n3) (by have := lt_of hc; omega), fun d w hc n1 n2 n3 => get_set (k.keep2 d w hc n1 n2 n3) (by have := lt_of hc; omega), fun d hd ho => by obtain ⟨x, y, v, g, o⟩ := k.offs d hd ho; exact ⟨x, y, v, get_set g h1, o⟩⟩, rv, q, pv, cs, ps, ?_⟩
  exact ⟨get_set hv.led h1, hv.row.keep fun k y hy _ => hrows k y hy, hv.cn, get_set hv.box h2, hv.tgt.imp (fun g => g.keep fun k y hy _ => hrows k y hy) id, hv.prow.keep fun k y hy _ => hrows k y hy, hv.rel.keep fun k y hy _ => hrows k y hy⟩
set_option maxHeartbeats 2000000 in
theorem c60 {H : Heap} {b w : Nat} {t : RSt} {rv q pv : AV} {cs : List DCell9} {ps : List PR} (h : RV H b w t rv q pv cs ps) (ok : ROk t) (node : Int) (key : List UInt8) (known : Nat → Int) (data : List UInt8) :
    WCl envE 60 [.ptr (some (w, 0)), I node, .str key, .agg (vecC known), .str data] 0 H fun r H' => r = .tup [.agg [I (putQ t node key known data).a, I (putQ t node key known data).c], I (putQ t node key known data).e] ∧ RStep H H' b w (putQ t node key known data).t := by
  have hrb : reachBytes = 140737488351232 := rfl
  obtain ⟨R, hR⟩ : ∃ R, R = putQ t node key known data := ⟨_, rfl⟩
  rw [← hR]
  obtain ⟨H1, hH1⟩ : ∃ H1, H1 = H ++ [.cells false (vecC known), .cells false [I 0, I 0]] := ⟨_, rfl⟩
  have hv1 : RV H1 b w t rv q pv cs ps := by rw [hH1]; exact h.app
  have kp1 : KR H H1 b w := by rw [hH1]; exact .app
  have ck0 : H1[H.length]? = some (.cells false (vecC known)) := by rw [hH1]; simp
  have cr0 : H1[H.length + 1]? = some (.cells false [I 0, I 0]) := by rw [hH1]; simp
  have cp0 := hv1.cells0
  have hst0 : ∀ (H9 : Heap) (x y : Int), H9[H.length + 1]? = some (.cells false [I 0, I 0]) → storeAt 0 H9 2 (.ptr (some (H.length + 1, 0))) (.agg [I x, I y]) = some (H9.set (H.length + 1) (.cells false [I x, I y])) := fun H9 x y hc => by
    have := store_of (lim := 0) (n := 2) (o := 0) (v := .agg [I x, I y]) hc (by omega) (by simp [AV.cells]) (by simp) (by simp [AV.cells])
    simpa [AV.cells] using this
  have nb : H.length + 1 ≠ b := by have := lt_of h.led; omega
  have nw : H.length + 1 ≠ w := by have := lt_of h.box; omega
  have hn : t.prs.length ≤ 3000 := by have := ok.pn; have := ok.le; have := ok.r1; omega
  have hnode : nodeOk node = (decide (0 ≤ node) && decide (node < 8)) := rfl
  by_cases n1 : node < 0
  · have e : R = ⟨0, 0, 1, t⟩ := by rw [hR]; simp [putQ, n1]
    have n1' : ¬ 0 ≤ node := by omega
    rw [e]
    refine cl_of e60 rfl ?_
    rw [fr_init (by simp [fd60])]
    simp [fd60, b60, hnode, n1', ← hH1, hst0 _ 0 0 cr0, cells_of (List.getElem?_set_self (lt_of cr0))]
    exact ((RStep.refl hv1).after kp1).setF cr0 nb nw (by omega)
  have n1' : 0 ≤ node := by omega
  by_cases n2 : 8 ≤ node
  · have e : R = ⟨0, 0, 1, t⟩ := by rw [hR]; simp [putQ, n2]
    have n2' : ¬ node < 8 := by omega
    rw [e]
    refine cl_of e60 rfl ?_
    rw [fr_init (by simp [fd60])]
    simp [fd60, b60, hnode, n1', n2', ← hH1, hst0 _ 0 0 cr0, cells_of (List.getElem?_set_self (lt_of cr0))]
    exact ((RStep.refl hv1).after kp1).setF cr0 nb nw (by omega)
  have n2' : node < 8 := by omega
  cases hk : keyOk key
  · have e : R = ⟨0, 0, 1, t⟩ := by rw [hR]; simp [putQ, hk]
    rw [e]
    refine cl_of e60 rfl ?_
    rw [fr_init (by simp [fd60])]
    simp [fd60, b60, hnode, n1', n2', hk, ← hH1, hst0 _ 0 0 cr0, cells_of (List.getElem?_set_self (lt_of cr0))]
    exact ((RStep.refl hv1).after kp1).setF cr0 nb nw (by omega)
  by_cases hd : 1000000 ≤ t.dots
  · have e : R = ⟨0, 0, 6, t⟩ := by rw [hR]; simp [putQ, n1, n2, hk, hd]
    rw [e]
    refine cl_of e60 rfl ?_
    rw [fr_init (by simp [fd60])]
    simp [fd60, b60, hnode, n1', n2', hk, ← hH1, cp0, hd, hst0 _ 0 0 cr0, cells_of (List.getElem?_set_self (lt_of cr0))]
    exact ((RStep.refl hv1).after kp1).setF cr0 nb nw (by omega)
  have hd' : ¬ 1000000 ≤ t.dots := hd
  have k97 : ∀ K, WCl envE 97 [.ptr (some (w, 0)), .str key] 0 H1 K = K (.bool (fullP t key)) H1 := fun K => WCl_eq (c97 hv1 hn key 0 (Nat.zero_le _))
  cases hfl : fullP t key
  case true =>
    have e : R = ⟨0, 0, 5, t⟩ := by rw [hR]; simp [putQ, n1, n2, hk, hd, hfl]
    rw [hfl] at k97
    rw [e]
    refine cl_of e60 rfl ?_
    rw [fr_init (by simp [fd60])]
    simp [fd60, b60, hnode, n1', n2', hk, ← hH1, cp0, hd, k97, hst0 _ 0 0 cr0, cells_of (List.getElem?_set_self (lt_of cr0))]
    exact ((RStep.refl hv1).after kp1).setF cr0 nb nw (by omega)
  rw [hfl] at k97
  have hw : IntKind.i64.wrap (t.dots + 1) = t.dots + 1 := by have := ok.d0; have := ok.d1; rw [wrap_i64] <;> omega
  obtain ⟨m, hm⟩ : ∃ m, m = t.dots + 1 := ⟨_, rfl⟩
  rw [← hm] at hw
  obtain ⟨K', hK'⟩ : ∃ K', K' = putK (bagP t key).known (bagP t key).vals known node m data := ⟨_, rfl⟩
  obtain ⟨L', hL'⟩ : ∃ L', L' = putR (bagP t key).known (bagP t key).vals known node m data := ⟨_, rfl⟩
  obtain ⟨E1, hE1⟩ : ∃ E1, E1 = putE (bagP t key).known (bagP t key).vals known node m data := ⟨_, rfl⟩
  have hbf := bagP_fit ok (key := key)
  have k62 : ∀ H Q, wPu envE 62 (some [.agg (bagV (bagP t key).known (roL valC (bagP t key).vals)), .agg (vecC known), .agg [I node, I m], .str data]) H Q = Q (.tup [.agg (bagV K' (thaw (owL 3 valC L') H).1), I E1]) (thaw (owL 3 valC L') H).2 := fun H Q => by
    rw [hK', hL', hE1]
    exact k62g (by omega)
  obtain ⟨H2, hH2⟩ : ∃ H2, H2 = H1 ++ [ABlk.cells false [I node, I m]] := ⟨_, rfl⟩
  have kp2 : KR H H2 b w := by rw [hH2]; exact kp1.trans .app
  have hv2 : RV H2 b w t rv q pv cs ps := by rw [hH2]; exact hv1.app
  have b8 : ∀ Z, (H2 ++ Z)[H.length]? = some (.cells false (vecC known)) := fun Z => by rw [hH2]; exact get_app (get_app ck0)
  have c8 := fun Z => cells_of (b8 Z)
  have b12 : ∀ Z, (H2 ++ Z)[H1.length]? = some (.cells false [I node, I m]) := fun Z => by rw [hH2]; exact get_app get_new
  have c12 := fun Z => cells_of (b12 Z)
  have b10 : ∀ Z, (H2 ++ Z)[H.length + 1]? = some (.cells false [I 0, I 0]) := fun Z => by rw [hH2]; exact get_app (get_app cr0)
  have hbag := c56 hv2 hn key H2.length (Nat.le_refl _)
  refine cl_of e60 rfl ?_
  rw [fr_init (by simp [fd60])]
  simp [fd60, b60, hnode, n1', n2', hk, ← hH1, cp0, hd, k97, hw, ← hm, ← hH2]
  refine WCl.mono hbag ?_
  rintro _ _ ⟨X, q', rfl, rfl, hq⟩
  obtain ⟨H3, hH3⟩ : ∃ H3, H3 = H2 ++ X := ⟨_, rfl⟩
  have fq : frz H3 11 q' = some (roL valC (bagP t key).vals) := by
    rw [hH3]
    rcases hq with hq | hq
    · exact (hq.app (X := X)).frz (d := 9) valC_len val_flat
    · rw [hq]; exact frz_roL
  have oq := hq.one
  have c83 : Heap.cells? H3 H.length = some (vecC known) := by rw [hH3]; exact c8 X
  have c123 : Heap.cells? H3 H1.length = some [I node, I m] := by rw [hH3]; exact c12 X
  obtain ⟨v1, X1, t1, r1⟩ := thaw_owL (H := H3) (lim := 0) (es := 3) val_still (Nat.zero_le _) L'
  have o1 := r1.one
  obtain ⟨H4, hH4⟩ : ∃ H4, H4 = H3 ++ (X1 ++ [ABlk.cells false (bagV K' v1)]) := ⟨_, rfl⟩
  have hX4 : ∃ Z, H4 = H2 ++ Z := ⟨X ++ (X1 ++ [ABlk.cells false (bagV K' v1)]), by rw [hH4, hH3, List.append_assoc]⟩
  have kp4 : KR H H4 b w := by obtain ⟨Z, e⟩ := hX4; rw [e]; exact kp2.trans .app
  have hv4 : RV H4 b w t rv q pv cs ps := by obtain ⟨Z, e⟩ := hX4; rw [e]; exact hv2.app
  have b124 : H4[H1.length]? = some (.cells false [I node, I m]) := by obtain ⟨Z, e⟩ := hX4; rw [e]; exact b12 Z
  have b104 : H4[H.length + 1]? = some (.cells false [I 0, I 0]) := by obtain ⟨Z, e⟩ := hX4; rw [e]; exact b10 Z
  have c134 : Heap.cells? H4 (H3.length + X1.length) = some (bagV K' v1) := by rw [hH4]; simp
  have l1 : H.length + 1 < H1.length := by rw [hH1]; simp
  have nb2 : H1.length ≠ b := by have := lt_of h.led; omega
  have nw2 : H1.length ≠ w := by have := lt_of h.box; omega
  have rd4 : Rd H4 3 valC L' v1 := .inl (by
    have := r1.app (X := [ABlk.cells false (bagV K' v1)])
    rw [List.append_assoc] at this
    rw [hH4]
    exact this)
  have hfitD : deedFits (bagD m key ⟨K', L'⟩) := ⟨by rw [hL']; exact putR_fit, Nat.zero_le _⟩
  have hkl : (bagD m key ⟨K', L'⟩).key.length < 4611686018427387904 := by
    simp [keyOk] at hk
    simp only [bagD]
    omega
  have hwr := c59 hv4 ok (bagD m key ⟨K', L'⟩) v1 .nilsl (.inr rfl) rd4 zr_nil hfitD hkl
  have hdm : deedV 3 m key K' v1 zeroV 0 0 .nilsl zeroV zeroV 0 = deedM (bagD m key ⟨K', L'⟩) v1 .nilsl := rfl
  rw [← hdm] at hwr
  have hR2 : R = if E1 = 0 then (if wrE (bagD m key ⟨K', L'⟩) t.n t.cap = 0 then ⟨node, m, 0, wroteR t (bagD m key ⟨K', L'⟩)⟩ else ⟨0, 0, wrE (bagD m key ⟨K', L'⟩) t.n t.cap, t⟩) else ⟨0, 0, E1, t⟩ := by
    rw [hR, hE1, hK', hL', hm]
    simp [putQ, putDR, n1, n2, hk, hd, hfl]
    rfl
  have hlen4 : H3.length + (X1.length + 1) ≤ H4.length := by rw [hH4]; simp
  have done4 : RStep H H4 b w t := ⟨kp4, _, _, _, _, _, hv4⟩
  have s0 := hst0 H4 0 0 b104
  have cset0 := cells_of (List.getElem?_set_self (lt_of b104) (a := ABlk.cells false [I 0, I 0]))
  by_cases hE0 : E1 = 0
  · rw [if_pos hE0] at hR2
    simp [← hH3, bagV_zero, fq, oq, c83, c123, k62, t1, o1, ← hH4, c134, hlen4, hE0, cells_of b124]
    refine ⟨⟨X, hH3⟩, ?_⟩
    refine WCl.mono hwr ?_
    rintro _ H5 ⟨rfl, hs5⟩
    have b105 := hs5.1.keep _ _ b104 nb nw (by intro y e; cases e)
    have b125 := hs5.1.keep _ _ b124 nb2 nw2 (by intro y e; cases e)
    by_cases hE2 : wrE (bagD m key ⟨K', L'⟩) t.n t.cap = 0
    · rw [if_pos hE2] at hR2
      rw [hR2]
      simp [hE2, cells_of b125, hst0 H5 node m b105, cells_of (List.getElem?_set_self (lt_of b105))]
      exact (hs5.after kp4).setF b105 nb nw (by omega)
    · rw [if_neg hE2] at hR2
      rw [hR2]
      simp [hE2, hst0 H5 0 0 b105, cells_of (List.getElem?_set_self (lt_of b105))]
      have hs6 := hs5.after kp4
      rw [wroteR, if_neg hE2] at hs6
      exact hs6.setF b105 nb nw (by omega)
  · rw [if_neg hE0] at hR2
    rw [hR2]
    simp [← hH3, bagV_zero, fq, oq, c83, c123, k62, t1, o1, ← hH4, c134, hlen4, hE0, s0, cset0]
    exact ⟨⟨X, hH3⟩, done4.setF b104 nb nw (by omega)⟩
end Go.Proofs.YtflgfiieaoeknaaGreatA

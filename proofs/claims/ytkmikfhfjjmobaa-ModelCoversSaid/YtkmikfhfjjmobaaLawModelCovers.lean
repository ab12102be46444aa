/- 'starlinglaw26.ModelCovers' returns true for every row of steps: a bag in which all were put, each with what it knew, covers them; with one write left out it does not. Without further conditions. -/
import Derived.Test.YtkmikfhfjjmobaaRows
import Derived.Test.YtkmikfhfjjmobaaM2
import Derived.WalkKit
import Derived.ProofKit
import Derived.ChangeOld
namespace Go.Proofs.YtkmikfhfjjmobaaA
open Go
set_option linter.unusedSimpArgs false
set_option linter.unusedVariables false
set_option maxRecDepth 1000000
attribute [local simp] vec_zero

theorem arr_zero' : [I 0, I 0, I 0, I 0, I 0, I 0, I 0, I 0, .nilsl, I 0, I 0, I 0, I 0, I 0, I 0, I 0, I 0, .nilsl, I 0, I 0, I 0, I 0, I 0, I 0, I 0, I 0, .nilsl] = arrV (fun _ => zeroV) (fun _ => .nilsl) := hard rfl
/-- How it lies in memory. -/
structure Mem (H : Heap) (W : List Wr) (n : Nat → Nat) (K : Nat → Nat → Int) (L : Nat → List Val) (R : Nat → AV) (v : AV) : Prop where
  mod : Mod 0 H 1 0 [107] v W
  arr : H[2]? = some (.cells false (arrV K R))
  nums : H[3]? = some (.cells false (nV n))
  rows : ∀ w, w < 3 → Row 0 H 3 valC (L w) (R w)
  off : ∀ w, w < 3 → ∀ c, ¬ Off (R w) c → Off v c
structure Know (W : List Wr) (n : Nat → Nat) (K : Nat → Nat → Int) (L : Nat → List Val) : Prop where
  tw : G.Tw W n
  kn : ∀ w, w < 3 → G.Kn W n (K w) (L w)
  own : ∀ w, w < 3 → K w w = n w
theorem Mem.app {H X : Heap} {W : List Wr} {n : Nat → Nat} {K : Nat → Nat → Int} {L : Nat → List Val} {R : Nat → AV} {v : AV} (h : Mem H W n K L R v) : Mem (H ++ X) W n K L R v :=
  ⟨h.mod.app X, get_app h.arr, get_app h.nums, fun w hw => (h.rows w hw).app, h.off⟩
section
variable {H : Heap} {W : List Wr} {n : Nat → Nat} {K : Nat → Nat → Int} {L : Nat → List Val} {R : Nat → AV} {v r : AV} {w : Nat} {k : Nat → Int} {l : List Val}
theorem Mem.setA (h : Mem H W n K L R v) (hr : Row 0 H 3 valC l r) (ho : ∀ c, ¬ Off r c → Off v c) : Mem (H.set 2 (.cells false (arrV (updF K w k) (updF R w r)))) W n (updF K w k) (updF L w l) (updF R w r) v := by
  refine ⟨⟨get_set h.mod.box (by omega), get_set h.mod.map (by omega), h.mod.row.set (off_false h.mod.row h.arr)⟩, List.getElem?_set_self (lt_of h.arr), get_set h.nums (by omega), fun j hj => ?_, fun j hj c hc => ?_⟩
  · unfold updF
    by_cases e : j = w
    · simp only [e, if_true]; exact hr.set (off_false hr h.arr)
    · simp only [e, if_false]; exact (h.rows j hj).set (off_false (h.rows j hj) h.arr)
  · unfold updF at hc
    by_cases e : j = w
    · simp only [e, if_true] at hc; exact ho c hc
    · simp only [e, if_false] at hc; exact h.off j hj c hc
theorem Mem.setN (h : Mem H W n K L R v) {n' : Nat → Nat} : Mem (H.set 3 (.cells false (nV n'))) W n' K L R v := by
  refine ⟨⟨get_set h.mod.box (by omega), get_set h.mod.map (by omega), h.mod.row.set (off_false h.mod.row h.nums)⟩, get_set h.arr (by omega), List.getElem?_set_self (lt_of h.nums), fun j hj => (h.rows j hj).set (off_false (h.rows j hj) h.nums), h.off⟩
theorem Mem.told (h : Mem H W n K L R v) {H' : Heap} {W' : List Wr} {v' : AV} (h1 : Mod 0 H' 1 0 [107] v' W') (h2 : H.length ≤ H'.length) (h3 : ∀ b z, H[b]? = some z → Off v b → b ≠ 0 → H'[b]? = some z) (h4 : ∀ b, b < H.length → Off v' b) : Mem H' W' n K L R v' := by
  refine ⟨h1, h3 _ _ h.arr (off_false h.mod.row h.arr) (by omega), h3 _ _ h.nums (off_false h.mod.row h.nums) (by omega), fun j hj => ?_, fun j hj c hc => ?_⟩
  · refine (h.rows j hj).keep fun b y hb hno => h3 b _ hb (h.off j hj b hno) fun e => ?_
    subst e
    rw [h.mod.map] at hb
    cases hb
  · refine h4 c ?_
    rcases Nat.lt_or_ge c H.length with q | q
    · exact q
    · exact absurd ((h.rows j hj).off_ge q) hc
theorem Know.tjoin (h : Know W n K L) (hW : W.length ≤ 32) (hw : w < 3) {o : Nat} (ho : o < 3) : joinE (K w) (L w) (K o) (L o) = 0 ∧ Know W n (updF K w (joinK (K w) (L w) (K o) (L o))) (updF L w (joinR (K w) (L w) (K o) (L o))) := by
  obtain ⟨e1, e2, e3, e4⟩ := G.join_kn h.tw hW (h.kn w hw) (h.kn o ho)
  refine ⟨e1, h.tw, fun j hj => ?_, fun j hj => ?_⟩
  · unfold updF
    by_cases e : j = w
    · simp only [e, if_true, e2, e3]; exact e4
    · simp only [e, if_false]; exact h.kn j hj
  · unfold updF
    by_cases e : j = w
    · subst e
      simp only [if_true, e2, joinV]
      have h1 := h.own j hj
      have h2 := (h.kn o ho).le j (by omega)
      rw [G.cnt_lt hj] at h2
      omega
    · simp only [e, if_false]; exact h.own j hj
theorem Know.tput (h : Know W n K L) (hW : W.length < 32) (hw : w < 3) (hn : n w < 1000000) (hk : k = zeroV ∨ k = K w) :
    putE (K w) (L w) k w ((n w + 1 : Nat) : Int) [118] = 0 ∧ toldMay [107] W k w ((n w + 1 : Nat) : Int) [118] = true ∧ toldMay [107] (toldL W k w ((n w + 1 : Nat) : Int) [118]) k w ((n w + 1 : Nat) : Int) [118] = false ∧
      Know (toldL W k w ((n w + 1 : Nat) : Int) [118]) (updF n w (n w + 1)) (updF K w (putK (K w) (L w) k w ((n w + 1 : Nat) : Int) [118])) (updF L w (putR (K w) (L w) k w ((n w + 1 : Nat) : Int) [118])) := by
  have hb := (bagMay_iff.1 (h.kn w hw).ok.may).1
  have h0 := vecMay_iff.1 hb
  have hkm : vecMay k = true := by
    rcases hk with rfl | rfl
    · decide
    · exact hb
  have hle : ∀ i, i < 8 → k i ≤ K w i := fun i hi => by
    rcases hk with rfl | rfl
    · exact (h0 i hi).1
    · exact Int.le_refl _
  obtain ⟨p1, p2, p3⟩ := G.put_kn h.tw hw (h.kn w hw) (h.own w hw) hn hW hkm hle
  obtain ⟨q1, q2⟩ := G.told_may h.tw hw hn hkm
  refine ⟨p1, q1, q2, G.told_tw h.tw hw fun i hi => Int.le_trans (hle i hi) ((h.kn w hw).le i hi), fun j hj => ?_, fun j hj => ?_⟩
  · by_cases e : j = w
    · subst e
      simp only [updF, if_true]
      exact p2
    · simp only [updF, e, if_false]
      exact G.other_kn h.tw hw (h.kn j hj)
  · by_cases e : j = w
    · subst e
      simp only [updF, if_true]
      exact p3
    · simp only [updF, e, if_false]
      exact h.own j hj
end
set_option maxHeartbeats 4000000 in
theorem modelCovers_pu (l : List PStep) (hl : l.length < 4611686018427387904) : Pu envE 12 [roL stepC l] (.bool true) := by
  refine pu_is e12 rfl ?_
  by_cases h25 : (25 : Int) < l.length
  · rw [fr_init (by simp [fd12])]
    simp [fd12, b12, h25]
  have hl25 : l.length ≤ 25 := by omega
  obtain ⟨H0, hH0⟩ : ∃ H0, H0 = [ABlk.map [] 0, ABlk.cells false [.mapv (some 0)], .cells false (arrV (fun _ => zeroV) (fun _ => .nilsl)), .cells false (nV (fun _ => 0))] := ⟨_, rfl⟩
  have mem0 : Mem H0 [] (fun _ => 0) (fun _ => zeroV) (fun _ => []) (fun _ => .nilsl) .nilsl := by
    have := new_mod 0 [] [107]
    simp only [List.nil_append, List.length_nil, Nat.zero_add] at this
    rw [hH0]
    exact ⟨this.app [_, _], rfl, rfl, fun _ _ => .nil, fun _ _ _ h => absurd Off.nil h⟩
  have tw0 : G.Tw [] (fun _ => 0) := ⟨.nil, fun x hx => by simp at hx, fun x hx => by simp at hx, fun w _ j h1 h2 => by omega, fun x hx => by simp at hx⟩
  have know0 : Know [] (fun _ => 0) (fun _ => zeroV) (fun _ => []) := ⟨tw0, fun _ _ => G.zero_kn tw0, fun _ _ => rfl⟩
  have z49 : ∀ K lim, WCl envE 49 [] lim [] K = K (.ptr (some (1, 0))) [.map [] 0, .cells false [.mapv (some 0)]] := fun K lim => WCl_eq (c49 lim [])
  have nz : ∀ x y z : AV, [I 0, I 0, I 0] = nV (fun _ => 0) := fun _ _ _ => rfl
  rw [fr_init (by simp [fd12])]
  simp [fd12, b12, h25, z49, arr_zero', n_zero, ← hH0]
  refine loop_go [3, 4, 5, 27, 28, 29] rfl (fun m vs H => ∃ i W n K L R v, m + i = l.length ∧ Mem H W n K L R v ∧ Know W n K L ∧ W.length ≤ i ∧ (∀ w, n w ≤ i) ∧ vs = [.ptr (some (1, 0)), .ptr (some (2, 0)), .ptr (some (3, 0)), roL stepC l, I l.length, I i]) ?_ l.length ⟨0, [], _, _, _, _, _, rfl, mem0, know0, Nat.le_refl _, fun _ => Nat.le_refl _, rfl⟩
  rintro J hJ m vs H f ⟨i, W, n, K, L, R, v, hm, mem, know, hWi, hni, rfl⟩
  by_cases hi : i < l.length
  case neg =>
    have hW32 : W.length ≤ 32 := by omega
    obtain ⟨a1, a2, a3, knA⟩ := G.join_kn know.tw hW32 (know.kn 0 (by omega)) (know.kn 1 (by omega))
    obtain ⟨kA, hkA⟩ : ∃ k, k = joinV (K 0) (K 1) := ⟨_, rfl⟩
    obtain ⟨lA, hlA⟩ : ∃ k, k = joinL (K 0) (L 0) (K 1) (L 1) := ⟨_, rfl⟩
    rw [← hkA] at a2 knA
    rw [← hlA] at a3 knA
    obtain ⟨b1, b2, b3, knY⟩ := G.join_kn know.tw hW32 knA (know.kn 2 (by omega))
    obtain ⟨kY, hkY⟩ : ∃ k, k = joinV kA (K 2) := ⟨_, rfl⟩
    obtain ⟨lY, hlY⟩ : ∃ k, k = joinL kA lA (K 2) (L 2) := ⟨_, rfl⟩
    rw [← hkY] at b2 knY
    rw [← hlY] at b3 knY
    have hY : ∀ w, w < 3 → kY w = n w := fun w hw => by
      rw [hkY, hkA]
      unfold joinV
      have q0 := (know.kn 0 (by omega)).le w (by omega)
      have q1 := (know.kn 1 (by omega)).le w (by omega)
      have q2 := (know.kn 2 (by omega)).le w (by omega)
      rw [G.cnt_lt hw] at q0 q1 q2
      have q3 := know.own w hw
      obtain rfl | rfl | rfl := lt3 hw <;> omega
    have hall : ∀ x ∈ W, has kY x.v.node x.v.n = true := (G.all_iff know.tw).2 fun w hw _ => by rw [hY w hw]; exact Int.le_refl _
    have hcov : coversB W kY lY = true := by rw [G.covers_eq know.tw knY]; exact decide_eq_true hall
    have hnew : newestL W = lY := G.newest_eq know.tw knY hall
    have len : ∀ w, w < 3 → (L w).length < 4611686018427387904 := fun w hw => by have := (know.kn w hw).ok.len; omega
    have lenA : lA.length < 4611686018427387904 := by have := knA.ok.len; omega
    have lenY : lY.length < 4611686018427387904 := by have := knY.ok.len; omega
    have c0 : cut (arrV K R) 0 9 = some (bagV (K 0) (R 0)) := arr_cut (w := 0) (by omega)
    have c9 : cut (arrV K R) 9 9 = some (bagV (K 1) (R 1)) := arr_cut (w := 1) (by omega)
    have c18 : cut (arrV K R) 18 9 = some (bagV (K 2) (R 2)) := arr_cut (w := 2) (by omega)
    have u0 : (arrV K R).take 9 = bagV (K 0) (R 0) := rfl
    have u9 : ((arrV K R).drop 9).take 9 = bagV (K 1) (R 1) := rfl
    have u18 : ((arrV K R).drop 18).take 9 = bagV (K 2) (R 2) := rfl
    have o := fun w hw => (mem.rows w hw).one
    have o0 := o 0 (by omega)
    have o1 := o 1 (by omega)
    have o2 := o 2 (by omega)
    have fz := fun w hw => (mem.rows w hw).frz (d := 9) valC_len val_flat
    have k46a := fun Q => k46 (ka := K 0) (kb := K 1) (la := L 0) (lb := L 1) (len 0 (by omega)) (len 1 (by omega)) (H := H) (K := Q)
    rw [a1, a2, a3] at k46a
    obtain ⟨vA, XA, tA, rA⟩ := thaw_owL (H := H) (lim := H.length) (es := 3) val_still (Nat.le_refl _) lA
    have oA := rA.one
    obtain ⟨HA, hHA⟩ : ∃ HA, HA = H ++ (XA ++ [ABlk.cells false (bagV kA vA)]) := ⟨_, rfl⟩
    have memA : Mem HA W n K L R v := by rw [hHA]; exact mem.app
    have cA : HA[H.length + XA.length]? = some (.cells false (bagV kA vA)) := by rw [hHA]; simp
    have rA2 : Row 0 HA 3 valC lA vA := by
      have := (rA.mono (Nat.zero_le _)).app (X := [ABlk.cells false (bagV kA vA)])
      rw [List.append_assoc] at this
      rw [hHA]; exact this
    have fzA := rA2.frz (d := 9) valC_len val_flat
    have fzA2 := (memA.rows 2 (by omega)).frz (d := 9) valC_len val_flat
    have k46b := fun Q => k46 (ka := kA) (kb := K 2) (la := lA) (lb := L 2) lenA (len 2 (by omega)) (H := HA) (K := Q)
    rw [b1, b2, b3] at k46b
    obtain ⟨vB, XB, tB, rB⟩ := thaw_owL (H := HA) (lim := HA.length) (es := 3) val_still (Nat.le_refl _) lY
    have oB := rB.one
    obtain ⟨HB, hHB⟩ : ∃ HB, HB = HA ++ (XB ++ [ABlk.cells false (bagV kY vB)]) := ⟨_, rfl⟩
    have memB : Mem HB W n K L R v := by rw [hHB]; exact memA.app
    have cB : HB[HA.length + XB.length]? = some (.cells false (bagV kY vB)) := by rw [hHB]; simp
    have rB2 : Row 0 HB 3 valC lY vB := by
      have := (rB.mono (Nat.zero_le _)).app (X := [ABlk.cells false (bagV kY vB)])
      rw [List.append_assoc] at this
      rw [hHB]; exact this
    have lAB : HA.length + (XB.length + 1) ≤ HB.length := by rw [hHB]; simp
    simp [lp12_0, hi, cells_of mem.arr, c0, c9, c18, u0, u9, u18, o0, o1, o2, fz, k46a, tA, oA, ← hHA, cells_of cA, cells_of memA.arr, fzA, fzA2, k46b, tB, oB, ← hHB, cells_of cB, lAB]
    refine WCl.mono (c51 (k := kY) (l := lY) memB.mod.mv (by omega) (fun Z => (rB2.app (X := Z)).frz (d := 10) valC_len val_flat) (fun Z => (rB2.app (X := Z)).frz (d := 9) valC_len val_flat) oB lenY 0 (Nat.zero_le _)) ?_
    rintro _ HC ⟨rfl, Y1, hHC⟩
    have memC : Mem HC W n K L R v := by rw [hHC]; exact memB.app
    have cC : HC[HA.length + XB.length]? = some (.cells false (bagV kY vB)) := by rw [hHC]; exact get_app cB
    have rC : Row 0 HC 3 valC lY vB := by rw [hHC]; exact rB2.app
    have lBC : HB.length ≤ HC.length := by rw [hHC]; simp
    simp [hcov, lBC]
    refine WCl.mono (c54 memC.mod.mv (by omega) HC.length (Nat.le_refl _)) ?_
    rintro r _ ⟨Y2, rfl, hr⟩
    rw [hnew] at hr
    obtain ⟨HD, hHD⟩ : ∃ HD, HD = HC ++ Y2 := ⟨_, rfl⟩
    rw [← hHD] at hr
    have memD : Mem HD W n K L R v := by rw [hHD]; exact memC.app
    have cD : HD[HA.length + XB.length]? = some (.cells false (bagV kY vB)) := by rw [hHD]; exact get_app cC
    have rD : Row 0 HD 3 valC lY vB := by rw [hHD]; exact rC.app
    have pD : Pre HC HD := ⟨_, hHD⟩
    have frD := hr.frz (d := 10) valC_len val_flat
    have fD := rD.frz (d := 10) valC_len val_flat
    have k53i := fun Q => k53s lenY (H := HD) (K := Q)
    simp [← hHD, pD, cells_of cD, oB, frD, fD, k53i]
    refine ⟨⟨_, hHD⟩, ?_⟩
    refine loop_go [3, 4, 18, 142] rfl (fun m vs H' => ∃ j Z, m + j = 3 ∧ H' = HD ++ Z ∧ vs = [.ptr (some (1, 0)), .ptr (some (2, 0)), .ptr (some (HA.length + XB.length, 0)), I j]) ?_ 3 ⟨0, [], rfl, (List.append_nil HD).symm, rfl⟩
    rintro J2 hJ2 m2 vs H2 f2 ⟨j, Z, hm2, rfl, rfl⟩
    have cE := get_app (X := Z) cD
    have memE : Mem (HD ++ Z) W n K L R v := memD.app
    by_cases hj : j < 3
    · have hw2 := wrap_succ (i := j) (by omega)
      have hj2 : j ≤ 2 := by omega
      have hj27 : j * 9 + 9 ≤ 27 := by omega
      have hj8 : j * 9 + 8 ≤ 27 := by omega
      have hjI : (j : Int) < 3 := by omega
      have hb := G.below_eq (ky := kY) know.tw (know.kn j hj) knY.le hY
      have oj := (mem.rows j hj).one
      simp [lp12_1, hj, hjI, hj2, hj27, hj8, cells_of cE, cells_of memE.arr]
      refine WCl.mono (c51 (k := K j) (l := L j) memE.mod.mv (by omega) (fun Z => ((memE.rows j hj).app (X := Z)).frz (d := 10) valC_len val_flat) (fun Z => ((memE.rows j hj).app (X := Z)).frz (d := 9) valC_len val_flat) oj (len j hj) 0 (Nat.zero_le _)) ?_
      rintro _ _ ⟨rfl, Y3, rfl⟩
      simp [hb, hw2]
      exact nxt hJ2 (m2 - 1) (by omega) ⟨j + 1, Z ++ Y3, by omega, by simp, rfl⟩
    · have hjI : ¬ (j : Int) < 3 := by omega
      have fE := (rD.app (X := Z)).frz (d := 9) valC_len val_flat
      have k44i := fun Q => k44 (k := kY) (l := lY) lenY (H := HD ++ Z) (K := Q)
      rw [knY.ok.may] at k44i
      simp [lp12_1, hj, hjI, cells_of cE, oB, fE, k44i]
  obtain ⟨s, hs⟩ : ∃ s, s = l[i] := ⟨_, rfl⟩
  have hld := fun H => step_load hi (H := H)
  rw [← hs] at hld
  have hw := wrap_succ (i := i) (by omega)
  obtain ⟨hw3, hwm⟩ := who_lt s.who
  obtain ⟨ho3, hom⟩ := who_lt s.off
  obtain ⟨w, hww⟩ : ∃ w, w = whoN s.who := ⟨_, rfl⟩
  obtain ⟨o, hoo⟩ : ∃ o, o = whoN s.off := ⟨_, rfl⟩
  rw [← hww] at hw3 hwm
  rw [← hoo] at ho3 hom
  have hw2 : w ≤ 2 := by omega
  have ho2 : o ≤ 2 := by omega
  have hw27 : w * 9 + 9 ≤ 27 := by omega
  have ho27 : o * 9 + 9 ≤ 27 := by omega
  have l1 := (know.kn w hw3).ok.len
  have l2 := (know.kn o ho3).ok.len
  have l1' : (L w).length < 4611686018427387904 := by omega
  have l2' : (L o).length < 4611686018427387904 := by omega
  obtain ⟨H1, hH1⟩ : ∃ H1, H1 = H ++ [ABlk.cells false (stepC s)] := ⟨_, rfl⟩
  have mem1 : Mem H1 W n K L R v := by rw [hH1]; exact mem.app
  have s1 : H1[H.length]? = some (.cells false [I s.what, I s.who, I s.off]) := by rw [hH1]; exact get_new
  simp only [stepC] at hH1
  have l3 : 3 < H.length := lt_of mem.nums
  have onew := (mem.rows w hw3).one
  have fz := fun j hj => (mem1.rows j hj).frz (d := 9) valC_len val_flat
  by_cases h0 : s.what = 0
  · obtain ⟨hE, know'⟩ := know.tjoin (by omega) hw3 ho3
    obtain ⟨kJ, hkJ⟩ : ∃ kJ, kJ = joinK (K w) (L w) (K o) (L o) := ⟨_, rfl⟩
    obtain ⟨lJ, hlJ⟩ : ∃ lJ, lJ = joinR (K w) (L w) (K o) (L o) := ⟨_, rfl⟩
    have k46i := fun Q => k46 (ka := K w) (kb := K o) (la := L w) (lb := L o) l1' l2' (H := H1) (K := Q)
    rw [← hkJ, ← hlJ] at k46i know'
    obtain ⟨v', X, e0, r0⟩ := thaw_owL (H := H1) (lim := H1.length) (es := 3) val_still (Nat.le_refl _) lJ
    have o0 := r0.one
    obtain ⟨H2, hH2⟩ : ∃ H2, H2 = H1 ++ (X ++ [ABlk.cells false (bagV kJ v')]) := ⟨_, rfl⟩
    have mem2 : Mem H2 W n K L R v := by rw [hH2]; exact mem1.app
    have b2 : H2[H1.length + X.length]? = some (.cells false (bagV kJ v')) := by rw [hH2]; simp
    have r2 : Row 0 H2 3 valC lJ v' := by
      have := (r0.mono (Nat.zero_le _)).app (X := [ABlk.cells false (bagV kJ v')])
      rw [List.append_assoc] at this
      rw [hH2]; exact this
    have off2 : ∀ c, ¬ Off v' c → Off v c := fun c hc => mem1.mod.row.off_ge (Nat.le_of_not_lt fun q => hc (r0.off q))
    have hst := store_of (lim := 0) (n := 9) (o := w * 9) (v := .agg (bagV kJ v')) mem2.arr (by omega) (by simp [AV.cells]) (by simp; omega) (by simp [AV.cells, o0])
    simp only [AV.cells, arr_set hw3] at hst
    have len1 : H.length < H1.length := lt_of s1
    have hl2 : H1.length + (X.length + 1) ≤ H2.length := by rw [hH2]; simp
    have e0b : (s.what == 0) = true := beq_iff_eq.2 h0
    simp [lp12_0, hi, idxSl_roL hi, hld, -load_tp, stepC, ← hH1, cells_of s1, hwm, hom, e0b, hw3, ho3, hw27, ho27, cells_of mem1.arr, fz w hw3, fz o ho3, k46i, hE, e0, o0, ← hH2, cells_of b2, hst, hw, hl2]
    exact nxt hJ (m - 1) (by omega) ⟨i + 1, W, n, _, _, _, v, by omega, mem2.setA r2 off2, know', by omega, fun j => Nat.le_succ_of_le (hni j), rfl⟩
  have e0b : (s.what == 0) = false := by simpa using h0
  obtain ⟨kn, hkn, hcase⟩ : ∃ kn, (kn = zeroV ∨ kn = K w) ∧ ((s.what == 1) = true ∧ kn = K w ∨ (s.what == 1) = false ∧ kn = zeroV) := by
    by_cases h1 : s.what = 1
    · exact ⟨K w, .inr rfl, .inl ⟨beq_iff_eq.2 h1, rfl⟩⟩
    · exact ⟨zeroV, .inl rfl, .inr ⟨by simpa using h1, rfl⟩⟩
  have hnw := hni w
  obtain ⟨hE, ht1, ht2, know'⟩ := know.tput (k := kn) (by omega) hw3 (by omega) hkn
  obtain ⟨c, hc⟩ : ∃ c, c = n w + 1 := ⟨_, rfl⟩
  rw [← hc] at hE ht1 ht2 know'
  have hwn : IntKind.i64.wrap ((n w : Int) + 1) = (c : Int) := by rw [wrap_i64] <;> omega
  have hupd : updF n w c w = c := by simp [updF]
  obtain ⟨kP, hkP⟩ : ∃ kP, kP = putK (K w) (L w) kn w c [118] := ⟨_, rfl⟩
  obtain ⟨lP, hlP⟩ : ∃ lP, lP = putR (K w) (L w) kn w c [118] := ⟨_, rfl⟩
  rw [← hkP, ← hlP] at know'
  obtain ⟨Hz, hHz⟩ : ∃ Hz, Hz = H1 ++ [ABlk.cells false (vecC zeroV)] := ⟨_, rfl⟩
  obtain ⟨H2, hH2⟩ : ∃ H2, H2 = H1 ++ [ABlk.cells false (vecC kn)] := ⟨_, rfl⟩
  have memz : Mem Hz W n K L R v := by rw [hHz]; exact mem1.app
  have mem2 : Mem H2 W n K L R v := by rw [hH2]; exact mem1.app
  have cz : Hz[H1.length]? = some (.cells false (vecC zeroV)) := by rw [hHz]; exact get_new
  have c2 : H2[H1.length]? = some (.cells false (vecC kn)) := by rw [hH2]; exact get_new
  have len1 : H.length < H1.length := lt_of s1
  have sz : Hz[H.length]? = some (.cells false [I s.what, I s.who, I s.off]) := by rw [hHz]; exact get_app s1
  have hstz : storeAt 0 Hz 8 (.ptr (some (H1.length, 0))) (.agg (vecC zeroV)) = some Hz := by
    have := store_of (lim := 0) (n := 8) (o := 0) (v := .agg (vecC zeroV)) cz (by omega) rfl (by simp) (by simp [AV.cells])
    rw [this]
    simp only [AV.cells, vec_over]
    congr 1
    apply List.ext_getElem?
    intro j
    rw [List.getElem?_set]
    split
    · rename_i e
      subst e
      rw [if_pos (lt_of cz), cz]
    · rfl
  have hst1 : storeAt 0 Hz 8 (.ptr (some (H1.length, 0))) (.agg (vecC kn)) = some H2 := by
    have := store_of (lim := 0) (n := 8) (o := 0) (v := .agg (vecC kn)) cz (by omega) rfl (by simp) (by simp [AV.cells])
    rw [this, hHz, hH2]
    simp [AV.cells]
  have hstN := store_of (lim := 0) (n := 1) (o := w) (v := I (c : Int)) mem2.nums (by omega) rfl (by simp; omega) rfl
  simp only [AV.cells, setFrom, n_set hw3] at hstN
  obtain ⟨H3, hH3⟩ : ∃ H3, H3 = H2.set 3 (.cells false (nV (updF n w c))) := ⟨_, rfl⟩
  rw [← hH3] at hstN
  have mem3 : Mem H3 W (updF n w c) K L R v := by rw [hH3]; exact mem2.setN
  have c3 : H3[H1.length]? = some (.cells false (vecC kn)) := by rw [hH3]; exact get_set c2 (by omega)
  obtain ⟨H4, hH4⟩ : ∃ H4, H4 = H3 ++ [ABlk.cells false [I (w : Int), I (c : Int)]] := ⟨_, rfl⟩
  have mem4 : Mem H4 W (updF n w c) K L R v := by rw [hH4]; exact mem3.app
  have c4 : H4[H1.length]? = some (.cells false (vecC kn)) := by rw [hH4]; exact get_app c3
  have d4 : H4[H3.length]? = some (.cells false [I (w : Int), I (c : Int)]) := by rw [hH4]; exact get_new
  have fz4 := (mem4.rows w hw3).frz (d := 9) valC_len val_flat
  have k17i := fun Q => k17 (k := K w) (known := kn) (l := L w) (a := (w : Int)) (c := (c : Int)) (data := [118]) l1' (H := H4) (K := Q)
  rw [← hkP, ← hlP, hE] at k17i
  obtain ⟨v', X, t0, r0⟩ := thaw_owL (H := H4) (lim := H4.length) (es := 3) val_still (Nat.le_refl _) lP
  have o0 := r0.one
  obtain ⟨H5, hH5⟩ : ∃ H5, H5 = H4 ++ (X ++ [ABlk.cells false (bagV kP v')]) := ⟨_, rfl⟩
  have hl5 : H4.length + (X.length + 1) ≤ H5.length := by rw [hH5]; simp
  have mem5 : Mem H5 W (updF n w c) K L R v := by rw [hH5]; exact mem4.app
  have c5 : H5[H1.length]? = some (.cells false (vecC kn)) := by rw [hH5]; exact get_app c4
  have d5 : H5[H3.length]? = some (.cells false [I (w : Int), I (c : Int)]) := by rw [hH5]; exact get_app d4
  have b5 : H5[H4.length + X.length]? = some (.cells false (bagV kP v')) := by rw [hH5]; simp
  have r5 : Row 0 H5 3 valC lP v' := by
    have := (r0.mono (Nat.zero_le _)).app (X := [ABlk.cells false (bagV kP v')])
    rw [List.append_assoc] at this
    rw [hH5]; exact this
  have off5 : ∀ c, ¬ Off v' c → Off v c := fun c hc => mem4.mod.row.off_ge (Nat.le_of_not_lt fun q => hc (r0.off q))
  have told := c50 mem5.mod kn w c [118] know.tw.asc (by omega)
  rcases hcase with ⟨e1, hk1⟩ | ⟨e1, hk1⟩
  · rw [hk1] at hst1
    simp [lp12_0, hi, idxSl_roL hi, hld, -load_tp, stepC, ← hH1, cells_of s1, hwm, hom, e0b, e1, hw3, ho3, hw2, hw27, ho27, ← hHz, hstz, cells_of sz, cells_of memz.arr, hst1]
    simp [cells_of mem2.nums, n_cut hw3, hwn, hstN, cells_of mem3.nums, hupd, hw3, hw2, hw27, ← hH4, cells_of mem4.arr, cells_of c4, cells_of d4, fz4, onew, k17i, t0, o0, ← hH5, hl5, cells_of c5, cells_of d5]
    refine WCl.mono told ?_
    rintro _ H6 (⟨q, _⟩ | ⟨_, rfl, v2, g1, g2, g3, g4⟩)
    · rw [ht1] at q; cases q
    have mem6 := mem5.told g1 g2 g3 g4
    have c6 := g3 _ _ c5 (off_false mem5.mod.row c5) (by omega)
    have l4 : H1.length < H3.length := lt_of c3
    have d6 := g3 _ _ d5 (off_false mem5.mod.row d5) (by omega)
    have b6 := g3 _ _ b5 (off_false mem5.mod.row b5) (by have := lt_of d4; omega)
    have r6 : Row 0 H6 3 valC lP v' := r5.keep fun b y hb hno => g3 b _ hb (off5 b hno) fun e => by
      subst e
      rw [mem5.mod.map] at hb
      cases hb
    have off6 : ∀ c, ¬ Off v' c → Off v2 c := fun c hc => g4 c (by
      rcases Nat.lt_or_ge c H5.length with q | q
      · exact q
      · exact absurd (r5.off_ge q) hc)
    simp [cells_of c6, cells_of d6]
    refine WCl.mono (c50 mem6.mod kn w c [118] know'.tw.asc (by rw [G.told_len]; omega)) ?_
    rintro _ H7 (⟨_, rfl, Y, hH7⟩ | ⟨q, _⟩)
    case inr => rw [ht2] at q; cases q
    have mem7 : Mem H7 (toldL W kn w c [118]) (updF n w c) K L R v2 := by rw [hH7]; exact mem6.app
    have b7 : H7[H4.length + X.length]? = some (.cells false (bagV kP v')) := by rw [hH7]; exact get_app b6
    have r7 : Row 0 H7 3 valC lP v' := by rw [hH7]; exact r6.app
    have hst := store_of (lim := 0) (n := 9) (o := w * 9) (v := .agg (bagV kP v')) mem7.arr (by omega) (by simp [AV.cells]) (by simp; omega) (by simp [AV.cells, o0])
    simp only [AV.cells, arr_set hw3] at hst
    simp [cells_of b7, hst, hw, hw3, hw27, hw2]
    exact nxt hJ (m - 1) (by omega) ⟨i + 1, _, _, _, _, _, v2, by omega, mem7.setA r7 off6, know', by rw [G.told_len]; omega, fun j => by
      have := hni j
      unfold updF
      split <;> omega, rfl⟩
  · have hz2 : Hz = H2 := by rw [hHz, hH2, hk1]
    simp [lp12_0, hi, idxSl_roL hi, hld, -load_tp, stepC, ← hH1, cells_of s1, hwm, hom, e0b, e1, hw3, ho3, hw2, hw27, ho27, ← hHz, hstz, cells_of sz, cells_of memz.arr]
    rw [hz2]
    simp [cells_of mem2.nums, n_cut hw3, hwn, hstN, cells_of mem3.nums, hupd, hw3, hw2, hw27, ← hH4, cells_of mem4.arr, cells_of c4, cells_of d4, fz4, onew, k17i, t0, o0, ← hH5, hl5, cells_of c5, cells_of d5]
    refine WCl.mono told ?_
    rintro _ H6 (⟨q, _⟩ | ⟨_, rfl, v2, g1, g2, g3, g4⟩)
    · rw [ht1] at q; cases q
    have mem6 := mem5.told g1 g2 g3 g4
    have c6 := g3 _ _ c5 (off_false mem5.mod.row c5) (by omega)
    have l4 : H1.length < H3.length := lt_of c3
    have d6 := g3 _ _ d5 (off_false mem5.mod.row d5) (by omega)
    have b6 := g3 _ _ b5 (off_false mem5.mod.row b5) (by have := lt_of d4; omega)
    have r6 : Row 0 H6 3 valC lP v' := r5.keep fun b y hb hno => g3 b _ hb (off5 b hno) fun e => by
      subst e
      rw [mem5.mod.map] at hb
      cases hb
    have off6 : ∀ c, ¬ Off v' c → Off v2 c := fun c hc => g4 c (by
      rcases Nat.lt_or_ge c H5.length with q | q
      · exact q
      · exact absurd (r5.off_ge q) hc)
    simp [cells_of c6, cells_of d6]
    refine WCl.mono (c50 mem6.mod kn w c [118] know'.tw.asc (by rw [G.told_len]; omega)) ?_
    rintro _ H7 (⟨_, rfl, Y, hH7⟩ | ⟨q, _⟩)
    case inr => rw [ht2] at q; cases q
    have mem7 : Mem H7 (toldL W kn w c [118]) (updF n w c) K L R v2 := by rw [hH7]; exact mem6.app
    have b7 : H7[H4.length + X.length]? = some (.cells false (bagV kP v')) := by rw [hH7]; exact get_app b6
    have r7 : Row 0 H7 3 valC lP v' := by rw [hH7]; exact r6.app
    have hst := store_of (lim := 0) (n := 9) (o := w * 9) (v := .agg (bagV kP v')) mem7.arr (by omega) (by simp [AV.cells]) (by simp; omega) (by simp [AV.cells, o0])
    simp only [AV.cells, arr_set hw3] at hst
    simp [cells_of b7, hst, hw, hw3, hw27, hw2]
    exact nxt hJ (m - 1) (by omega) ⟨i + 1, _, _, _, _, _, v2, by omega, mem7.setA r7 off6, know', by rw [G.told_len]; omega, fun j => by
      have := hni j
      unfold updF
      split <;> omega, rfl⟩
theorem of_step {xs : List AV} (h : Fits (.cat [iS, iS, iS]) xs) : ∃ s, xs = stepC s := by
  obtain ⟨a, r1, rfl, h1⟩ := of_cat_int h
  obtain ⟨b, r2, rfl, h2⟩ := of_cat_int h1
  obtain ⟨c, r3, rfl, h3⟩ := of_cat_int h2
  have := fits_nil h3; subst this
  exact ⟨⟨a, b, c⟩, rfl⟩
theorem modelCovers_law (cs : List AV) (h : FitsArgs [(false, .sl 3 24 (.cat [iS, iS, iS]))] cs) : ∃ n H', callF envE (exec envE n) 12 cs 0 [] = some (.bool true, H') := by
  obtain ⟨a, rest, rfl, h1, t⟩ := fa_one h
  cases fa_nil t
  obtain ⟨l, e2, _, hl⟩ := fits_sl (f := stepC) (fun r hr => of_step hr) h1
  cases e2
  have hrb : reachBytes = 140737488351232 := rfl
  exact law_of (modelCovers_pu l (by omega)) (by simp)
end Go.Proofs.YtkmikfhfjjmobaaA

namespace Go.Proofs.Ytkmikfhfjjmobaa.modelCovers
open Go.ChangeShapes Go.WideShapes Go.ChangeAt Go.RowKit
set_option linter.unusedVariables false
theorem own : ownKnob Try.prog.godebug = none := by kernel_rfl
set_option maxRecDepth 1000000 in
theorem lifted (os : Os) (started : os.Started) (H : Type) (enc : TypeId × Value → H) :
    ReturnsInHanded {} Try.checked os 12 .any (Rows.modelCoversSpec.pre6 enc Try.prog Try.f12 Rows.modelCoversRow.domain false) (Rows.modelCoversSpec.post enc Try.prog Try.f12 false true false false) :=
  YtkmikfhfjjmobaaA.law_lifted (C := Try.checked) YtkmikfhfjjmobaaA.env_good (fd := YtkmikfhfjjmobaaA.fd12) (tb := 4) rfl own started (by kernel_rfl) Try.func12
    (ChangeSpec.witness6 (enc := enc) (C := Try.checked) false ⟨#[], #[((Try.prog.info? 89).bind (·.zero)).getD .nilFunc], []⟩ 8 (by kernel_rfl) (by kernel_rfl) (by kernel_rfl) (by kernel_rfl))
    (by kernel_rfl) (by decide +kernel) (by kernel_rfl) rfl (by kernel_rfl) (by kernel_rfl) (fun ds h => by
      match ds, h with
      | [d0], _ => rfl) YtkmikfhfjjmobaaA.modelCovers_law
theorem over : Rows.modelCoversRow.holds Try.pinned (OpenSpec.ofChange Rows.modelCoversSpec) :=
  OpenClaim.holds_of_wide 12 Try.f12 rfl rfl rfl rfl rfl rfl rfl ⟨rfl, rfl, rfl, rfl, rfl⟩ rfl rfl rfl rfl rfl (by kernel_rfl) Try.func12 (by kernel_rfl)
    (of_decide_eq_true (by kernel_rfl)) (by unfold Func.isWrapper; first | (rw [if_pos (by decide +kernel)]; kernel_rfl) | (rw [if_neg (by decide +kernel)]; exact ⟨rfl, rfl⟩))
    (fun os started H enc _ => lifted os started H enc)
end Go.Proofs.Ytkmikfhfjjmobaa.modelCovers
namespace Go.Proofs.Ytkmikfhfjjmobaa
/-- The row, under a short name, for the claim. -/
theorem modelCovers_holds : Rows.ModelCoversSaid := modelCovers.over
#print axioms modelCovers_holds
end Go.Proofs.Ytkmikfhfjjmobaa


/- What play answers. No statement about the program is proved here. -/
import Derived.Test.YtkmikfhfjjmobaaQ0
namespace Go.Proofs.YtkmikfhfjjmobaaA
open Go
set_option linter.unusedSimpArgs false
set_option linter.unusedVariables false
set_option maxRecDepth 1000000
attribute [local simp] vec_zero

theorem upd_row {lim : Nat} {H' : Heap} {L : Nat → List Val} {R : Nat → AV} {w : Nat} {l : List Val} {v : AV} (h : ∀ w, w < 3 → Row lim H' 3 valC (L w) (R w)) (hv : Row lim H' 3 valC l v) : ∀ j, j < 3 → Row lim H' 3 valC (updF L w l j) (updF R w v j) := fun j hj => by
  unfold updF
  by_cases e : j = w
  · simp only [e, if_true]; exact hv
  · simp only [e, if_false]; exact h j hj
/-- What play may answer. -/
def PlayRes (l : List PStep) (d : AV) : Prop := ∃ K L ok, d = .tup [.agg (arrV K (fun w => owL 3 valC (L w))), .bool ok] ∧ (ok = true → ∃ n, runF st0 (l.take 40) = some ⟨K, L, n⟩)
theorem elems_sl {H : Heap} {es b o n : Nat} : elems H es (.sl b o n es) = (H.cells? b).bind fun cs => (cut cs o (n * es)).map fun c => (n, c) := by simp [elems]
theorem off_new {H : Heap} {lim es : Nat} {α : Type} {f : α → List AV} {l : List α} {v : AV} (h : Row lim H es f l v) {k : Nat} (hk : ¬ Off v k) : k < H.length := by
  rcases Nat.lt_or_ge k H.length with q | q
  · exact q
  · exact absurd (h.off_ge q) hk
set_option maxHeartbeats 16000000 in
theorem c45 (l : List PStep) (hl : l.length < 4611686018427387904) : ∃ K L ok, Pu envE 45 [roL stepC l] (.tup [.agg (arrV K (fun w => owL 3 valC (L w))), .bool ok]) ∧ (ok = true → ∃ n, runF st0 (l.take 40) = some ⟨K, L, n⟩) := by
  suffices h : ∃ d, Pu envE 45 [roL stepC l] d ∧ PlayRes l d by
    obtain ⟨d, h1, K, L, ok, rfl, h2⟩ := h
    exact ⟨K, L, ok, h1, h2⟩
  refine pu_ex e45 rfl ?_
  rw [fr_init (by simp [fd45])]
  simp [fd45, b45]
  refine loop_go [2, 4, 5, 12, 13, 14] rfl (fun m vs H => ∃ i K L n R X, m + i = l.length ∧ i ≤ 40 ∧ runF st0 (l.take i) = some ⟨K, L, n⟩ ∧ (∀ w, n w ≤ i) ∧ H = .cells false (arrV (fun _ => zeroV) (fun _ => .nilsl)) :: .cells false (arrV K R) :: .cells false (nV n) :: X ∧ (∀ w, w < 3 → Row 3 H 3 valC (L w) (R w)) ∧ Sep R ∧
    vs = [.ptr (some (0, 0)), .ptr (some (1, 0)), .ptr (some (2, 0)), roL stepC l, I l.length, I i]) ?_ l.length ⟨0, fun _ => zeroV, fun _ => [], fun _ => 0, fun _ => .nilsl, [], rfl, by omega, rfl, by simp, rfl, fun w _ => .nil, fun _ _ _ _ _ _ _ => Off.nil, rfl⟩
  rintro J hJ m vs H f ⟨i, K, L, n, R, X, hm, hi40, hrun, hn, rfl, hR, hS, rfl⟩
  have hone : (arrV K R).all AV.one = true := arr_one fun w hw => (hR w hw).one
  have hone3 : (∀ x : AV, x ∈ arrV K R → x.one = true) = True := eq_true (List.all_eq_true.1 hone)
  have hover : ∀ q : List AV, q.length = 27 → setFrom q 0 (arrV K R) = arrV K R := fun q hq => setFrom_all _ _ (by rw [hq, arr_len])
  have hbad : ∀ Y : List ABlk, ∃ u, ownL (own (.cells false (arrV K R) :: .cells false (arrV K R) :: Y) 10) (arrV K R) = some (arrV K (fun w => owL 3 valC (L w)), u) ∧ noTwo u = true → True := fun _ => ⟨[], fun _ => trivial⟩
  by_cases hi : i < l.length
  case neg =>
    have e : l.take i = l.take 40 := by rw [List.take_of_length_le (by omega), List.take_of_length_le (by omega)]
    rw [e] at hrun
    obtain ⟨u, hu, hnt⟩ := arr_fin (d := 8) (fun w hw => (hR w hw).set (b := 0) (z := .cells false (arrV K R)) ((hR w hw).off (by omega))) hS (K := K)
    simp at hu
    simp [lp45_0, hi, hone, hone3, hover, hu, hnt]
    exact ⟨K, L, true, rfl, fun _ => ⟨n, hrun⟩⟩
  obtain ⟨s, hs⟩ : ∃ s, s = l[i] := ⟨_, rfl⟩
  have hld := fun H => step_load hi (H := H)
  rw [← hs] at hld
  by_cases h40 : (40 : Int) ≤ i
  case pos =>
    have e : i = 40 := by omega
    rw [e] at hrun
    obtain ⟨u, hu, hnt⟩ := arr_fin (d := 8) (fun w hw => ((hR w hw).app (X := [.cells false (stepC s)])).set (b := 0) (z := .cells false (arrV K R)) ((hR w hw).off (by omega))) hS (K := K)
    simp [stepC] at hu
    simp [lp45_0, hi, idxSl_roL hi, hld, h40, stepC, hone, hone3, hover, hu, hnt, -load_tp]
    exact ⟨K, L, true, rfl, fun _ => ⟨n, hrun⟩⟩
  have hw := wrap_succ (i := i) (by omega)
  obtain ⟨hw3, hwm⟩ := who_lt s.who
  obtain ⟨ho3, hom⟩ := who_lt s.off
  have hrs := runF_succ hi hrun
  rw [← hs] at hrs
  obtain ⟨hok, _⟩ := runF_ok st0_ok hrun
  have hstep : playF1 ⟨K, L, n⟩ s = if s.what = 0 then (if joinE (K (whoN s.who)) (L (whoN s.who)) (K (whoN s.off)) (L (whoN s.off)) = 0 then some ⟨updF K (whoN s.who) (joinK (K (whoN s.who)) (L (whoN s.who)) (K (whoN s.off)) (L (whoN s.off))), updF L (whoN s.who) (joinR (K (whoN s.who)) (L (whoN s.who)) (K (whoN s.off)) (L (whoN s.off))), n⟩ else none) else if s.what = 1 then writeF ⟨K, L, n⟩ (whoN s.who) (K (whoN s.who)) else writeF ⟨K, L, n⟩ (whoN s.who) zeroV := rfl
  obtain ⟨w, hww⟩ : ∃ w, w = whoN s.who := ⟨_, rfl⟩
  obtain ⟨o, hoo⟩ : ∃ o, o = whoN s.off := ⟨_, rfl⟩
  rw [← hww] at hw3 hwm hstep
  rw [← hoo] at ho3 hom hstep
  have hw2 : w ≤ 2 := by omega
  have ho2 : o ≤ 2 := by omega
  have hw27 : w * 9 + 9 ≤ 27 := by omega
  have ho27 : o * 9 + 9 ≤ 27 := by omega
  have hb1 := hok.ok w hw3
  have hb2 := hok.ok o ho3
  simp only at hb1 hb2
  have l1 := hb1.len
  have l2 := hb2.len
  have l1' : (L w).length < 4611686018427387904 := by omega
  have l2' : (L o).length < 4611686018427387904 := by omega
  have onew := (hR w hw3).one
  obtain ⟨c, hc⟩ : ∃ c, c = n w + 1 := ⟨_, rfl⟩
  have hnw := hn w
  have hwn : IntKind.i64.wrap ((n w : Int) + 1) = (c : Int) := by rw [wrap_i64] <;> omega
  have hupd : updF n w c w = c := by simp [updF]
  have hwa : IntKind.i64.wrap (97 + (w : Int)) = 97 + (w : Int) := by rw [wrap_i64] <;> omega
  have hwb : IntKind.i64.wrap (48 + (c : Int).tmod 10) = 48 + (c : Int).tmod 10 := by
    have h1 : (c : Int).tmod 10 = (c : Int) % 10 := Int.tmod_eq_emod_of_nonneg (by omega)
    rw [wrap_i64] <;> omega
  have hcn : ∀ j, updF n w c j ≤ i + 1 := fun j => by
    have := hn j
    unfold updF
    split <;> omega
  have hcn0 : ∀ j, n j ≤ i + 1 := fun j => Nat.le_succ_of_le (hn j)
  by_cases h0 : s.what = 0
  · obtain ⟨v', Y, e0, r0⟩ := thaw_owL (H := .cells false (arrV (fun _ => zeroV) (fun _ => .nilsl)) :: .cells false (arrV K R) :: .cells false (nV n) :: (X ++ [.cells false (stepC s), .cells false (bagV (K w) (R w))])) (lim := X.length + 5) (es := 3) val_still (by simp) (joinR (K w) (L w) (K o) (L o))
    have fz : ∀ j, j < 3 → ∀ (N : List AV) Y, frz (.cells false (arrV (fun _ => zeroV) (fun _ => .nilsl)) :: .cells false (arrV K R) :: .cells false N :: (X ++ Y)) 11 (R j) = some (roL valC (L j)) := fun j hj N Y => (((hR j hj).set (b := 2) (z := .cells false N) ((hR j hj).off (by omega))).app (X := Y)).frz (d := 9) valC_len val_flat
    have hdat : [UInt8.ofNat (IntKind.u8.wrap (97 + (w : Int))).toNat, UInt8.ofNat (IntKind.u8.wrap (48 + (c : Int).tmod 10)).toNat] = dataV w c := rfl
    simp [stepC, h0] at e0
    have hset := arr_set (K := K) (R := R) (k := joinK (K w) (L w) (K o) (L o)) (r := v') hw3
    have hsetl : ∀ Q : Heap, ∀ j, j < 3 → Row 3 (.cells false (arrV K R) :: .cells false (arrV K R) :: .cells false (nV n) :: (X ++ Q)) 3 valC (L j) (R j) := fun Q j hj => ((((hR j hj).set (b := 0) (z := .cells false (arrV K R)) ((hR j hj).off (by omega))).set (b := 2) (z := .cells false (nV n)) ((hR j hj).off (by omega))).app (X := Q))
    by_cases hE5 : joinE (K w) (L w) (K o) (L o) = 5
    · obtain ⟨u, hu, hnt⟩ := arr_fin (d := 8) (hsetl (.cells false (stepC s) :: .cells false (bagV (joinK (K w) (L w) (K o) (L o)) v') :: (Y))) hS (K := K)
      simp [stepC, h0] at hu
      simp [lp45_0, hi, idxSl_roL hi, hld, h40, stepC, hwm, hom, hw3, ho3, h0, onew, fz w hw3, fz o ho3, k46 l1' l2', e0, r0.cells, r0.one, hwn, hupd, hwa, hwb, elems_sl, hdat, hw, hw2, ho2, hw27, ho27, hE5, hone, hone3, hover, hu, hnt, -load_tp]
      exact ⟨K, L, false, rfl, fun q => by cases q⟩
    by_cases hE0 : joinE (K w) (L w) (K o) (L o) = 0
    · simp [lp45_0, hi, idxSl_roL hi, hld, h40, stepC, hwm, hom, hw3, ho3, h0, onew, fz w hw3, fz o ho3, k46 l1' l2', e0, r0.cells, r0.one, hwn, hupd, hwa, hwb, elems_sl, hdat, hw, hw2, ho2, hw27, ho27, hE0, hset, -load_tp]
      have hrs2 : runF st0 (l.take (i + 1)) = some ⟨updF K w (joinK (K w) (L w) (K o) (L o)), updF L w (joinR (K w) (L w) (K o) (L o)), n⟩ := by
        rw [hrs, hstep]
        simp [h0, hE0]
      have hrow0 : ∀ j, j < 3 → Row 3 (.cells false (arrV (fun _ => zeroV) (fun _ => .nilsl)) :: .cells false (arrV (updF K w (joinK (K w) (L w) (K o) (L o))) (updF R w v')) :: .cells false (nV n) :: (X ++ .cells false (stepC s) :: .cells false (bagV (joinK (K w) (L w) (K o) (L o)) v') :: (Y))) 3 valC (L j) (R j) := fun j hj => (((hR j hj).set (b := 1) (z := .cells false (arrV (updF K w (joinK (K w) (L w) (K o) (L o))) (updF R w v'))) ((hR j hj).off (by omega))).set (b := 2) (z := .cells false (nV n)) ((hR j hj).off (by omega))).app (X := _)
      have hrow1 : Row 3 (.cells false (arrV (fun _ => zeroV) (fun _ => .nilsl)) :: .cells false (arrV (updF K w (joinK (K w) (L w) (K o) (L o))) (updF R w v')) :: .cells false (nV n) :: (X ++ .cells false (stepC s) :: .cells false (bagV (joinK (K w) (L w) (K o) (L o)) v') :: (Y))) 3 valC (joinR (K w) (L w) (K o) (L o)) v' := by
        have a := ((r0.mono (by omega : 3 ≤ X.length + 5)).set (b := 1) (z := .cells false (arrV (updF K w (joinK (K w) (L w) (K o) (L o))) (updF R w v'))) (r0.off (by omega))).set (b := X.length + 4) (z := .cells false (bagV (joinK (K w) (L w) (K o) (L o)) v')) (r0.off (by omega))
        have hlen : (X ++ [ABlk.cells false (stepC s)]).length = X.length + 1 := by simp
        simpa [List.set_append] using a
      have hnr : runF st0 (l.take (i + 1)) = some ⟨updF K w (joinK (K w) (L w) (K o) (L o)), updF L w (joinR (K w) (L w) (K o) (L o)), n⟩ := hrs2
      simp only [stepC, h0] at hrow0 hrow1
      refine nxt hJ (m - 1) (by omega) ⟨i + 1, updF K w (joinK (K w) (L w) (K o) (L o)), updF L w (joinR (K w) (L w) (K o) (L o)), n, updF R w v', _, by omega, by omega, hrs2, hcn0, rfl, ?_, ?_, rfl⟩
      · exact upd_row hrow0 hrow1
      · exact sep_upd hS (fun w' hw' k hk => (hR w' hw').off_ge (by have := Nat.le_of_not_lt fun q => hk (r0.off q); simp; omega)) (fun w' hw' k hk => r0.off (by have := off_new (hR w' hw') hk; simp at this; omega))
    · obtain ⟨u, hu, hnt⟩ := arr_fin (d := 8) (hsetl (.cells false (stepC s) :: .cells false (bagV (joinK (K w) (L w) (K o) (L o)) v') :: (Y))) hS (K := K)
      simp [stepC, h0] at hu
      simp [lp45_0, hi, idxSl_roL hi, hld, h40, stepC, hwm, hom, hw3, ho3, h0, onew, fz w hw3, fz o ho3, k46 l1' l2', e0, r0.cells, r0.one, hwn, hupd, hwa, hwb, elems_sl, hdat, hw, hw2, ho2, hw27, ho27, hE5, hE0, hone, hone3, hover, hu, hnt, -load_tp]
      exact ⟨K, L, false, rfl, fun q => by cases q⟩
  by_cases h1 : s.what = 1
  · obtain ⟨v', Y, e0, r0⟩ := thaw_owL (H := .cells false (arrV (fun _ => zeroV) (fun _ => .nilsl)) :: .cells false (arrV K R) :: .cells false (nV (updF n w c)) :: (X ++ [.cells false (stepC s), .cells false (bagV (K w) (R w)), .cells true [.int .u8 (IntKind.u8.wrap (97 + (w : Int))), .int .u8 (IntKind.u8.wrap (48 + (c : Int).tmod 10))]])) (lim := X.length + 6) (es := 3) val_still (by simp) (putR (K w) (L w) (K w) w c (dataV w c))
    have fz : ∀ j, j < 3 → ∀ (N : List AV) Y, frz (.cells false (arrV (fun _ => zeroV) (fun _ => .nilsl)) :: .cells false (arrV K R) :: .cells false N :: (X ++ Y)) 11 (R j) = some (roL valC (L j)) := fun j hj N Y => (((hR j hj).set (b := 2) (z := .cells false N) ((hR j hj).off (by omega))).app (X := Y)).frz (d := 9) valC_len val_flat
    have hdat : [UInt8.ofNat (IntKind.u8.wrap (97 + (w : Int))).toNat, UInt8.ofNat (IntKind.u8.wrap (48 + (c : Int).tmod 10)).toNat] = dataV w c := rfl
    simp [stepC, h0, h1] at e0
    have hset := arr_set (K := K) (R := R) (k := putK (K w) (L w) (K w) w c (dataV w c)) (r := v') hw3
    have hsetl : ∀ Q : Heap, ∀ j, j < 3 → Row 3 (.cells false (arrV K R) :: .cells false (arrV K R) :: .cells false (nV (updF n w c)) :: (X ++ Q)) 3 valC (L j) (R j) := fun Q j hj => ((((hR j hj).set (b := 0) (z := .cells false (arrV K R)) ((hR j hj).off (by omega))).set (b := 2) (z := .cells false (nV (updF n w c))) ((hR j hj).off (by omega))).app (X := Q))
    by_cases hE5 : putE (K w) (L w) (K w) w c (dataV w c) = 5
    · obtain ⟨u, hu, hnt⟩ := arr_fin (d := 8) (hsetl (.cells false (stepC s) :: .cells false (bagV (putK (K w) (L w) (K w) w c (dataV w c)) v') :: (.cells true [.int .u8 (IntKind.u8.wrap (97 + (w : Int))), .int .u8 (IntKind.u8.wrap (48 + (c : Int).tmod 10))] :: Y))) hS (K := K)
      simp [stepC, h0, h1] at hu
      simp [lp45_0, hi, idxSl_roL hi, hld, h40, stepC, hwm, hom, hw3, ho3, h0, h1, onew, fz w hw3, fz o ho3, k17 l1', e0, r0.cells, r0.one, hwn, hupd, hwa, hwb, elems_sl, hdat, hw, hw2, ho2, hw27, ho27, hE5, hone, hone3, hover, hu, hnt, -load_tp]
      exact ⟨K, L, false, rfl, fun q => by cases q⟩
    by_cases hE0 : putE (K w) (L w) (K w) w c (dataV w c) = 0
    · simp [lp45_0, hi, idxSl_roL hi, hld, h40, stepC, hwm, hom, hw3, ho3, h0, h1, onew, fz w hw3, fz o ho3, k17 l1', e0, r0.cells, r0.one, hwn, hupd, hwa, hwb, elems_sl, hdat, hw, hw2, ho2, hw27, ho27, hE0, hset, -load_tp]
      have hrs2 : runF st0 (l.take (i + 1)) = some ⟨updF K w (putK (K w) (L w) (K w) w c (dataV w c)), updF L w (putR (K w) (L w) (K w) w c (dataV w c)), (updF n w c)⟩ := by
        rw [hrs, hstep]
        simp [h0, h1, writeF, ← hc, hE0]
      have hrow0 : ∀ j, j < 3 → Row 3 (.cells false (arrV (fun _ => zeroV) (fun _ => .nilsl)) :: .cells false (arrV (updF K w (putK (K w) (L w) (K w) w c (dataV w c))) (updF R w v')) :: .cells false (nV (updF n w c)) :: (X ++ .cells false (stepC s) :: .cells false (bagV (putK (K w) (L w) (K w) w c (dataV w c)) v') :: (.cells true [.int .u8 (IntKind.u8.wrap (97 + (w : Int))), .int .u8 (IntKind.u8.wrap (48 + (c : Int).tmod 10))] :: Y))) 3 valC (L j) (R j) := fun j hj => (((hR j hj).set (b := 1) (z := .cells false (arrV (updF K w (putK (K w) (L w) (K w) w c (dataV w c))) (updF R w v'))) ((hR j hj).off (by omega))).set (b := 2) (z := .cells false (nV (updF n w c))) ((hR j hj).off (by omega))).app (X := _)
      have hrow1 : Row 3 (.cells false (arrV (fun _ => zeroV) (fun _ => .nilsl)) :: .cells false (arrV (updF K w (putK (K w) (L w) (K w) w c (dataV w c))) (updF R w v')) :: .cells false (nV (updF n w c)) :: (X ++ .cells false (stepC s) :: .cells false (bagV (putK (K w) (L w) (K w) w c (dataV w c)) v') :: (.cells true [.int .u8 (IntKind.u8.wrap (97 + (w : Int))), .int .u8 (IntKind.u8.wrap (48 + (c : Int).tmod 10))] :: Y))) 3 valC (putR (K w) (L w) (K w) w c (dataV w c)) v' := by
        have a := ((r0.mono (by omega : 3 ≤ X.length + 6)).set (b := 1) (z := .cells false (arrV (updF K w (putK (K w) (L w) (K w) w c (dataV w c))) (updF R w v'))) (r0.off (by omega))).set (b := X.length + 4) (z := .cells false (bagV (putK (K w) (L w) (K w) w c (dataV w c)) v')) (r0.off (by omega))
        have hlen : (X ++ [ABlk.cells false (stepC s)]).length = X.length + 1 := by simp
        simpa [List.set_append] using a
      have hnr : runF st0 (l.take (i + 1)) = some ⟨updF K w (putK (K w) (L w) (K w) w c (dataV w c)), updF L w (putR (K w) (L w) (K w) w c (dataV w c)), (updF n w c)⟩ := hrs2
      simp only [stepC, h0, h1] at hrow0 hrow1
      refine nxt hJ (m - 1) (by omega) ⟨i + 1, updF K w (putK (K w) (L w) (K w) w c (dataV w c)), updF L w (putR (K w) (L w) (K w) w c (dataV w c)), (updF n w c), updF R w v', _, by omega, by omega, hrs2, hcn, rfl, ?_, ?_, rfl⟩
      · exact upd_row hrow0 hrow1
      · exact sep_upd hS (fun w' hw' k hk => (hR w' hw').off_ge (by have := Nat.le_of_not_lt fun q => hk (r0.off q); simp; omega)) (fun w' hw' k hk => r0.off (by have := off_new (hR w' hw') hk; simp at this; omega))
    · obtain ⟨u, hu, hnt⟩ := arr_fin (d := 8) (hsetl (.cells false (stepC s) :: .cells false (bagV (putK (K w) (L w) (K w) w c (dataV w c)) v') :: (.cells true [.int .u8 (IntKind.u8.wrap (97 + (w : Int))), .int .u8 (IntKind.u8.wrap (48 + (c : Int).tmod 10))] :: Y))) hS (K := K)
      simp [stepC, h0, h1] at hu
      simp [lp45_0, hi, idxSl_roL hi, hld, h40, stepC, hwm, hom, hw3, ho3, h0, h1, onew, fz w hw3, fz o ho3, k17 l1', e0, r0.cells, r0.one, hwn, hupd, hwa, hwb, elems_sl, hdat, hw, hw2, ho2, hw27, ho27, hE5, hE0, hone, hone3, hover, hu, hnt, -load_tp]
      exact ⟨K, L, false, rfl, fun q => by cases q⟩
  · obtain ⟨v', Y, e0, r0⟩ := thaw_owL (H := .cells false (arrV (fun _ => zeroV) (fun _ => .nilsl)) :: .cells false (arrV K R) :: .cells false (nV (updF n w c)) :: (X ++ [.cells false (stepC s), .cells false (bagV (K w) (R w)), .cells true [.int .u8 (IntKind.u8.wrap (97 + (w : Int))), .int .u8 (IntKind.u8.wrap (48 + (c : Int).tmod 10))]])) (lim := X.length + 6) (es := 3) val_still (by simp) (putR (K w) (L w) (zeroV) w c (dataV w c))
    have fz : ∀ j, j < 3 → ∀ (N : List AV) Y, frz (.cells false (arrV (fun _ => zeroV) (fun _ => .nilsl)) :: .cells false (arrV K R) :: .cells false N :: (X ++ Y)) 11 (R j) = some (roL valC (L j)) := fun j hj N Y => (((hR j hj).set (b := 2) (z := .cells false N) ((hR j hj).off (by omega))).app (X := Y)).frz (d := 9) valC_len val_flat
    have hdat : [UInt8.ofNat (IntKind.u8.wrap (97 + (w : Int))).toNat, UInt8.ofNat (IntKind.u8.wrap (48 + (c : Int).tmod 10)).toNat] = dataV w c := rfl
    simp [stepC, h0, h1] at e0
    have hset := arr_set (K := K) (R := R) (k := putK (K w) (L w) (zeroV) w c (dataV w c)) (r := v') hw3
    have hsetl : ∀ Q : Heap, ∀ j, j < 3 → Row 3 (.cells false (arrV K R) :: .cells false (arrV K R) :: .cells false (nV (updF n w c)) :: (X ++ Q)) 3 valC (L j) (R j) := fun Q j hj => ((((hR j hj).set (b := 0) (z := .cells false (arrV K R)) ((hR j hj).off (by omega))).set (b := 2) (z := .cells false (nV (updF n w c))) ((hR j hj).off (by omega))).app (X := Q))
    by_cases hE5 : putE (K w) (L w) (zeroV) w c (dataV w c) = 5
    · obtain ⟨u, hu, hnt⟩ := arr_fin (d := 8) (hsetl (.cells false (stepC s) :: .cells false (bagV (putK (K w) (L w) (zeroV) w c (dataV w c)) v') :: (.cells true [.int .u8 (IntKind.u8.wrap (97 + (w : Int))), .int .u8 (IntKind.u8.wrap (48 + (c : Int).tmod 10))] :: Y))) hS (K := K)
      simp [stepC, h0, h1] at hu
      simp [lp45_0, hi, idxSl_roL hi, hld, h40, stepC, hwm, hom, hw3, ho3, h0, h1, onew, fz w hw3, fz o ho3, k17 l1', e0, r0.cells, r0.one, hwn, hupd, hwa, hwb, elems_sl, hdat, hw, hw2, ho2, hw27, ho27, hE5, hone, hone3, hover, hu, hnt, -load_tp]
      exact ⟨K, L, false, rfl, fun q => by cases q⟩
    by_cases hE0 : putE (K w) (L w) (zeroV) w c (dataV w c) = 0
    · simp [lp45_0, hi, idxSl_roL hi, hld, h40, stepC, hwm, hom, hw3, ho3, h0, h1, onew, fz w hw3, fz o ho3, k17 l1', e0, r0.cells, r0.one, hwn, hupd, hwa, hwb, elems_sl, hdat, hw, hw2, ho2, hw27, ho27, hE0, hset, -load_tp]
      have hrs2 : runF st0 (l.take (i + 1)) = some ⟨updF K w (putK (K w) (L w) (zeroV) w c (dataV w c)), updF L w (putR (K w) (L w) (zeroV) w c (dataV w c)), (updF n w c)⟩ := by
        rw [hrs, hstep]
        simp [h0, h1, writeF, ← hc, hE0]
      have hrow0 : ∀ j, j < 3 → Row 3 (.cells false (arrV (fun _ => zeroV) (fun _ => .nilsl)) :: .cells false (arrV (updF K w (putK (K w) (L w) (zeroV) w c (dataV w c))) (updF R w v')) :: .cells false (nV (updF n w c)) :: (X ++ .cells false (stepC s) :: .cells false (bagV (putK (K w) (L w) (zeroV) w c (dataV w c)) v') :: (.cells true [.int .u8 (IntKind.u8.wrap (97 + (w : Int))), .int .u8 (IntKind.u8.wrap (48 + (c : Int).tmod 10))] :: Y))) 3 valC (L j) (R j) := fun j hj => (((hR j hj).set (b := 1) (z := .cells false (arrV (updF K w (putK (K w) (L w) (zeroV) w c (dataV w c))) (updF R w v'))) ((hR j hj).off (by omega))).set (b := 2) (z := .cells false (nV (updF n w c))) ((hR j hj).off (by omega))).app (X := _)
      have hrow1 : Row 3 (.cells false (arrV (fun _ => zeroV) (fun _ => .nilsl)) :: .cells false (arrV (updF K w (putK (K w) (L w) (zeroV) w c (dataV w c))) (updF R w v')) :: .cells false (nV (updF n w c)) :: (X ++ .cells false (stepC s) :: .cells false (bagV (putK (K w) (L w) (zeroV) w c (dataV w c)) v') :: (.cells true [.int .u8 (IntKind.u8.wrap (97 + (w : Int))), .int .u8 (IntKind.u8.wrap (48 + (c : Int).tmod 10))] :: Y))) 3 valC (putR (K w) (L w) (zeroV) w c (dataV w c)) v' := by
        have a := ((r0.mono (by omega : 3 ≤ X.length + 6)).set (b := 1) (z := .cells false (arrV (updF K w (putK (K w) (L w) (zeroV) w c (dataV w c))) (updF R w v'))) (r0.off (by omega))).set (b := X.length + 4) (z := .cells false (bagV (putK (K w) (L w) (zeroV) w c (dataV w c)) v')) (r0.off (by omega))
        have hlen : (X ++ [ABlk.cells false (stepC s)]).length = X.length + 1 := by simp
        simpa [List.set_append] using a
      have hnr : runF st0 (l.take (i + 1)) = some ⟨updF K w (putK (K w) (L w) (zeroV) w c (dataV w c)), updF L w (putR (K w) (L w) (zeroV) w c (dataV w c)), (updF n w c)⟩ := hrs2
      simp only [stepC, h0, h1] at hrow0 hrow1
      refine nxt hJ (m - 1) (by omega) ⟨i + 1, updF K w (putK (K w) (L w) (zeroV) w c (dataV w c)), updF L w (putR (K w) (L w) (zeroV) w c (dataV w c)), (updF n w c), updF R w v', _, by omega, by omega, hrs2, hcn, rfl, ?_, ?_, rfl⟩
      · exact upd_row hrow0 hrow1
      · exact sep_upd hS (fun w' hw' k hk => (hR w' hw').off_ge (by have := Nat.le_of_not_lt fun q => hk (r0.off q); simp; omega)) (fun w' hw' k hk => r0.off (by have := off_new (hR w' hw') hk; simp at this; omega))
    · obtain ⟨u, hu, hnt⟩ := arr_fin (d := 8) (hsetl (.cells false (stepC s) :: .cells false (bagV (putK (K w) (L w) (zeroV) w c (dataV w c)) v') :: (.cells true [.int .u8 (IntKind.u8.wrap (97 + (w : Int))), .int .u8 (IntKind.u8.wrap (48 + (c : Int).tmod 10))] :: Y))) hS (K := K)
      simp [stepC, h0, h1] at hu
      simp [lp45_0, hi, idxSl_roL hi, hld, h40, stepC, hwm, hom, hw3, ho3, h0, h1, onew, fz w hw3, fz o ho3, k17 l1', e0, r0.cells, r0.one, hwn, hupd, hwa, hwb, elems_sl, hdat, hw, hw2, ho2, hw27, ho27, hE5, hE0, hone, hone3, hover, hu, hnt, -load_tp]
      exact ⟨K, L, false, rfl, fun q => by cases q⟩
end Go.Proofs.YtkmikfhfjjmobaaA

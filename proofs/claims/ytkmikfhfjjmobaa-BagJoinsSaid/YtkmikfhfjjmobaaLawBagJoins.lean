/- 'starlinglaw14.BagJoins' returns true for every list of steps, and the list reads behind it as it read before: it is all the same in which order bags are joined; what is known to one who doesn't hold it is gone, all else stays. Without further conditions. -/
import Derived.Test.YtkmikfhfjjmobaaRows
import Derived.Test.YtkmikfhfjjmobaaQ3
import Derived.WalkKit
import Derived.ProofKit
import Derived.ChangeOld
namespace Go.Proofs.YtkmikfhfjjmobaaA
open Go
set_option linter.unusedSimpArgs false
set_option linter.unusedVariables false
set_option maxRecDepth 1000000
attribute [local simp] vec_zero

theorem any_take {α : Type} {p : α → Bool} {l : List α} {i : Nat} (hi : i < l.length) : (l.take (i + 1)).any p = ((l.take i).any p || p l[i]) := by
  rw [List.take_succ_eq_append_getElem hi, List.any_append]
  simp
theorem eq_row2 {a b c d : Int} : eqRow [.i, .i] [I a, I b] [I c, I d] = some (decide (a = c ∧ b = d)) := by
  simp only [eqRow, eqCell, if_true, Option.bind_some]
  congr 1
  by_cases h1 : a = c <;> by_cases h2 : b = d <;> simp [h1, h2]
theorem arr_at8 {K : Nat → Nat → Int} {R : Nat → AV} {w : Nat} (h : w < 3) : cut (arrV K R) (w * 9 + 8) 1 = some [R w] := by
  obtain rfl | rfl | rfl := lt3 h <;> rfl
set_option maxHeartbeats 8000000 in
theorem bagJoins_pu (l : List PStep) (hl : l.length < 4611686018427387904) : Pu envE 10 [roL stepC l] (.bool true) := by
  refine pu_is e10 rfl ?_
  rw [fr_init (by simp [fd10])]
  obtain ⟨K, L, ok, h1, g1⟩ := k45 l hl
  obtain ⟨R, X, e1, r1⟩ := thaws_owL (H := []) (lim := 0) (by simp) K L
  have o1 : (∀ x : AV, x ∈ arrV K R → x.one = true) = True := eq_true (List.all_eq_true.1 (arr_one fun w hw => (r1 w hw).one))
  have hover : ∀ q : List AV, q.length = 27 → setFrom q 0 (arrV K R) = arrV K R := fun q hq => setFrom_all _ _ (by rw [hq, arr_len])
  simp at e1
  cases ok
  · simp [fd10, b10, h1, e1, o1, hover]
  obtain ⟨n, g1⟩ := g1 rfl
  obtain ⟨hk, _⟩ := runF_ok st0_ok g1
  have hb := hk.ok
  simp only at hb
  have ll : ∀ w, w < 3 → (L w).length < 4611686018427387904 := fun w hw => by have := (hb w hw).len; omega
  have jl : ∀ {ka la kb lb}, (joinR ka la kb lb).length < 4611686018427387904 := fun {ka la kb lb} => by have := joinR_len (ka := ka) (la := la) (kb := kb) (lb := lb); omega
  obtain ⟨xk, hxk⟩ : ∃ xk, xk = joinK (K 0) (L 0) (K 1) (L 1) := ⟨_, rfl⟩
  obtain ⟨xl, hxl⟩ : ∃ xl, xl = joinR (K 0) (L 0) (K 1) (L 1) := ⟨_, rfl⟩
  obtain ⟨yk, hyk⟩ : ∃ xk, xk = joinK (K 1) (L 1) (K 0) (L 0) := ⟨_, rfl⟩
  obtain ⟨yl, hyl⟩ : ∃ xl, xl = joinR (K 1) (L 1) (K 0) (L 0) := ⟨_, rfl⟩
  obtain ⟨zk, hzk⟩ : ∃ xk, xk = joinK (K 1) (L 1) (K 2) (L 2) := ⟨_, rfl⟩
  obtain ⟨zl, hzl⟩ : ∃ xl, xl = joinR (K 1) (L 1) (K 2) (L 2) := ⟨_, rfl⟩
  have lx : xl.length < 4611686018427387904 := by rw [hxl]; exact jl
  have lz : zl.length < 4611686018427387904 := by rw [hzl]; exact jl
  obtain ⟨pk, hpk⟩ : ∃ k, k = joinK xk xl (K 2) (L 2) := ⟨_, rfl⟩
  obtain ⟨pl, hpl⟩ : ∃ l, l = joinR xk xl (K 2) (L 2) := ⟨_, rfl⟩
  obtain ⟨qk, hqk⟩ : ∃ k, k = joinK (K 0) (L 0) zk zl := ⟨_, rfl⟩
  obtain ⟨ql, hql⟩ : ∃ l, l = joinR (K 0) (L 0) zk zl := ⟨_, rfl⟩
  have lp : pl.length < 4611686018427387904 := by rw [hpl]; exact jl
  obtain ⟨ee, he⟩ : ∃ e, e = joinE (K 0) (L 0) (K 1) (L 1) := ⟨_, rfl⟩
  obtain ⟨ef, hf⟩ : ∃ e, e = joinE (K 1) (L 1) (K 0) (L 0) := ⟨_, rfl⟩
  obtain ⟨eg, hg⟩ : ∃ e, e = joinE (K 1) (L 1) (K 2) (L 2) := ⟨_, rfl⟩
  obtain ⟨eh, hh⟩ : ∃ e, e = joinE xk xl (K 2) (L 2) := ⟨_, rfl⟩
  obtain ⟨ei, hi⟩ : ∃ e, e = joinE (K 0) (L 0) zk zl := ⟨_, rfl⟩
  have kx : ∀ H Q, wPu envE 46 (some [.agg (bagV (K 0) (roL valC (L 0))), .agg (bagV (K 1) (roL valC (L 1)))]) H Q = Q (.tup [.agg (bagV xk (thaw (owL 3 valC xl) H).1), I ee]) (thaw (owL 3 valC xl) H).2 := fun H Q => by rw [hxk, hxl, he]; exact k46 (ll 0 (by omega)) (ll 1 (by omega))
  have ky : ∀ H Q, wPu envE 46 (some [.agg (bagV (K 1) (roL valC (L 1))), .agg (bagV (K 0) (roL valC (L 0)))]) H Q = Q (.tup [.agg (bagV yk (thaw (owL 3 valC yl) H).1), I ef]) (thaw (owL 3 valC yl) H).2 := fun H Q => by rw [hyk, hyl, hf]; exact k46 (ll 1 (by omega)) (ll 0 (by omega))
  have kz : ∀ H Q, wPu envE 46 (some [.agg (bagV (K 1) (roL valC (L 1))), .agg (bagV (K 2) (roL valC (L 2)))]) H Q = Q (.tup [.agg (bagV zk (thaw (owL 3 valC zl) H).1), I eg]) (thaw (owL 3 valC zl) H).2 := fun H Q => by rw [hzk, hzl, hg]; exact k46 (ll 1 (by omega)) (ll 2 (by omega))
  have kp : ∀ H Q, wPu envE 46 (some [.agg (bagV xk (roL valC xl)), .agg (bagV (K 2) (roL valC (L 2)))]) H Q = Q (.tup [.agg (bagV pk (thaw (owL 3 valC pl) H).1), I eh]) (thaw (owL 3 valC pl) H).2 := fun H Q => by rw [hpk, hpl, hh]; exact k46 lx (ll 2 (by omega))
  have kq : ∀ H Q, wPu envE 46 (some [.agg (bagV (K 0) (roL valC (L 0))), .agg (bagV zk (roL valC zl))]) H Q = Q (.tup [.agg (bagV qk (thaw (owL 3 valC ql) H).1), I ei]) (thaw (owL 3 valC ql) H).2 := fun H Q => by rw [hqk, hql, hi]; exact k46 (ll 0 (by omega)) lz
  obtain ⟨H0, hH0⟩ : ∃ H0, H0 = X ++ [ABlk.cells false (arrV K R)] := ⟨_, rfl⟩
  obtain ⟨a, ha⟩ : ∃ a, a = X.length := ⟨_, rfl⟩
  have ca : ∀ Z, Heap.cells? (H0 ++ Z) a = some (arrV K R) := fun Z => by subst hH0 ha; simp [Heap.cells?]
  have ca0 := ca []
  rw [List.append_nil] at ca0
  have rr : ∀ Z w, w < 3 → Row 0 (H0 ++ Z) 3 valC (L w) (R w) := fun Z w hw => by
    have := (r1 w hw).app (X := [ABlk.cells false (arrV K R)] ++ Z)
    subst hH0
    simpa using this
  have fr : ∀ w, w < 3 → ∀ Z, frz (H0 ++ Z) 11 (R w) = some (roL valC (L w)) := fun w hw Z => (rr Z w hw).frz (d := 9) valC_len val_flat
  have fr' : ∀ w, w < 3 → frz H0 11 (R w) = some (roL valC (L w)) := fun w hw => by simpa using fr w hw []
  have t0 := (r1 0 (by omega)).one
  have t1 := (r1 1 (by omega)).one
  have t2 := (r1 2 (by omega)).one
  have c0 : List.take 9 (arrV K R) = bagV (K 0) (R 0) := rfl
  have c1 : List.take 9 (List.drop 9 (arrV K R)) = bagV (K 1) (R 1) := rfl
  have c2 : List.take 9 (List.drop 18 (arrV K R)) = bagV (K 2) (R 2) := rfl
  obtain ⟨v1, Y1, q1, s1⟩ := thaw_owL (H := H0) (lim := 0) (es := 3) val_still (by simp) xl
  obtain ⟨v2, Y2, q2, s2⟩ := thaw_owL (H := H0 ++ (Y1 ++ [.cells false (bagV xk v1)])) (lim := 0) (es := 3) val_still (by simp) yl
  obtain ⟨v3, Y3, q3, s3⟩ := thaw_owL (H := H0 ++ (Y1 ++ .cells false (bagV xk v1) :: (Y2 ++ [.cells false (bagV yk v2)]))) (lim := 0) (es := 3) val_still (by simp) zl
  obtain ⟨v4, Y4, q4, s4⟩ := thaw_owL (H := H0 ++ (Y1 ++ .cells false (bagV xk v1) :: (Y2 ++ .cells false (bagV yk v2) :: (Y3 ++ [.cells false (bagV zk v3)])))) (lim := 0) (es := 3) val_still (by simp) pl
  obtain ⟨v5, Y5, q5, s5⟩ := thaw_owL (H := H0 ++ (Y1 ++ .cells false (bagV xk v1) :: (Y2 ++ .cells false (bagV yk v2) :: (Y3 ++ .cells false (bagV zk v3) :: (Y4 ++ [.cells false (bagV pk v4)]))))) (lim := 0) (es := 3) val_still (by simp) ql
  have d1 : ∀ T, frz (H0 ++ (Y1 ++ T)) 11 v1 = some (roL valC xl) := fun T => by simpa using (s1.app (X := T)).frz (d := 9) valC_len val_flat
  have d2 : ∀ T, frz (H0 ++ (Y1 ++ .cells false (bagV xk v1) :: (Y2 ++ T))) 11 v2 = some (roL valC yl) := fun T => by simpa using (s2.app (X := T)).frz (d := 9) valC_len val_flat
  have d3 : ∀ T, frz (H0 ++ (Y1 ++ .cells false (bagV xk v1) :: (Y2 ++ .cells false (bagV yk v2) :: (Y3 ++ T)))) 11 v3 = some (roL valC zl) := fun T => by simpa using (s3.app (X := T)).frz (d := 9) valC_len val_flat
  have d4 : ∀ T, frz (H0 ++ (Y1 ++ .cells false (bagV xk v1) :: (Y2 ++ .cells false (bagV yk v2) :: (Y3 ++ .cells false (bagV zk v3) :: (Y4 ++ T))))) 11 v4 = some (roL valC pl) := fun T => by simpa using (s4.app (X := T)).frz (d := 9) valC_len val_flat
  have d5 : ∀ T, frz (H0 ++ (Y1 ++ .cells false (bagV xk v1) :: (Y2 ++ .cells false (bagV yk v2) :: (Y3 ++ .cells false (bagV zk v3) :: (Y4 ++ .cells false (bagV pk v4) :: (Y5 ++ T)))))) 11 v5 = some (roL valC ql) := fun T => by simpa using (s5.app (X := T)).frz (d := 9) valC_len val_flat
  have u1 := s1.one
  have u2 := s2.one
  have u3 := s3.one
  have u4 := s4.one
  have u5 := s5.one
  simp at q2 q3 q4 q5
  have f0 := fr 0 (by omega)
  have f1 := fr 1 (by omega)
  have f2 := fr 2 (by omega)
  have f0' := fr' 0 (by omega)
  have f1' := fr' 1 (by omega)
  have f2' := fr' 2 (by omega)
  have ll0 := ll 0 (by omega)
  have ll1 := ll 1 (by omega)
  subst hH0 ha
  simp only [List.append_assoc, List.cons_append, List.nil_append] at f0 f1 f2 q1 q2 q3 q4 q5 d1 d2 d3 d4 d5
  by_cases ne : ee = 5
  · simp [fd10, b10, h1, e1, o1, hover, f0, f1, f2, f0', f1', f2', t0, t1, t2, c0, c1, c2, kx, ky, kz, kp, kq, q1, q2, q3, q4, q5, d1, d2, d3, d4, d5, u1, u2, u3, u4, u5, ne]
  by_cases ng : eg = 5
  · simp [fd10, b10, h1, e1, o1, hover, f0, f1, f2, f0', f1', f2', t0, t1, t2, c0, c1, c2, kx, ky, kz, kp, kq, q1, q2, q3, q4, q5, d1, d2, d3, d4, d5, u1, u2, u3, u4, u5, ne, ng]
  by_cases nh : eh = 5
  · simp [fd10, b10, h1, e1, o1, hover, f0, f1, f2, f0', f1', f2', t0, t1, t2, c0, c1, c2, kx, ky, kz, kp, kq, q1, q2, q3, q4, q5, d1, d2, d3, d4, d5, u1, u2, u3, u4, u5, ne, ng, nh]
  by_cases ni : ei = 5
  · simp [fd10, b10, h1, e1, o1, hover, f0, f1, f2, f0', f1', f2', t0, t1, t2, c0, c1, c2, kx, ky, kz, kp, kq, q1, q2, q3, q4, q5, d1, d2, d3, d4, d5, u1, u2, u3, u4, u5, ne, ng, nh, ni]
  obtain ⟨jd, ze4, ze5⟩ := joined hb hxk hxl hyk hyl hzk hzl hpk hpl hqk hql (by rw [← he]; exact ne) (by rw [← hg]; exact ng) (by rw [← hh]; exact nh) (by rw [← hi]; exact ni)
  have ze1 : ee = 0 := by rw [he]; exact jd.e
  have ze2 : ef = 0 := by rw [hf]; exact jd.f
  have ze3 : eg = 0 := by rw [hg]; exact jd.g
  rw [← hh] at ze4
  rw [← hi] at ze5
  have w1 := jd.xy
  have w2 := jd.pq
  have w3 := jd.b0
  have w4 := jd.b1
  have w5 := jd.bx
  have w6 := jd.may
  simp [fd10, b10, h1, e1, o1, hover, f0, f1, f2, f0', f1', f2', t0, t1, t2, c0, c1, c2, kx, ky, kz, kp, kq, q1, q2, q3, q4, q5, d1, d2, d3, d4, d5, u1, u2, u3, u4, u5, ze1, ze2, ze3, ze4, ze5, lx, lp, ll0, ll1, k47 lx, k47 lp, k48 ll0 lx, k48 ll1 lp, k48 lx lp, k18 lp, w1, w2, w3, w4, w5, w6]
  obtain ⟨H1, hH1⟩ : ∃ H1, H1 = X ++ ABlk.cells false (arrV K R) :: (Y1 ++ .cells false (bagV xk v1) :: (Y2 ++ .cells false (bagV yk v2) :: (Y3 ++ .cells false (bagV zk v3) :: (Y4 ++ .cells false (bagV pk v4) :: (Y5 ++ [.cells false (bagV qk v5)]))))) := ⟨_, rfl⟩
  have ca : ∀ Z, Heap.cells? (H1 ++ Z) X.length = some (arrV K R) := fun Z => by subst hH1; simp
  have rr : ∀ Z w, w < 3 → Row 0 (H1 ++ Z) 3 valC (L w) (R w) := fun Z w hw => by
    have := (r1 w hw).app (X := ABlk.cells false (arrV K R) :: (Y1 ++ .cells false (bagV xk v1) :: (Y2 ++ .cells false (bagV yk v2) :: (Y3 ++ .cells false (bagV zk v3) :: (Y4 ++ .cells false (bagV pk v4) :: (Y5 ++ [.cells false (bagV qk v5)]))))) ++ Z)
    subst hH1
    simpa using this
  have rp : ∀ Z, Row 0 (H1 ++ Z) 3 valC pl v4 := fun Z => by
    have := s4.app (X := .cells false (bagV pk v4) :: (Y5 ++ [.cells false (bagV qk v5)]) ++ Z)
    subst hH1
    simpa using this
  rw [← hH1]
  refine loop_go [3, 11, 142] rfl (fun m vs H => ∃ i Z b, m + i = 3 ∧ H = H1 ++ Z ∧ vs = [.ptr (some (X.length, 0)), .ptr (some (b, 0)), I i] ∧ ∀ W, Heap.cells? (H1 ++ W) b = some (bagV pk v4)) ?_ 3 ⟨0, [], _, rfl, by simp, rfl, fun W => ?_⟩
  case refine_2 =>
    subst hH1
    simp
  rintro J hJ m vs H f ⟨i, Z, b, hm, rfl, rfl, cb⟩
  obtain ⟨a, ha⟩ : ∃ a, a = X.length := ⟨_, rfl⟩
  rw [← ha] at ca hJ ⊢
  by_cases hi3 : i < 3
  case neg =>
    have hi' : ¬ (i : Int) < 3 := by omega
    simp [lp10_0, hi']
  have hi' : (i : Int) < 3 := by omega
  have hi2 : i ≤ 2 := by omega
  have hw := wrap_succ (i := i) (by omega)
  have li := (r1 i hi3).len
  have i1 := (r1 i hi3).one
  have ki := jd.know i hi3
  have at8 := arr_at8 (K := K) (R := R) hi3
  have lpp := s4.len
  simp [lp10_0, hi', hi3, hi2, ca, cb, li, i1, ki, at8]
  refine loop_go [3, 11, 142, 156, 157, 158] rfl (fun m vs H => ∃ j Z, m + j = (L i).length ∧ H = H1 ++ Z ∧ vs = [.ptr (some (a, 0)), .ptr (some (b, 0)), I i, R i, I (L i).length, I j]) ?_ (L i).length ⟨0, Z, rfl, rfl, rfl⟩
  rintro J2 hJ2 m2 vs H g ⟨j, Z2, hm2, rfl, rfl⟩
  by_cases hj : j < (L i).length
  case neg =>
    simp [lp10_1, hj, hw]
    exact nxt hJ (m - 1) (by omega) ⟨i + 1, _, b, by omega, rfl, rfl, cb⟩
  have lli := ll i hi3
  have hwj := wrap_succ (i := j) (by omega)
  obtain ⟨u, hu⟩ : ∃ u, u = (L i)[j] := ⟨_, rfl⟩
  have hat := (r1 i hi3).at (k := .i64) hj
  have hld := (rr Z2 i hi3).load valC_len hj
  rw [← hu] at hld
  obtain ⟨c, hc⟩ : ∃ c, c = H1.length + Z2.length := ⟨_, rfl⟩
  have hcc : ∀ W, Heap.cells? (H1 ++ (Z2 ++ .cells false (valC u) :: W)) c = some (valC u) := fun W => by subst hc; simp
  simp [lp10_1, hj, hat, hld, cb, lpp, u4]
  rw [← hc]
  refine loop_go [3, 11, 17, 18, 142, 156, 157, 158, 163, 164, 165] rfl (fun m vs H => ∃ k W, m + k = pl.length ∧ H = H1 ++ (Z2 ++ .cells false (valC u) :: W) ∧ vs = [.ptr (some (a, 0)), .ptr (some (b, 0)), .ptr (some (c, 0)), .bool ((pl.take k).any fun x => decide (x = u)), I i, R i, I (L i).length, I j, v4, I pl.length, I k]) ?_ pl.length ⟨0, [], rfl, rfl, rfl⟩
  rintro J3 hJ3 m3 vs H g3 ⟨k, W, hm3, rfl, rfl⟩
  by_cases hk' : k < pl.length
  case pos =>
    have hwk := wrap_succ (i := k) (by omega)
    have hat3 := s4.at (k := .i64) hk'
    have hld3 := (rp (Z2 ++ .cells false (valC u) :: W)).load valC_len hk'
    have hcc3 := hcc (W ++ [.cells false (valC pl[k])])
    cases hacc : (pl.take k).any fun x => decide (x = u)
    · simp [lp10_2, hk', hat3, hld3, hwk, hcc3]
      refine nxt hJ3 (m3 - 1) (by omega) ⟨k + 1, W ++ [.cells false (valC pl[k])], by omega, by simp, ?_⟩
      rw [any_take hk', hacc]
      simp [look]
    · simp [lp10_2, hk', hat3, hld3, hwk]
      refine nxt hJ3 (m3 - 1) (by omega) ⟨k + 1, W ++ [.cells false (valC pl[k])], by omega, by simp, ?_⟩
      rw [any_take hk', hacc]
      simp [look]
  have hin := law_mem hb jd.mem hi3 (v := u) (by rw [hu]; exact List.getElem_mem hj)
  rw [List.take_of_length_le (by omega), hin]
  simp [lp10_2, hk']
  refine loop_go [3, 11, 17, 18, 21, 142, 156, 157, 158, 176] rfl (fun m vs H => ∃ o W, m + o = 3 ∧ H = H1 ++ (Z2 ++ .cells false (valC u) :: W) ∧ vs = [.ptr (some (a, 0)), .ptr (some (b, 0)), .ptr (some (c, 0)), .bool (!goneN K L u 3), .bool (goneN K L u o), I i, R i, I (L i).length, I j, I o]) ?_ 3 ⟨0, W, rfl, rfl, rfl⟩
  rintro J4 hJ4 m4 vs H g4 ⟨o, W4, hm4, rfl, rfl⟩
  by_cases ho : o < 3
  case neg =>
    obtain rfl : o = 3 := by omega
    cases hg3 : goneN K L u 3
    · simp [lp10_3, hwj]
      exact nxt hJ2 (m2 - 1) (by omega) ⟨j + 1, _, by omega, rfl, rfl⟩
    · simp [lp10_3, hwj]
      exact nxt hJ2 (m2 - 1) (by omega) ⟨j + 1, _, by omega, rfl, rfl⟩
  have ho' : (o : Int) < 3 := by omega
  have ho2 : o ≤ 2 := by omega
  have hwo := wrap_succ (i := o) (by omega)
  have lo := (r1 o ho).len
  have o11 := (r1 o ho).one
  have at8o := arr_at8 (K := K) (R := R) ho
  simp [lp10_3, ho', ho, ho2, ca, lo, o11, at8o]
  refine loop_go [3, 11, 17, 18, 21, 22, 23, 142, 156, 157, 158, 176, 182, 183, 184] rfl (fun m vs H => ∃ q W, m + q = (L o).length ∧ H = H1 ++ (Z2 ++ .cells false (valC u) :: W) ∧ vs = [.ptr (some (a, 0)), .ptr (some (b, 0)), .ptr (some (c, 0)), .bool (!goneN K L u 3), .bool (goneN K L u o), I o, .bool (isAt ((L o).take q) u.node u.n), I i, R i, I (L i).length, I j, I o, R o, I (L o).length, I q]) ?_ (L o).length ⟨0, W4, rfl, rfl, rfl⟩
  rintro J5 hJ5 m5 vs H g5 ⟨q, W5, hm5, rfl, rfl⟩
  have llo := ll o ho
  by_cases hq : q < (L o).length
  case pos =>
    have hwq := wrap_succ (i := q) (by omega)
    have hat5 := (r1 o ho).at (k := .i64) hq
    have hld5 := (rr (Z2 ++ .cells false (valC u) :: W5) o ho).load valC_len hq
    have hcc5 := hcc (W5 ++ [.cells false (valC (L o)[q])])
    have hst : isAt ((L o).take (q + 1)) u.node u.n = (isAt ((L o).take q) u.node u.n || decide ((L o)[q].node = u.node ∧ (L o)[q].n = u.n)) := any_take hq
    cases hacc : isAt ((L o).take q) u.node u.n
    · simp [lp10_4, hq, hat5, hld5, hwq, hcc5, eq_row2]
      refine nxt hJ5 (m5 - 1) (by omega) ⟨q + 1, W5 ++ [.cells false (valC (L o)[q])], by omega, by simp, ?_⟩
      rw [hst, hacc]
      simp [look]
    · simp [lp10_4, hq, hat5, hld5, hwq]
      refine nxt hJ5 (m5 - 1) (by omega) ⟨q + 1, W5 ++ [.cells false (valC (L o)[q])], by omega, by simp, ?_⟩
      rw [hst, hacc]
      simp [look]
  rw [List.take_of_length_le (by omega)]
  have hgs : goneN K L u (o + 1) = (goneN K L u o || (!isAt (L o) u.node u.n && has (K o) u.node u.n)) := rfl
  cases hgo : goneN K L u o
  · cases hat : isAt (L o) u.node u.n
    · simp [lp10_4, hq, ho, ho2, ca, hcc, hwo]
      refine nxt hJ4 (m4 - 1) (by omega) ⟨o + 1, W5, by omega, by simp, ?_⟩
      rw [hgs, hgo, hat]
      simp [look]
    · simp [lp10_4, hq, ho, ho2, ca, hcc, hwo]
      refine nxt hJ4 (m4 - 1) (by omega) ⟨o + 1, W5, by omega, by simp, ?_⟩
      rw [hgs, hgo, hat]
      simp [look]
  · simp [lp10_4, hq, ho, ho2, ca, hcc, hwo]
    refine nxt hJ4 (m4 - 1) (by omega) ⟨o + 1, W5, by omega, by simp, ?_⟩
    rw [hgs, hgo]
    simp [look]
theorem bagJoins_law (cs : List AV) (h : FitsArgs [(false, .sl 3 24 (.cat [iS, iS, iS]))] cs) : ∃ n H', callF envE (exec envE n) 10 cs 0 [] = some (.bool true, H') := by
  obtain ⟨r, rest, rfl, h1, t⟩ := fa_one h
  cases fa_nil t
  obtain ⟨l, e, hl, hb⟩ := of_steps h1
  cases e
  exact law_of (bagJoins_pu l (by simp only [reachBytes] at hb; omega)) (by simp)
end Go.Proofs.YtkmikfhfjjmobaaA

namespace Go.Proofs.Ytkmikfhfjjmobaa.bagJoins
open Go.ChangeShapes Go.WideShapes Go.ChangeAt Go.RowKit
set_option linter.unusedVariables false
theorem own : ownKnob Try.prog.godebug = none := by kernel_rfl
set_option maxRecDepth 1000000 in
theorem lifted (os : Os) (started : os.Started) (H : Type) (enc : TypeId × Value → H) :
    ReturnsInHanded {} Try.checked os 10 .any (Rows.bagJoinsSpec.pre6 enc Try.prog Try.f10 Rows.bagJoinsRow.domain false) (Rows.bagJoinsSpec.post enc Try.prog Try.f10 false true false false) :=
  YtkmikfhfjjmobaaA.law_lifted (C := Try.checked) YtkmikfhfjjmobaaA.env_good (fd := YtkmikfhfjjmobaaA.fd10) (tb := 4) rfl own started (by kernel_rfl) Try.func10
    (ChangeSpec.witness6 (enc := enc) (C := Try.checked) false ⟨#[], #[((Try.prog.info? 77).bind (·.zero)).getD .nilFunc], []⟩ 8 (by kernel_rfl) (by kernel_rfl) (by kernel_rfl) (by kernel_rfl))
    (by kernel_rfl) (by decide +kernel) (by kernel_rfl) rfl (by kernel_rfl) (by kernel_rfl) (fun ds h => by
      match ds, h with
      | [d0], _ => rfl) YtkmikfhfjjmobaaA.bagJoins_law
theorem over : Rows.bagJoinsRow.holds Try.pinned (OpenSpec.ofChange Rows.bagJoinsSpec) :=
  OpenClaim.holds_of_wide 10 Try.f10 rfl rfl rfl rfl rfl rfl rfl ⟨rfl, rfl, rfl, rfl, rfl⟩ rfl rfl rfl rfl rfl (by kernel_rfl) Try.func10 (by kernel_rfl)
    (of_decide_eq_true (by kernel_rfl)) (by unfold Func.isWrapper; first | (rw [if_pos (by decide +kernel)]; kernel_rfl) | (rw [if_neg (by decide +kernel)]; exact ⟨rfl, rfl⟩))
    (fun os started H enc _ => lifted os started H enc)
end Go.Proofs.Ytkmikfhfjjmobaa.bagJoins
namespace Go.Proofs.Ytkmikfhfjjmobaa
/-- The row, under a short name, for the claim. -/
theorem bagJoins_holds : Rows.BagJoinsSaid := bagJoins.over
#print axioms bagJoins_holds
end Go.Proofs.Ytkmikfhfjjmobaa


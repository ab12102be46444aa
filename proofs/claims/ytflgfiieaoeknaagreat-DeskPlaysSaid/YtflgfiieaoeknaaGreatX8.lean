/- What the reference's desk does; New and Open of the reference. No statement about the program is proved here. -/
import Derived.Test.YtflgfiieaoeknaaGreatX7
import Derived.Test.YtflgfiieaoeknaaGreatXO
namespace Go.Proofs.YtflgfiieaoeknaaGreatA
open Go
set_option linter.unusedSimpArgs false
set_option linter.unusedVariables false
set_option maxRecDepth 1000000
attribute [local simp] deed_zero

def ownsQ (t : RSt) (self : Int) (key : List UInt8) : OwnR :=
  if self < 0 ∨ 8 ≤ self ∨ keyOk key = false then ⟨0, 1⟩
  else if t.has = false then ⟨0, 8⟩
  else if ownerF t.ring (spotF key) = self then ⟨self, 0⟩ else ⟨ownerF t.ring (spotF key), 10⟩
theorem c14 {H : Heap} {b w : Nat} {t : RSt} {rv q pv : AV} {cs : List DCell9} {ps : List PR} (h : RV H b w t rv q pv cs ps) (ok : ROk t) (self : Int) (key : List UInt8) :
    WCl envE 14 [I self, .ptr (some (w, 0)), .str key] 0 H fun r H' => ∃ X q', H' = H ++ X ∧ r = .tup [.agg (bagV (if (ownsQ t self key).e = 0 then bagP t key else zBagS).known q'), I (ownsQ t self key).n, I (ownsQ t self key).e] ∧ Rd H 3 valC (if (ownsQ t self key).e = 0 then bagP t key else zBagS).vals q' := by
  obtain ⟨R, hR⟩ : ∃ R, R = ownsQ t self key := ⟨_, rfl⟩
  rw [← hR]
  have hnode : nodeOk self = (decide (0 ≤ self) && decide (self < 8)) := rfl
  have hn : t.prs.length ≤ 3000 := by have := ok.pn; have := ok.le; have := ok.r1; omega
  by_cases n1 : self < 0
  · have e : R = ⟨0, 1⟩ := by rw [hR]; simp [ownsQ, n1]
    have n1' : ¬ 0 ≤ self := by omega
    rw [e]
    refine cl_of e14 rfl ?_
    rw [fr_init (by simp [fd14])]
    simp [fd14, b14, hnode, n1', bagV_zero]
    exact ⟨.nilsl, rfl, .inl .nil⟩
  have n1' : 0 ≤ self := by omega
  by_cases n2 : 8 ≤ self
  · have e : R = ⟨0, 1⟩ := by rw [hR]; simp [ownsQ, n2]
    have n2' : ¬ self < 8 := by omega
    rw [e]
    refine cl_of e14 rfl ?_
    rw [fr_init (by simp [fd14])]
    simp [fd14, b14, hnode, n1', n2', bagV_zero]
    exact ⟨.nilsl, rfl, .inl .nil⟩
  have n2' : self < 8 := by omega
  cases hk : keyOk key
  · have e : R = ⟨0, 1⟩ := by rw [hR]; simp [ownsQ, hk]
    rw [e]
    refine cl_of e14 rfl ?_
    rw [fr_init (by simp [fd14])]
    simp [fd14, b14, hnode, n1', n2', hk, bagV_zero]
    exact ⟨.nilsl, rfl, .inl .nil⟩
  have cp := h.cells
  cases hs : t.has
  · have e : R = ⟨0, 8⟩ := by rw [hR]; simp [ownsQ, n1, n2, hk, hs]
    rw [e]
    refine cl_of e14 rfl ?_
    rw [fr_init (by simp [fd14])]
    simp [fd14, b14, hnode, n1', n2', hk, hs, cp, bagV_zero]
    exact ⟨.nilsl, rfl, .inl .nil⟩
  have oq := h.tgt.one
  have fq : ∀ X, frz (H ++ X) 11 q = some (roL intC t.ring.plan.targets) := fun X => (h.tgt.app (X := X)).frz (d := 9) intC_len int_flat
  have kk := fun H K => k55 (r := t.ring) (p := spotF key) (H := H) (K := K)
  by_cases ho : ownerF t.ring (spotF key) = self
  · have e : R = ⟨self, 0⟩ := by rw [hR]; simp [ownsQ, n1, n2, hk, hs, ho]
    rw [e]
    have h1 := h.app (X := [.cells false (bagV zeroV .nilsl)])
    have hbag := c56 h1 hn key 0 (Nat.zero_le _)
    refine cl_of e14 rfl ?_
    rw [fr_init (by simp [fd14])]
    simp [fd14, b14, hnode, n1', n2', hk, hs, cp, bagV_zero, oq, fq, kk, ho]
    refine WCl.mono hbag ?_
    rintro _ _ ⟨X, q', rfl, rfl, hq⟩
    have o1 := hq.one
    simp [o1]
    refine ⟨q', rfl, ?_⟩
    rcases hq with hq | hq
    · rcases hq with hq | ⟨ne, c, g1, g2, g3⟩
      · exact .inl (.inl hq)
      · refine .inl (.inr ⟨ne, c, g1, g2, ?_⟩)
        rcases Nat.lt_or_ge c H.length with cl | cl
        · rwa [List.getElem?_append_left cl] at g3
        · rw [List.getElem?_append_right cl] at g3
          cases hc : c - H.length with
          | zero => rw [hc] at g3; simp at g3
          | succ k => rw [hc] at g3; simp at g3
    · exact .inr hq
  · have e : R = ⟨ownerF t.ring (spotF key), 10⟩ := by rw [hR]; simp [ownsQ, n1, n2, hk, hs, ho]
    rw [e]
    refine cl_of e14 rfl ?_
    rw [fr_init (by simp [fd14])]
    simp [fd14, b14, hnode, n1', n2', hk, hs, cp, bagV_zero, oq, fq, kk, ho]
    exact ⟨.nilsl, rfl, .inl .nil⟩
structure DeskQ where
  a : Int
  c : Int
  n : Int
  e : Int
  t : RSt
def deskQ (t : RSt) (self : Int) (key : List UInt8) (known : Nat → Int) (data : List UInt8) : DeskQ :=
  if (ownsQ t self key).e ≠ 0 then ⟨0, 0, (ownsQ t self key).n, (ownsQ t self key).e, t⟩
  else if (putQ t self key known data).e ≠ 0 then ⟨0, 0, 0, (putQ t self key known data).e, t⟩
  else ⟨(putQ t self key known data).a, (putQ t self key known data).c, self, 0, { (putQ t self key known data).t with sure := (putQ t self key known data).t.n }⟩
theorem putQ_bad {t : RSt} {node : Int} {key : List UInt8} {known : Nat → Int} {data : List UInt8} (h : (putQ t node key known data).e ≠ 0) : (putQ t node key known data).t = t := by
  unfold putQ at h ⊢
  repeat' split
  all_goals first | rfl | (simp_all; done)
set_option maxHeartbeats 1000000 in
theorem c19 {H : Heap} {b w : Nat} {t : RSt} {rv q pv : AV} {cs : List DCell9} {ps : List PR} (h : RV H b w t rv q pv cs ps) (ok : ROk t) (self : Int) (key : List UInt8) (known : Nat → Int) (data : List UInt8) :
    WCl envE 19 [I self, .ptr (some (w, 0)), .str key, .agg (vecC known), .str data] 0 H fun r H' => r = .tup [.agg [I (deskQ t self key known data).a, I (deskQ t self key known data).c], I (deskQ t self key known data).n, I (deskQ t self key known data).e] ∧ RStep H H' b w (deskQ t self key known data).t := by
  obtain ⟨R, hR⟩ : ∃ R, R = deskQ t self key known data := ⟨_, rfl⟩
  obtain ⟨O, hO⟩ : ∃ O, O = ownsQ t self key := ⟨_, rfl⟩
  have hRd := hR
  unfold deskQ at hRd
  rw [← hO] at hRd
  rw [← hR]
  obtain ⟨H1, hH1⟩ : ∃ H1, H1 = H ++ [.cells false (vecC known), .cells false [I 0, I 0]] := ⟨_, rfl⟩
  have hv1 : RV H1 b w t rv q pv cs ps := by rw [hH1]; exact h.app
  have kp1 : KR H H1 b w := by rw [hH1]; exact .app
  have ck0 : H1[H.length]? = some (.cells false (vecC known)) := by rw [hH1]; simp
  have cr0 : H1[H.length + 1]? = some (.cells false [I 0, I 0]) := by rw [hH1]; simp
  have hst0 : ∀ (H9 : Heap) (x y : Int), H9[H.length + 1]? = some (.cells false [I 0, I 0]) → storeAt 0 H9 2 (.ptr (some (H.length + 1, 0))) (.agg [I x, I y]) = some (H9.set (H.length + 1) (.cells false [I x, I y])) := fun H9 x y hc => by
    have := store_of (lim := 0) (n := 2) (o := 0) (v := .agg [I x, I y]) hc (by omega) (by simp [AV.cells]) (by simp) (by simp [AV.cells])
    simpa [AV.cells] using this
  have nb : H.length + 1 ≠ b := by have := lt_of h.led; omega
  have nw : H.length + 1 ≠ w := by have := lt_of h.box; omega
  have hnode : nodeOk self = (decide (0 ≤ self) && decide (self < 8)) := rfl
  have z0 := hst0 _ 0 0 cr0
  have z1 := cells_of (List.getElem?_set_self (lt_of cr0) (a := ABlk.cells false [I 0, I 0]))
  have bad : RStep H (H1.set (H.length + 1) (.cells false [I 0, I 0])) b w t := ((RStep.refl hv1).after kp1).setF cr0 nb nw (by omega)
  by_cases n1 : self < 0
  · have eo : O = ⟨0, 1⟩ := by rw [hO]; simp [ownsQ, n1]
    rw [eo] at hRd
    simp at hRd
    have n1' : ¬ 0 ≤ self := by omega
    rw [hRd]
    refine cl_of e19 rfl ?_
    rw [fr_init (by simp [fd19])]
    simp [fd19, b19, ← hH1, hnode, n1', z0, z1]
    exact bad
  have n1' : 0 ≤ self := by omega
  by_cases n2 : 8 ≤ self
  · have eo : O = ⟨0, 1⟩ := by rw [hO]; simp [ownsQ, n2]
    rw [eo] at hRd
    simp at hRd
    have n2' : ¬ self < 8 := by omega
    rw [hRd]
    refine cl_of e19 rfl ?_
    rw [fr_init (by simp [fd19])]
    simp [fd19, b19, ← hH1, hnode, n1', n2', z0, z1]
    exact bad
  have n2' : self < 8 := by omega
  cases hk : keyOk key
  · have eo : O = ⟨0, 1⟩ := by rw [hO]; simp [ownsQ, hk]
    rw [eo] at hRd
    simp at hRd
    rw [hRd]
    refine cl_of e19 rfl ?_
    rw [fr_init (by simp [fd19])]
    simp [fd19, b19, ← hH1, hnode, n1', n2', hk, z0, z1]
    exact bad
  have cp := hv1.cells
  have cp0 := hv1.cells0
  cases hs : t.has
  · have eo : O = ⟨0, 8⟩ := by rw [hO]; simp [ownsQ, n1, n2, hk, hs]
    rw [eo] at hRd
    simp at hRd
    rw [hRd]
    refine cl_of e19 rfl ?_
    rw [fr_init (by simp [fd19])]
    simp [fd19, b19, ← hH1, hnode, n1', n2', hk, hs, cp0, z0, z1]
    exact bad
  have oq := hv1.tgt.one
  have fq0 : frz H1 11 q = some (roL intC t.ring.plan.targets) := hv1.tgt.frz (d := 9) intC_len int_flat
  have kk := fun H K => k55 (r := t.ring) (p := spotF key) (H := H) (K := K)
  by_cases ho : ownerF t.ring (spotF key) = self
  case neg =>
    have eo : O = ⟨ownerF t.ring (spotF key), 10⟩ := by rw [hO]; simp [ownsQ, n1, n2, hk, hs, ho]
    rw [eo] at hRd
    simp at hRd
    rw [hRd]
    refine cl_of e19 rfl ?_
    rw [fr_init (by simp [fd19])]
    simp [fd19, b19, ← hH1, hnode, n1', n2', hk, hs, cp0, oq, fq0, kk, ho, z0, z1]
    exact bad
  have eo : O = ⟨self, 0⟩ := by rw [hO]; simp [ownsQ, n1, n2, hk, hs, ho]
  rw [eo] at hRd
  simp at hRd
  have cb8 := cells_of ck0
  refine cl_of e19 rfl ?_
  rw [fr_init (by simp [fd19])]
  simp [fd19, b19, ← hH1, hnode, n1', n2', hk, hs, cp0, oq, fq0, kk, ho, cb8]
  refine WCl.mono (c60 hv1 ok self key known data) ?_
  rintro _ H2 ⟨rfl, hs2⟩
  obtain ⟨P, hP⟩ : ∃ P, P = putQ t self key known data := ⟨_, rfl⟩
  rw [← hP] at hs2 hRd ⊢
  have cr2 := hs2.1.keep _ _ cr0 nb nw (by intro y e; cases e)
  have l2 : H.length ≤ H2.length := Nat.le_trans kp1.1 hs2.1.1
  obtain ⟨k2, rv2, q2, pv2, cs2, ps2, hv3⟩ := hs2
  have cr3 : (H2 ++ [ABlk.cells false [I P.a, I P.c]])[H.length + 1]? = some (.cells false [I 0, I 0]) := get_app cr2
  by_cases hpe : P.e = 0
  case neg =>
    have e : R = ⟨0, 0, 0, P.e, t⟩ := by rw [hRd]; simp [hpe]
    have hs : P.t = t := by rw [hP] at hpe ⊢; exact putQ_bad hpe
    rw [hs] at hv3
    rw [e]
    simp [hpe, hst0 _ 0 0 cr3, cells_of (List.getElem?_set_self (lt_of cr3))]
    exact ((RStep.app hv3).after (kp1.trans k2)).setF cr3 nb nw (by omega)
  have e : R = ⟨P.a, P.c, self, 0, { P.t with sure := P.t.n }⟩ := by rw [hRd]; simp [hpe]
  rw [e]
  have hv4 := hv3.app (X := [.cells false [I P.a, I P.c]])
  have cr4 : (H2 ++ [ABlk.cells false [I P.a, I P.c]])[H2.length]? = some (.cells false [I P.a, I P.c]) := get_new
  have cp3 := hv3.cells
  simp [hpe, cp3]
  refine WCl.mono (c61 hv4) ?_
  rintro _ H5 ⟨hs5, n, rfl⟩
  have cr5 := hs5.1.keep _ _ cr3 nb nw (by intro y e; cases e)
  have n2b : H2.length ≠ b := by have := lt_of hv3.led; omega
  have n2w : H2.length ≠ w := by have := lt_of hv3.box; omega
  have cr6 := hs5.1.keep _ _ cr4 n2b n2w (by intro y e; cases e)
  simp [cells_of cr6, hst0 _ P.a P.c cr5, cells_of (List.getElem?_set_self (lt_of cr5))]
  exact (hs5.after ((kp1.trans k2).trans .app)).setF cr5 nb nw (by omega)

/-! ## A new one -/
def emptyR (cap : Int) : RSt := ⟨0, 0, cap, 0, 0, false, zRingS, []⟩
theorem emptyR_ok {cap : Int} (h0 : 0 ≤ cap) (h1 : cap ≤ 3000) : ROk (emptyR cap) := ⟨h0, h1, by simp [emptyR]; omega, by simp [emptyR], by simp [emptyR], by simp [emptyR], by simp [emptyR]⟩
theorem rf_zero {b : Nat} {cap : Int} : [AV.ptr (some (b, 0)), I 0, I 0, AV.bool false, I 0, I 0, I 0, I 0, I 0, I 0, I 0, I 0, I 0, I 0, AV.nilsl, I 0, I 0, I 0, I 0, I 0, I 0, I 0, I 0, I 0, I 0, I 0, I 0, I 0, I 0, I 0, I 0, I 0, I 0, I 0, I 0, I 0, I 0, I 0, I 0, I 0, I 0, I 0, I 0, I 0, I 0, I 0, I 0, AV.nilsl] = rfC b (emptyR cap) .nilsl .nilsl := hard rfl
theorem c10n (room : Int) (lim : Nat) (H : Heap) : Cl envE 10 [I room] lim H (.ptr (some (H.length, 0))) (H ++ [.cells false [I (max 0 (min room 3000)), I 0, .nilsl]]) := by
  refine cl_is e10 rfl ?_
  rw [fr_init (by simp [fd10])]
  have e : max 0 (min 3000 room) = max 0 (min room 3000) := by rw [Int.min_comm]
  simp [fd10, b10, e]
theorem c12n {H : Heap} {b : Nat} {cap : Int} (h : H[b]? = some (.cells false [I cap, I 0, .nilsl])) :
    WCl envE 12 [.ptr (some (b, 0))] 0 H fun r H' => r = .ptr (some (H.length, 0)) ∧ ∃ X, H' = H ++ X ∧ RV H' b H.length (emptyR cap) .nilsl .nilsl .nilsl [] [] := by
  refine cl_of e12 rfl ?_
  have hbo : (rfC b (emptyR cap) .nilsl .nilsl).all AV.one = true := by simp
  obtain ⟨B, hB⟩ : ∃ B, B = rfC b (emptyR cap) .nilsl .nilsl := ⟨_, rfl⟩
  rw [← hB] at hbo
  have hbo2 : (∀ x : AV, x ∈ B → x.one = true) = True := eq_true (List.all_eq_true.1 hbo)
  have cb := fun Z => cells_of (get_app (X := Z) h)
  rw [fr_init (by simp [fd12])]
  simp [fd12, b12, rf_zero (cap := cap), ← hB, hbo, hbo2, cb]
  refine loop_go [3, 12, 13, 14] rfl (fun m vs H' => H' = H ++ [.cells false B] ∧ vs = [.ptr (some (H.length, 0)), .nilsl, I 0, I 0]) ?_ 0 ⟨rfl, rfl⟩
  rintro J hJ m vs H' f ⟨rfl, rfl⟩
  simp [lp12_0]
  exact ⟨get_app h, .nil, rfl, by simp [hB], .inl .nil, .nil, trivial⟩
end Go.Proofs.YtflgfiieaoeknaaGreatA

/- What the reference's SameDeed answers, and the guards. No statement about the program is proved here. -/
import Derived.Test.YtflgfiieaoeknaaGreatL7
import Derived.Test.YtflgfiieaoeknaaGreatL8
import Derived.Test.YtflgfiieaoeknaaGreatV6
namespace Go.Proofs.YtflgfiieaoeknaaGreatA
open Go
set_option linter.unusedSimpArgs false
set_option linter.unusedVariables false
set_option maxRecDepth 1000000
attribute [local simp] deed_zero

theorem c191 (p q : Plan) (hl : p.targets.length < 4611686018427387904) : ∃ n : Int, Pu envE 191 [.agg (planV p.version p.by' (roL intC p.targets)), .agg (planV q.version q.by' (roL intC q.targets))] (I n) ∧ (n = 0 ↔ planSame p q = true) := by
  suffices h : ∃ d, Pu envE 191 [.agg (planV p.version p.by' (roL intC p.targets)), .agg (planV q.version q.by' (roL intC q.targets))] d ∧ ∃ n : Int, d = I n ∧ (n = 0 ↔ planSame p q = true) by
    obtain ⟨d, h1, n, rfl, h2⟩ := h
    exact ⟨n, h1, h2⟩
  refine pu_ex e191 rfl ?_
  rw [fr_init (by simp [fd191])]
  by_cases h1 : p.version = q.version
  case neg =>
    have e : ¬ cmpI p.version q.version = 0 := fun e => h1 (cmpI_zero.1 e)
    simp [fd191, b191, h1, planSame, e]
  by_cases h2 : p.by' = q.by'
  case neg =>
    have e : ¬ cmpI p.by' q.by' = 0 := fun e => h2 (cmpI_zero.1 e)
    simp [fd191, b191, h1, h2, planSame, e]
  by_cases h3 : p.targets.length = q.targets.length
  case neg =>
    have e : ¬ cmpI (p.targets.length : Int) q.targets.length = 0 := fun e => h3 (by have := cmpI_zero.1 e; omega)
    have h3' : ¬ (p.targets.length : Int) = q.targets.length := by omega
    have h4 : ¬ p.targets = q.targets := fun e => h3 (by rw [e])
    simp [fd191, b191, h1, h2, h3', planSame, e, h4]
  simp [fd191, b191, h1, h2, h3]
  refine loop_go [2, 3, 42, 43] rfl (fun m vs H => ∃ i, m + i = p.targets.length ∧ (∀ j (hj : j < p.targets.length) (hj2 : j < q.targets.length), j < i → p.targets[j] = q.targets[j]) ∧ H = [.cells false (planV p.version p.by' (roL intC p.targets)), .cells false (planV q.version q.by' (roL intC q.targets))] ∧ vs = [.ptr (some (0, 0)), .ptr (some (1, 0)), I p.targets.length, I i]) ?_ p.targets.length ⟨0, rfl, by omega, by simp [h1, h2], by simp [look, h3]⟩
  rintro J hJ m vs H b ⟨i, hm, hall, rfl, rfl⟩
  by_cases hi : i < p.targets.length
  · have hw := wrap_succ (i := i) (by omega)
    have hi2 : i < q.targets.length := by omega
    have l1 := fun H => int_load hi (H := H)
    have l2 := fun H => int_load hi2 (H := H)
    by_cases hq : p.targets[i] = q.targets[i]
    · simp [lp191_0, hi, idxSl_roL hi, idxSl_roL hi2, l1, l2, hq, hw, -load_tp]
      exact nxt hJ (m - 1) (by omega) ⟨i + 1, by omega, fun j hj hj2 hji => by
        rcases Nat.lt_or_ge j i with q' | q'
        · exact hall j hj hj2 q'
        · obtain rfl : j = i := by omega
          exact hq, rfl, rfl⟩
    · have e : ¬ cmpI p.targets[i] q.targets[i] = 0 := fun e => hq (cmpI_zero.1 e)
      have h4 : ¬ p.targets = q.targets := fun e => hq (by congr)
      simp [lp191_0, hi, idxSl_roL hi, idxSl_roL hi2, l1, l2, hq, planSame, e, h4, -load_tp]
  · have h4 : p.targets = q.targets := List.ext_getElem h3 fun j a1 a2 => hall j a1 a2 (by omega)
    have hi3 : ¬ i < q.targets.length := by omega
    simp [lp191_0, hi, planSame, h1, h2, h4, hi3]
theorem c188 (r s : Ring) (hl : r.plan.targets.length < 4611686018427387904) : Pu envE 188 [.agg (ringC r), .agg (ringC s)] (.bool (ringSame r s)) := by
  obtain ⟨n, h1, h2⟩ := c191 r.plan s.plan hl
  have e : (n == 0) = planSame r.plan s.plan := by
    rw [Bool.eq_iff_iff, beq_iff_eq]
    exact h2
  refine pu_is e188 rfl ?_
  rw [fr_init (by simp [fd188])]
  by_cases h3 : vecEq r.status s.status = true
  · by_cases h4 : prtEq r.epoch r.owner s.epoch s.owner = true
    · simp [fd188, b188, h3, h4, wPu_eq h1, e, ringSame]
    · simp [fd188, b188, h3, h4, ringSame]
  · simp [fd188, b188, h3, ringSame]
@[simp] theorem k188 {s1 e1 o1 s2 e2 o2 : Nat → Int} {v1 b1 v2 b2 : Int} {t1 t2 : List Int} {H : Heap} {K : AV → Heap → Prop} (hl : t1.length < 4611686018427387904) : wPu envE 188 (some [.agg (ringV s1 v1 b1 (roL intC t1) e1 o1), .agg (ringV s2 v2 b2 (roL intC t2) e2 o2)]) H K = K (.bool (ringSame ⟨s1, ⟨v1, b1, t1⟩, e1, o1⟩ ⟨s2, ⟨v2, b2, t2⟩, e2, o2⟩)) H := (wPu_eq (c188 ⟨s1, ⟨v1, b1, t1⟩, e1, o1⟩ ⟨s2, ⟨v2, b2, t2⟩, e2, o2⟩ hl)).trans (by simp)
theorem c187 (k k' : Nat → Int) (l r : List Val) (hl : l.length < 4611686018427387904) : Pu envE 187 [.agg (bagV k (roL valC l)), .agg (bagV k' (roL valC r))] (.bool (bagSame k l k' r)) := by
  refine pu_is e187 rfl ?_
  rw [fr_init (by simp [fd187])]
  by_cases h1 : vecEq k k' = true
  case neg => simp [fd187, b187, h1, bagSame]
  by_cases h : l.length = r.length
  case neg =>
    have h' : ¬ (l.length : Int) = r.length := by omega
    have h2 : ¬ l = r := fun e => h (by rw [e])
    simp [fd187, b187, h1, h', h2, bagSame]
  simp [fd187, b187, h1, h]
  refine loop_go [2, 3, 22, 23] rfl (fun m vs H => ∃ i, m + i = l.length ∧ (∀ j (hj : j < l.length), j < i → l[j] = r[j]) ∧ H = [.cells false (bagV k (roL valC l)), .cells false (bagV k' (roL valC r))] ∧ vs = [.ptr (some (0, 0)), .ptr (some (1, 0)), I l.length, I i]) ?_ l.length ⟨0, rfl, by omega, rfl, by simp [look, h]⟩
  rintro J hJ m vs H b ⟨i, hm, hall, rfl, rfl⟩
  by_cases hi : i < l.length
  · have hw := wrap_succ (i := i) (by omega)
    have hi2 : i < r.length := by omega
    have l1 := fun H => valC_load hi (H := H)
    have l2 := fun H => valC_load hi2 (H := H)
    by_cases hq : l[i] = r[i]
    · simp [lp187_0, hi, hw, idxSl_roL hi, idxSl_roL hi2, l1, l2, hq, -load_tp]
      exact nxt hJ (m - 1) (by omega) ⟨i + 1, by omega, fun j hj hji => by
        rcases Nat.lt_or_ge j i with q | q
        · exact hall j hj q
        · obtain rfl : j = i := by omega
          exact hq, rfl, rfl⟩
    · have h3 : ¬ l = r := fun e => hq (by subst e; rfl)
      simp [lp187_0, hi, hw, idxSl_roL hi, idxSl_roL hi2, l1, l2, hq, h3, bagSame, -load_tp]
  · have h3 : l = r := List.ext_getElem h fun j h1 h2 => hall j h1 (by omega)
    have hi3 : ¬ i < r.length := by omega
    simp [lp187_0, hi, h3, hi3, bagSame, h1]
@[simp] theorem k187 {k k' : Nat → Int} {l l' : List Val} {H : Heap} {K : AV → Heap → Prop} (hl : l.length < 4611686018427387904) : wPu envE 187 (some [.agg (bagV k (roL valC l)), .agg (bagV k' (roL valC l'))]) H K = K (.bool (bagSame k l k' l')) H := (wPu_eq (c187 k k' l l' hl)).trans (by simp)
theorem c180 (a b : Deed) (hl : a.bag.vals.length < 4611686018427387904) (hl2 : a.ring.plan.targets.length < 4611686018427387904) : Pu envE 180 [.agg (deedC a), .agg (deedC b)] (.bool (deedSame a b)) := by
  refine pu_is e180 rfl ?_
  rw [fr_init (by simp [fd180])]
  by_cases h1 : a.kind = b.kind
  case neg => simp [fd180, b180, h1, deedSame]
  by_cases h2 : a.n = b.n
  case neg => simp [fd180, b180, h1, h2, deedSame]
  by_cases h3 : a.key = b.key
  case neg => simp [fd180, b180, h1, h2, h3, deedSame]
  by_cases h4 : a.part = b.part
  case neg => simp [fd180, b180, h1, h2, h3, h4, deedSame]
  have h5 : bagSame a.bag.known a.bag.vals b.bag.known b.bag.vals = bagSameB a.bag b.bag := rfl
  by_cases h6 : bagSameB a.bag b.bag = true
  · simp [fd180, b180, h1, h2, h3, h4, hl, hl2, h5, h6, deedSame]
  · simp [fd180, b180, h1, h2, h3, h4, hl, hl2, h5, h6, deedSame]
end Go.Proofs.YtflgfiieaoeknaaGreatA
/- The reference's ledger. No statement about the program is proved here. -/
namespace Go.Proofs.YtflgfiieaoeknaaGreatA
open Go
set_option linter.unusedSimpArgs false
set_option linter.unusedVariables false
set_option maxRecDepth 1000000
attribute [local simp] deed_zero

def zDeedS : Deed := ⟨0, 0, [], zBagS, zRingS, 0⟩
theorem c165 (d : Deed) (hl : d.bag.vals.length < 4611686018427387904) (hl2 : d.ring.plan.targets.length < 4611686018427387904) : Pu envE 165 [.agg (deedC d)] (.bool (deedSame d zDeedS)) := by
  refine pu_is e165 rfl ?_
  rw [fr_init (by simp [fd165])]
  have hs : ∀ H K, wPu envE 180 (some [.agg (deedC d), .agg (deedC zDeedS)]) H K = K (.bool (deedSame d zDeedS)) H := fun H K => (wPu_eq (c180 d zDeedS hl hl2)).trans (by simp)
  have hf1 : ∀ H, mapO (frz H 11) (deedC d) = some (deedC d) := fun H => frz_deed (d := 10) _
  have hf2 : ∀ H, mapO (frz H 11) (deedV 0 0 [] zeroV .nilsl zeroV 0 0 .nilsl zeroV zeroV 0) = some (deedC zDeedS) := fun H => by rw [deedC_eq]; exact deedV_frz (d := 10) rfl rfl
  have hone : (deedC d).all AV.one = true := by rw [deedC_eq, deedV_one]; rfl
  have hlen : (deedC d).length = 56 := by rw [deedC_eq, deedV_len]
  have htake : (deedC d).take 56 = deedC d := List.take_of_length_le (by omega)
  simp [-deedC_eq, fd165, b165, hs, hf1, hf2, hone, hlen, htake]
theorem k165 {d : Deed} {H : Heap} {K : AV → Heap → Prop} (hl : d.bag.vals.length < 4611686018427387904) (hl2 : d.ring.plan.targets.length < 4611686018427387904) : wPu envE 165 (some [.agg (deedC d)]) H K = K (.bool (deedSame d zDeedS)) H := (wPu_eq (c165 d hl hl2)).trans (by simp)
theorem same_z {d : Deed} : deedSame d zDeedS = (decide (d.kind = 0) && (decide (d.n = 0) && (decide (d.key = []) && (decide (d.part = 0) && (bagSameB d.bag zBagS && ringSame d.ring zRingS))))) := rfl
theorem c28v (kd n : Int) (key : List UInt8) (k st ep ow : Nat → Int) (l : List Val) (ver by' part : Int) (t : List Int) (hl : l.length < 4611686018427387904) (hl2 : t.length < 4611686018427387904) (hk : key.length < 4611686018427387904) : Pu envE 134 [.agg (deedV kd n key k (roL valC l) st ver by' (roL intC t) ep ow part)] (.bool (deedMay ⟨kd, n, key, ⟨k, l⟩, ⟨st, ⟨ver, by', t⟩, ep, ow⟩, part⟩)) := by
  have hz : ∀ (kd n : Int) (key : List UInt8) (k st ep ow : Nat → Int) (l : List Val) (ver by' part : Int) (t : List Int) (q r : AV) (H : Heap), frz H 11 q = some (roL valC l) → frz H 11 r = some (roL intC t) → mapO (frz H 11) (deedV kd n key k q st ver by' r ep ow part) = some (deedC ⟨kd, n, key, ⟨k, l⟩, ⟨st, ⟨ver, by', t⟩, ep, ow⟩, part⟩) := fun _ _ _ _ _ _ _ _ _ _ _ _ _ _ _ h1 h2 => by rw [deedC_eq]; exact deedV_frz (d := 10) h1 h2
  have fv : ∀ H, frz H 11 (roL valC l) = some (roL valC l) := fun H => frz_roL
  have ft : ∀ H, frz H 11 (roL intC t) = some (roL intC t) := fun H => frz_roL
  have nv : ∀ H, frz H 11 .nilsl = some (roL valC []) := fun _ => rfl
  have nt : ∀ H, frz H 11 .nilsl = some (roL intC []) := fun _ => rfl
  by_cases hk1 : kd = 1
  · skip
    have z1 := fun H => hz 0 0 key k st ep ow l ver by' part t _ _ H (fv H) (ft H)
    have e : deedMay ⟨kd, n, key, ⟨k, l⟩, ⟨st, ⟨ver, by', t⟩, ep, ow⟩, part⟩ = (decide (0 ≤ n) && (decide (n ≤ 1000000) && deedSame ⟨0, 0, key, ⟨k, l⟩, ⟨st, ⟨ver, by', t⟩, ep, ow⟩, part⟩ zDeedS)) := by
      rw [Bool.eq_iff_iff, same_z]
      simp [hk1, deedMay, namedD, deedSame, withinB, and_assoc, and_comm, and_left_comm]
    rw [hk1] at e
    by_cases h2 : 0 ≤ n
    · by_cases h3 : n ≤ 1000000
      · refine pu_is e134 rfl ?_
        rw [fr_init (by simp [fd134])]
        simp [-deedC_eq, fd134, b134, hk1, z1, k165, hl, hl2, h2, h3, e]
      · refine pu_is e134 rfl ?_
        rw [fr_init (by simp [fd134])]
        simp [-deedC_eq, fd134, b134, hk1, h2, h3, e]
    · refine pu_is e134 rfl ?_
      rw [fr_init (by simp [fd134])]
      simp [-deedC_eq, fd134, b134, hk1, h2, e]
  by_cases hk2 : kd = 2
  · skip
    have z1 := fun H => hz 0 n key k zeroV zeroV zeroV l 0 0 part [] _ _ H (fv H) (nt H)
    have e : deedMay ⟨kd, n, key, ⟨k, l⟩, ⟨st, ⟨ver, by', t⟩, ep, ow⟩, part⟩ = (ringMay ⟨st, ⟨ver, by', t⟩, ep, ow⟩ && deedSame ⟨0, n, key, ⟨k, l⟩, zRingS, part⟩ zDeedS) := by
      rw [Bool.eq_iff_iff, same_z]
      simp [hk2, deedMay, namedD, deedSame, ringSame_refl, and_assoc, and_comm, and_left_comm]
    rw [hk2] at e
    have hr : ∀ H K, wPu envE 25 (some [.agg (ringC ⟨st, ⟨ver, by', t⟩, ep, ow⟩)]) H K = K (.bool (ringMay ⟨st, ⟨ver, by', t⟩, ep, ow⟩)) H := fun H K => (wPu_eq (c25 ⟨st, ⟨ver, by', t⟩, ep, ow⟩ hl2)).trans (by simp)
    simp only [ringC_eq] at hr
    have er : zRingS = ⟨zeroV, ⟨0, 0, []⟩, zeroV, zeroV⟩ := rfl
    cases h3 : ringMay ⟨st, ⟨ver, by', t⟩, ep, ow⟩
    · refine pu_is e134 rfl ?_
      rw [fr_init (by simp [fd134])]
      simp [-deedC_eq, fd134, b134, hk2, hr, h3, e, ring_zero]
    · rw [er] at e
      refine pu_is e134 rfl ?_
      rw [fr_init (by simp [fd134])]
      simp [-deedC_eq, fd134, b134, hk2, hr, h3, z1, k165, hl, e, ring_zero]
  by_cases hk3 : kd = 3
  · skip
    have z1 := fun H => hz 0 0 [] zeroV st ep ow [] ver by' part t _ _ H (nv H) (ft H)
    have e : deedMay ⟨kd, n, key, ⟨k, l⟩, ⟨st, ⟨ver, by', t⟩, ep, ow⟩, part⟩ = (keyOk key && (bagMay k l && (decide (0 ≤ n) && (decide (n ≤ 1000000) && deedSame ⟨0, 0, [], zBagS, ⟨st, ⟨ver, by', t⟩, ep, ow⟩, part⟩ zDeedS)))) := by
      rw [Bool.eq_iff_iff, same_z]
      simp [hk3, deedMay, namedD, deedSame, withinB, bagSame_refl, and_assoc, and_comm, and_left_comm]
    rw [hk3] at e
    have eb : zBagS = ⟨zeroV, []⟩ := rfl
    rw [eb] at e
    cases h4 : keyOk key
    · refine pu_is e134 rfl ?_
      rw [fr_init (by simp [fd134])]
      simp [-deedC_eq, fd134, b134, hk3, h4, e, bagV_zero]
    cases h5 : bagMay k l
    · refine pu_is e134 rfl ?_
      rw [fr_init (by simp [fd134])]
      simp [-deedC_eq, fd134, b134, hk3, h4, h5, k98, hl, e, bagV_zero]
    by_cases h6 : 0 ≤ n
    · by_cases h7 : n ≤ 1000000
      · refine pu_is e134 rfl ?_
        rw [fr_init (by simp [fd134])]
        simp [-deedC_eq, fd134, b134, hk3, h4, h5, h6, h7, k98, hl, hl2, z1, k165, e, bagV_zero]
      · refine pu_is e134 rfl ?_
        rw [fr_init (by simp [fd134])]
        simp [-deedC_eq, fd134, b134, hk3, h4, h5, h6, h7, k98, hl, e, bagV_zero]
    · refine pu_is e134 rfl ?_
      rw [fr_init (by simp [fd134])]
      simp [-deedC_eq, fd134, b134, hk3, h4, h5, h6, k98, hl, e, bagV_zero]
  by_cases hk4 : kd = 4
  · skip
    have z1 := fun H => hz 0 n key k st ep ow l ver by' 0 t _ _ H (fv H) (ft H)
    have e : deedMay ⟨kd, n, key, ⟨k, l⟩, ⟨st, ⟨ver, by', t⟩, ep, ow⟩, part⟩ = (decide (0 ≤ part) && (decide (part < 16) && deedSame ⟨0, n, key, ⟨k, l⟩, ⟨st, ⟨ver, by', t⟩, ep, ow⟩, 0⟩ zDeedS)) := by
      have e23 : (part ≤ 15) = (part < 16) := by apply propext; omega
      rw [Bool.eq_iff_iff, same_z]
      simp [hk4, deedMay, namedD, deedSame, withinB, e23, and_assoc, and_comm, and_left_comm]
    rw [hk4] at e
    by_cases h2 : 0 ≤ part
    · by_cases h3 : part < 16
      · refine pu_is e134 rfl ?_
        rw [fr_init (by simp [fd134])]
        simp [-deedC_eq, fd134, b134, hk4, z1, k165, hl, hl2, h2, h3, e]
      · refine pu_is e134 rfl ?_
        rw [fr_init (by simp [fd134])]
        simp [-deedC_eq, fd134, b134, hk4, h2, h3, e]
    · refine pu_is e134 rfl ?_
      rw [fr_init (by simp [fd134])]
      simp [-deedC_eq, fd134, b134, hk4, h2, e]
  · have e : deedMay ⟨kd, n, key, ⟨k, l⟩, ⟨st, ⟨ver, by', t⟩, ep, ow⟩, part⟩ = false := by simp [deedMay, hk1, hk2, hk3, hk4]
    refine pu_is e134 rfl ?_
    rw [fr_init (by simp [fd134])]
    simp [-deedC_eq, fd134, b134, hk1, hk2, hk3, hk4, e]
theorem c134 (d : Deed) (hl : d.bag.vals.length < 4611686018427387904) (hl2 : d.ring.plan.targets.length < 4611686018427387904) (hk : d.key.length < 4611686018427387904) : Pu envE 134 [.agg (deedC d)] (.bool (deedMay d)) := by
  rw [deedC_eq]
  exact c28v _ _ _ _ _ _ _ _ _ _ _ _ hl hl2 hk
theorem k134 {d : Deed} {H : Heap} {K : AV → Heap → Prop} (hl : d.bag.vals.length < 4611686018427387904) (hl2 : d.ring.plan.targets.length < 4611686018427387904) (hk : d.key.length < 4611686018427387904) : wPu envE 134 (some [.agg (deedC d)]) H K = K (.bool (deedMay d)) H := (wPu_eq (c134 d hl hl2 hk)).trans (by simp)

theorem deedC_take (d : Deed) : (deedC d).take 56 = deedC d := List.take_of_length_le (by rw [deedC_len]; omega)
theorem deedC_flat : Flat deedC := fun _ _ _ => frz_deed _
theorem deedC_frz {H : Heap} {d : Nat} (x : Deed) : mapO (frz H (d + 1)) (deedC x) = some (deedC x) := frz_deed _
end Go.Proofs.YtflgfiieaoeknaaGreatA

/- What May of rings and deeds answers, and copies of deeds. No statement about the program is proved here. -/
import Derived.Test.YtflgfiieaoeknaaGreatL0
namespace Go.Proofs.YtflgfiieaoeknaaGreatA
open Go
set_option linter.unusedSimpArgs false
set_option maxRecDepth 1000000
attribute [local simp] deed_zero

theorem c171 (e o : Int) (lim : Nat) (H : Heap) (p : Nat) (hp : H.cells? p = some [.fn (.func 131) [] []]) : Cl envE 171 [.agg [I e, I o], .ptr (some (p, 0))] lim H (.bool (!entMay e o)) (H ++ [.cells false [I e, I o]]) := by
  refine cl_is e171 rfl ?_
  rw [fr_init (by simp [fd171])]
  have h2 := cells_app (X := [.cells false [I e, I o]]) hp
  simp [fd171, b171, h2]
theorem c184 (lim : Nat) (H : Heap) (b p : Nat) (st ep ow : Nat → Int) (ver by' : Int) (r : AV) (hb : H.cells? b = some (ringV st ver by' r ep ow)) (hp : H.cells? p = some [.fn (.func 131) [] []]) :
    WCl envE 184 [.sl b 11 16 2, .fn (.func 171) [] [.ptr (some (p, 0))]] lim H fun r H' => (∃ X, H' = H ++ X) ∧ ∃ n : Int, r = I n ∧ (decide (0 ≤ n) = !partsMay ep ow) := by
  refine cl_of e184 rfl ?_
  rw [fr_init (by simp [fd184])]
  simp [fd184, b184]
  refine loop_go [0, 1, 7, 8] rfl (fun m vs H' => ∃ i X, m + i = 16 ∧ (∀ j, j < i → entMay (ep j) (ow j) = true) ∧ H' = H ++ X ∧ vs = [.sl b 11 16 2, .fn (.func 171) [] [.ptr (some (p, 0))], I 16, I i]) ?_ 16 ⟨0, [], rfl, by omega, by simp, rfl⟩
  rintro J hJ m vs H' f ⟨i, X, hm, hall, rfl, rfl⟩
  by_cases hi : i < 16
  · have hw := wrap_succ (i := i) (by omega)
    have hi' : (i : Int) < 16 := by omega
    have hb2 := cells_app (X := X) hb
    have hp2 := cells_app (X := X) hp
    have hc := ringV_part (st := st) (ver := ver) (by' := by') (r := r) (ep := ep) (ow := ow) hi
    have hcall : ∀ K, WCl envE 171 [.agg [I (ep i), I (ow i)], .ptr (some (p, 0))] lim (H ++ X) K = K (.bool (!entMay (ep i) (ow i))) (H ++ X ++ [.cells false [I (ep i), I (ow i)]]) := fun K => WCl_eq (c171 _ _ _ _ _ hp2)
    by_cases hn : entMay (ep i) (ow i) = true
    · simp [lp184_0, hi', idxSl_sl hi, hb2, hc, hcall, hn, hw]
      exact nxt hJ (m - 1) (by omega) ⟨i + 1, _, by omega, fun j hji => by
        rcases Nat.lt_or_ge j i with q | q
        · exact hall j q
        · obtain rfl : j = i := by omega
          exact hn, rfl, rfl⟩
    · have e : partsMay ep ow = false := by
        rw [Bool.eq_false_iff]
        intro q
        simp only [partsMay, List.all_eq_true, List.mem_range] at q
        exact hn (q i hi)
      simp [lp184_0, hi', idxSl_sl hi, hb2, hc, hcall, hn, e]
  · have hi' : ¬ (i : Int) < 16 := by omega
    have e : partsMay ep ow = true := by
      simp only [partsMay, List.all_eq_true, List.mem_range]
      exact fun j hj => hall j (by omega)
    simp [lp184_0, hi', e]
theorem c170 (lim : Nat) (H : Heap) (b p : Nat) (st ep ow : Nat → Int) (ver by' : Int) (r : AV) (hb : H.cells? b = some (ringV st ver by' r ep ow)) (hp : H.cells? p = some [.fn (.func 131) [] []]) :
    WCl envE 170 [.sl b 11 16 2, .fn (.func 171) [] [.ptr (some (p, 0))]] lim H fun r H' => (∃ X, H' = H ++ X) ∧ r = .bool (!partsMay ep ow) := by
  refine cl_of e170 rfl ?_
  rw [fr_init (by simp [fd170])]
  simp [fd170, b170]
  refine WCl.mono (c184 _ _ b p st ep ow ver by' r hb hp) ?_
  rintro _ _ ⟨⟨X, rfl⟩, n, rfl, e⟩
  simp [e]
theorem c142 (r : Ring) (hl : r.plan.targets.length < 4611686018427387904) : Pu envE 142 [.agg (ringC r)] (.bool (ringMay r)) := by
  refine pu_is e142 rfl ?_
  rw [fr_init (by simp [fd142])]
  simp [fd142, b142]
  refine loop_go [1, 7, 8] rfl (fun m vs H => ∃ i, m + i = 8 ∧ (∀ j, j < i → 0 ≤ r.status j ∧ r.status j ≤ 4) ∧ H = [.cells false (ringV r.status r.plan.version r.plan.by' (roL intC r.plan.targets) r.epoch r.owner)] ∧ vs = [.ptr (some (0, 0)), .agg (vecC r.status), I i]) ?_ 8 ⟨0, rfl, by omega, rfl, rfl⟩
  rintro J hJ m vs H b ⟨i, hm, hall, rfl, rfl⟩
  have bad : ∀ j, j < 8 → ¬ (0 ≤ r.status j ∧ r.status j ≤ 4) → ringMay r = false := fun j hj q => by
    have : statMay r.status = false := by
      rw [Bool.eq_false_iff]
      intro p
      simp only [statMay, List.all_eq_true, List.mem_range, Bool.and_eq_true, decide_eq_true_eq] at p
      exact q (p j hj)
    simp [ringMay, this]
  by_cases hi : i < 8
  · have hw := wrap_succ (i := i) (by omega)
    have hi' : (i : Int) < 8 := by omega
    by_cases h1 : r.status i < 0
    · simp [lp142_0, hi, hi', h1, bad i hi (by omega)]
    · by_cases h2 : 4 < r.status i
      · simp [lp142_0, hi, hi', h1, h2, bad i hi (by omega)]
      · simp [lp142_0, hi, hi', h1, h2, hw]
        exact nxt hJ (m - 1) (by omega) ⟨i + 1, by omega, fun j hji => by
          rcases Nat.lt_or_ge j i with q | q
          · exact hall j q
          · obtain rfl : j = i := by omega
            omega, rfl, rfl⟩
  · have hi' : ¬ (i : Int) < 8 := by omega
    have hs : statMay r.status = true := by
      simp only [statMay, List.all_eq_true, List.mem_range, Bool.and_eq_true, decide_eq_true_eq]
      exact fun j hj => hall j (by omega)
    by_cases hp : planMay ⟨r.plan.version, r.plan.by', r.plan.targets⟩ = true
    · have hp' : planMay r.plan = true := hp
      simp [lp142_0, hi', hl, hp]
      refine WCl.mono (c170 _ _ 0 1 r.status r.epoch r.owner r.plan.version r.plan.by' (roL intC r.plan.targets) rfl rfl) ?_
      rintro _ _ ⟨⟨X, rfl⟩, rfl⟩
      simp [ringMay, hs, hp']
    · have hp' : planMay r.plan = false := by simpa using hp
      simp [lp142_0, hi', hl, hp, ringMay, hs, hp']
@[simp] theorem k142 {st ep ow : Nat → Int} {v b : Int} {t : List Int} {H : Heap} {K : AV → Heap → Prop} (hl : t.length < 4611686018427387904) : wPu envE 142 (some [.agg (ringV st v b (roL intC t) ep ow)]) H K = K (.bool (ringMay ⟨st, ⟨v, b, t⟩, ep, ow⟩)) H := (wPu_eq (c142 ⟨st, ⟨v, b, t⟩, ep, ow⟩ hl)).trans (by simp)

/-! ## Deeds -/
/-- A deed with what its kind names alone. -/
def namedD (d : Deed) : Deed :=
  if d.kind = 1 then ⟨1, d.n, [], zBagS, zRingS, 0⟩
  else if d.kind = 2 then ⟨2, 0, [], zBagS, d.ring, 0⟩
  else if d.kind = 3 then ⟨3, d.n, d.key, d.bag, zRingS, 0⟩
  else if d.kind = 4 then ⟨4, 0, [], zBagS, zRingS, d.part⟩
  else ⟨0, 0, [], zBagS, zRingS, 0⟩
/-- Its cells; where nothing is named, no row. -/
def namedC (d : Deed) : List AV :=
  if d.kind = 1 then deedV 1 d.n [] zeroV .nilsl zeroV 0 0 .nilsl zeroV zeroV 0
  else if d.kind = 2 then deedV 2 0 [] zeroV .nilsl d.ring.status d.ring.plan.version d.ring.plan.by' (roL intC d.ring.plan.targets) d.ring.epoch d.ring.owner 0
  else if d.kind = 3 then deedV 3 d.n d.key d.bag.known (roL valC d.bag.vals) zeroV 0 0 .nilsl zeroV zeroV 0
  else if d.kind = 4 then deedV 4 0 [] zeroV .nilsl zeroV 0 0 .nilsl zeroV zeroV d.part
  else deedV 0 0 [] zeroV .nilsl zeroV 0 0 .nilsl zeroV zeroV 0
theorem c163 (d : Deed) (lim : Nat) (H : Heap) (hl : lim ≤ H.length) : Cl envE 163 [.agg (deedC d)] lim H (.agg (namedC d)) (H ++ [.cells false (deedC d), .cells false (namedC d)]) := by
  have hl2 : lim ≤ H.length + 1 := by omega
  refine cl_is e163 rfl ?_
  rw [fr_init (by simp [fd163])]
  by_cases h1 : d.kind = 1
  · simp [fd163, b163, h1, namedC, hl, hl2]
  by_cases h2 : d.kind = 2
  · simp [fd163, b163, h2, namedC, hl, hl2]
  by_cases h3 : d.kind = 3
  · simp [fd163, b163, h3, namedC, hl, hl2]
  by_cases h4 : d.kind = 4
  · simp [fd163, b163, h4, namedC, hl, hl2]
  simp [fd163, b163, h1, h2, h3, h4, namedC, hl, hl2]
theorem namedC_frz {d : Deed} {H : Heap} {n : Nat} : mapO (frz H (n + 1)) (namedC d) = some (deedC (namedD d)) := by
  unfold namedC namedD
  have r0 : frz H (n + 1) .nilsl = some (roL intC []) := rfl
  have r1 : frz H (n + 1) .nilsl = some (roL valC []) := rfl
  split
  · rw [deedV_frz r1 r0]; rfl
  · split
    · rw [deedV_frz r1 frz_roL]; rfl
    · split
      · rw [deedV_frz frz_roL r0]; rfl
      · split
        · rw [deedV_frz r1 r0]; rfl
        · rw [deedV_frz r1 r0]; rfl
def deedMay (d : Deed) : Bool :=
  deedSame d (namedD d) && (if d.kind = 1 then withinB d.n 1000000 else if d.kind = 2 then ringMay d.ring else if d.kind = 3 then keyOk d.key && (bagMay d.bag.known d.bag.vals && withinB d.n 1000000) else if d.kind = 4 then withinB d.part 15 else false)
theorem c132 (d : Deed) (hl : d.bag.vals.length < 4611686018427387904) (hl2 : d.ring.plan.targets.length < 4611686018427387904) (hk : d.key.length < 4611686018427387904) : Pu envE 132 [.agg (deedC d)] (.bool (deedMay d)) := by
  refine pu_is e132 rfl ?_
  rw [fr_init (by simp [fd132])]
  have hcall : ∀ lim H K, lim ≤ H.length → WCl envE 163 [.agg (deedC d)] lim H K = K (.agg (namedC d)) (H ++ [.cells false (deedC d), .cells false (namedC d)]) := fun lim H K h => WCl_eq (c163 d lim H h)
  simp only [deedC_eq] at hcall
  have hfz : ∀ H, mapO (frz H 11) (namedC d) = some (deedC (namedD d)) := fun H => namedC_frz (n := 10)
  have hs : ∀ H K, wPu envE 162 (some [.agg (deedC d), .agg (deedC (namedD d))]) H K = K (.bool (deedSame d (namedD d))) H := fun H K => (wPu_eq (c162 d (namedD d) hl hl2)).trans (by simp)
  simp only [deedC_eq] at hs hfz
  have hfd : ∀ H, mapO (frz H 11) (deedV d.kind d.n d.key d.bag.known (roL valC d.bag.vals) d.ring.status d.ring.plan.version d.ring.plan.by' (roL intC d.ring.plan.targets) d.ring.epoch d.ring.owner d.part) = some (deedV d.kind d.n d.key d.bag.known (roL valC d.bag.vals) d.ring.status d.ring.plan.version d.ring.plan.by' (roL intC d.ring.plan.targets) d.ring.epoch d.ring.owner d.part) := fun H => deedV_frz (d := 10) frz_roL frz_roL
  cases hq : deedSame d (namedD d)
  · simp [fd132, b132, hcall, hfz, hfd, hs, hq, deedMay]
  by_cases h1 : d.kind = 1
  · rw [h1] at hcall hfd hs
    simp [fd132, b132, hcall, hfz, hfd, hs, hq, deedMay, h1]
  by_cases h2 : d.kind = 2
  · rw [h2] at hcall hfd hs
    simp [fd132, b132, hcall, hfz, hfd, hs, hq, deedMay, h2, hl2]
  by_cases h3 : d.kind = 3
  · rw [h3] at hcall hfd hs
    have hw : IntKind.i64.wrap ((d.key.length : Int) - 1) = (d.key.length : Int) - 1 := by rw [wrap_i64] <;> omega
    have he : withinB ((d.key.length : Int) - 1) 31 = keyOk d.key := by
      unfold withinB keyOk
      congr 1 <;> exact decide_eq_decide.2 (by omega)
    by_cases h5 : keyOk d.key = true
    · by_cases h6 : bagMay d.bag.known d.bag.vals = true
      · simp [fd132, b132, hcall, hfz, hfd, hs, hq, deedMay, h3, hl, hw, he, h5, h6]
      · simp [fd132, b132, hcall, hfz, hfd, hs, hq, deedMay, h3, hl, hw, he, h5, h6]
    · simp [fd132, b132, hcall, hfz, hfd, hs, hq, deedMay, h3, hl, hw, he, h5]
  by_cases h4 : d.kind = 4
  · rw [h4] at hcall hfd hs
    simp [fd132, b132, hcall, hfz, hfd, hs, hq, deedMay, h4]
  simp [fd132, b132, hcall, hfz, hfd, hs, hq, deedMay, h1, h2, h3, h4]
@[simp] theorem k132 {kd n : Int} {key : List UInt8} {k st ep ow : Nat → Int} {l : List Val} {ver by' part : Int} {t : List Int} {H : Heap} {K : AV → Heap → Prop} (hl : l.length < 4611686018427387904) (hl2 : t.length < 4611686018427387904) (hk : key.length < 4611686018427387904) :
    wPu envE 132 (some [.agg (deedV kd n key k (roL valC l) st ver by' (roL intC t) ep ow part)]) H K = K (.bool (deedMay ⟨kd, n, key, ⟨k, l⟩, ⟨st, ⟨ver, by', t⟩, ep, ow⟩, part⟩)) H :=
  (wPu_eq (c132 ⟨kd, n, key, ⟨k, l⟩, ⟨st, ⟨ver, by', t⟩, ep, ow⟩, part⟩ hl hl2 hk)).trans (by simp)
end Go.Proofs.YtflgfiieaoeknaaGreatA

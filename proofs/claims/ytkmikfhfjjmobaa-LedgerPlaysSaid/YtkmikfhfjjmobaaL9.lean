/- The reference's ledger. No statement about the program is proved here. -/
import Derived.Test.YtkmikfhfjjmobaaL8
namespace Go.Proofs.YtkmikfhfjjmobaaA
open Go
set_option linter.unusedSimpArgs false
set_option linter.unusedVariables false
set_option maxRecDepth 1000000
attribute [local simp] deed_zero

def zDeedS : Deed := ⟨0, 0, [], zBagS, zRingS, 0⟩
theorem c74 (s : List UInt8) : Pu envE 74 [.str s] (.bool (keyOk s)) := by
  refine pu_is e74 rfl ?_
  rw [fr_init (by simp [fd74])]
  by_cases h1 : (1 : Int) ≤ s.length
  · have h1' : 1 ≤ s.length := by omega
    by_cases h2 : (s.length : Int) ≤ 32
    · have h2' : s.length ≤ 32 := by omega
      simp [fd74, b74, h1, h2, h1', h2', keyOk]
    · have h2' : ¬ s.length ≤ 32 := by omega
      simp [fd74, b74, h1, h2, h1', h2', keyOk]
  · have h1' : ¬ 1 ≤ s.length := by omega
    simp [fd74, b74, h1, h1', keyOk]
@[simp] theorem k74 {s : List UInt8} {H : Heap} {K : AV → Heap → Prop} : wPu envE 74 (some [.str s]) H K = K (.bool (keyOk s)) H := (wPu_eq (c74 s)).trans (by simp)
theorem c72 (d : Deed) (hl : d.bag.vals.length < 4611686018427387904) (hl2 : d.ring.plan.targets.length < 4611686018427387904) : Pu envE 72 [.agg (deedC d)] (.bool (deedSame d zDeedS)) := by
  refine pu_is e72 rfl ?_
  rw [fr_init (by simp [fd72])]
  have hs : ∀ H K, wPu envE 30 (some [.agg (deedC d), .agg (deedC zDeedS)]) H K = K (.bool (deedSame d zDeedS)) H := fun H K => (wPu_eq (c30 d zDeedS hl hl2)).trans (by simp)
  have hf1 : ∀ H, mapO (frz H 11) (deedC d) = some (deedC d) := fun H => frz_deed (d := 10) _
  have hf2 : ∀ H, mapO (frz H 11) (deedV 0 0 [] zeroV .nilsl zeroV 0 0 .nilsl zeroV zeroV 0) = some (deedC zDeedS) := fun H => by rw [deedC_eq]; exact deedV_frz (d := 10) rfl rfl
  have hone : (deedC d).all AV.one = true := by rw [deedC_eq, deedV_one]; rfl
  have hlen : (deedC d).length = 56 := by rw [deedC_eq, deedV_len]
  have htake : (deedC d).take 56 = deedC d := List.take_of_length_le (by omega)
  simp [-deedC_eq, fd72, b72, hs, hf1, hf2, hone, hlen, htake]
theorem k72 {d : Deed} {H : Heap} {K : AV → Heap → Prop} (hl : d.bag.vals.length < 4611686018427387904) (hl2 : d.ring.plan.targets.length < 4611686018427387904) : wPu envE 72 (some [.agg (deedC d)]) H K = K (.bool (deedSame d zDeedS)) H := (wPu_eq (c72 d hl hl2)).trans (by simp)
theorem same_z {d : Deed} : deedSame d zDeedS = (decide (d.kind = 0) && (decide (d.n = 0) && (decide (d.key = []) && (decide (d.part = 0) && (bagSameB d.bag zBagS && ringSame d.ring zRingS))))) := rfl
theorem c28v (kd n : Int) (key : List UInt8) (k st ep ow : Nat → Int) (l : List Val) (ver by' part : Int) (t : List Int) (hl : l.length < 4611686018427387904) (hl2 : t.length < 4611686018427387904) (hk : key.length < 4611686018427387904) : Pu envE 28 [.agg (deedV kd n key k (roL valC l) st ver by' (roL intC t) ep ow part)] (.bool (deedMay ⟨kd, n, key, ⟨k, l⟩, ⟨st, ⟨ver, by', t⟩, ep, ow⟩, part⟩)) := by
  have hz : ∀ (kd n : Int) (key : List UInt8) (k st ep ow : Nat → Int) (l : List Val) (ver by' part : Int) (t : List Int) (q r : AV) (H : Heap), frz H 11 q = some (roL valC l) → frz H 11 r = some (roL intC t) → mapO (frz H 11) (deedV kd n key k q st ver by' r ep ow part) = some (deedC ⟨kd, n, key, ⟨k, l⟩, ⟨st, ⟨ver, by', t⟩, ep, ow⟩, part⟩) := fun _ _ _ _ _ _ _ _ _ _ _ _ _ _ _ h1 h2 => by rw [deedC_eq]; exact deedV_frz (d := 10) h1 h2
  have fv : ∀ H, frz H 11 (roL valC l) = some (roL valC l) := fun H => frz_roL
  have ft : ∀ H, frz H 11 (roL intC t) = some (roL intC t) := fun H => frz_roL
  have nv : ∀ H, frz H 11 .nilsl = some (roL valC []) := fun _ => rfl
  have nt : ∀ H, frz H 11 .nilsl = some (roL intC []) := fun _ => rfl
  by_cases hk1 : kd = 1
  · skip
    have z1 := fun H => hz 0 0 key k st ep ow l ver by' part t _ _ H (fv H) (ft H)
    have e : deedMay ⟨kd, n, key, ⟨k, l⟩, ⟨st, ⟨ver, by', t⟩, ep, ow⟩, part⟩ = (decide (0 ≤ n) && (decide (n ≤ 1000000) && deedSame ⟨0, 0, key, ⟨k, l⟩, ⟨st, ⟨ver, by', t⟩, ep, ow⟩, part⟩ zDeedS)) := by
      rw [Bool.eq_iff_iff, same_z]
      simp [hk1, deedMay, namedD, deedSame, withinB, and_assoc, and_comm, and_left_comm]
    rw [hk1] at e
    by_cases h2 : 0 ≤ n
    · by_cases h3 : n ≤ 1000000
      · refine pu_is e28 rfl ?_
        rw [fr_init (by simp [fd28])]
        simp [-deedC_eq, fd28, b28, hk1, z1, k72, hl, hl2, h2, h3, e]
      · refine pu_is e28 rfl ?_
        rw [fr_init (by simp [fd28])]
        simp [-deedC_eq, fd28, b28, hk1, h2, h3, e]
    · refine pu_is e28 rfl ?_
      rw [fr_init (by simp [fd28])]
      simp [-deedC_eq, fd28, b28, hk1, h2, e]
  by_cases hk2 : kd = 2
  · skip
    have z1 := fun H => hz 0 n key k zeroV zeroV zeroV l 0 0 part [] _ _ H (fv H) (nt H)
    have e : deedMay ⟨kd, n, key, ⟨k, l⟩, ⟨st, ⟨ver, by', t⟩, ep, ow⟩, part⟩ = (ringMay ⟨st, ⟨ver, by', t⟩, ep, ow⟩ && deedSame ⟨0, n, key, ⟨k, l⟩, zRingS, part⟩ zDeedS) := by
      rw [Bool.eq_iff_iff, same_z]
      simp [hk2, deedMay, namedD, deedSame, ringSame_refl, and_assoc, and_comm, and_left_comm]
    rw [hk2] at e
    have hr : ∀ H K, wPu envE 73 (some [.agg (ringC ⟨st, ⟨ver, by', t⟩, ep, ow⟩)]) H K = K (.bool (ringMay ⟨st, ⟨ver, by', t⟩, ep, ow⟩)) H := fun H K => (wPu_eq (c73 ⟨st, ⟨ver, by', t⟩, ep, ow⟩ hl2)).trans (by simp)
    simp only [ringC_eq] at hr
    have er : zRingS = ⟨zeroV, ⟨0, 0, []⟩, zeroV, zeroV⟩ := rfl
    cases h3 : ringMay ⟨st, ⟨ver, by', t⟩, ep, ow⟩
    · refine pu_is e28 rfl ?_
      rw [fr_init (by simp [fd28])]
      simp [-deedC_eq, fd28, b28, hk2, hr, h3, e, ring_zero]
    · rw [er] at e
      refine pu_is e28 rfl ?_
      rw [fr_init (by simp [fd28])]
      simp [-deedC_eq, fd28, b28, hk2, hr, h3, z1, k72, hl, e, ring_zero]
  by_cases hk3 : kd = 3
  · skip
    have z1 := fun H => hz 0 0 [] zeroV st ep ow [] ver by' part t _ _ H (nv H) (ft H)
    have e : deedMay ⟨kd, n, key, ⟨k, l⟩, ⟨st, ⟨ver, by', t⟩, ep, ow⟩, part⟩ = (keyOk key && (bagMay k l && (decide (0 ≤ n) && (decide (n ≤ 1000000) && deedSame ⟨0, 0, [], zBagS, ⟨st, ⟨ver, by', t⟩, ep, ow⟩, part⟩ zDeedS)))) := by
      rw [Bool.eq_iff_iff, same_z]
      simp [hk3, deedMay, namedD, deedSame, withinB, bagSame_refl, and_assoc, and_comm, and_left_comm]
    rw [hk3] at e
    have eb : zBagS = ⟨zeroV, []⟩ := rfl
    rw [eb] at e
    cases h4 : keyOk key
    · refine pu_is e28 rfl ?_
      rw [fr_init (by simp [fd28])]
      simp [-deedC_eq, fd28, b28, hk3, h4, e, bagV_zero]
    cases h5 : bagMay k l
    · refine pu_is e28 rfl ?_
      rw [fr_init (by simp [fd28])]
      simp [-deedC_eq, fd28, b28, hk3, h4, h5, k44, hl, e, bagV_zero]
    by_cases h6 : 0 ≤ n
    · by_cases h7 : n ≤ 1000000
      · refine pu_is e28 rfl ?_
        rw [fr_init (by simp [fd28])]
        simp [-deedC_eq, fd28, b28, hk3, h4, h5, h6, h7, k44, hl, hl2, z1, k72, e, bagV_zero]
      · refine pu_is e28 rfl ?_
        rw [fr_init (by simp [fd28])]
        simp [-deedC_eq, fd28, b28, hk3, h4, h5, h6, h7, k44, hl, e, bagV_zero]
    · refine pu_is e28 rfl ?_
      rw [fr_init (by simp [fd28])]
      simp [-deedC_eq, fd28, b28, hk3, h4, h5, h6, k44, hl, e, bagV_zero]
  by_cases hk4 : kd = 4
  · skip
    have z1 := fun H => hz 0 n key k st ep ow l ver by' 0 t _ _ H (fv H) (ft H)
    have e : deedMay ⟨kd, n, key, ⟨k, l⟩, ⟨st, ⟨ver, by', t⟩, ep, ow⟩, part⟩ = (decide (0 ≤ part) && (decide (part < 16) && deedSame ⟨0, n, key, ⟨k, l⟩, ⟨st, ⟨ver, by', t⟩, ep, ow⟩, 0⟩ zDeedS)) := by
      have e15 : (part ≤ 15) = (part < 16) := by apply propext; omega
      rw [Bool.eq_iff_iff, same_z]
      simp [hk4, deedMay, namedD, deedSame, withinB, e15, and_assoc, and_comm, and_left_comm]
    rw [hk4] at e
    by_cases h2 : 0 ≤ part
    · by_cases h3 : part < 16
      · refine pu_is e28 rfl ?_
        rw [fr_init (by simp [fd28])]
        simp [-deedC_eq, fd28, b28, hk4, z1, k72, hl, hl2, h2, h3, e]
      · refine pu_is e28 rfl ?_
        rw [fr_init (by simp [fd28])]
        simp [-deedC_eq, fd28, b28, hk4, h2, h3, e]
    · refine pu_is e28 rfl ?_
      rw [fr_init (by simp [fd28])]
      simp [-deedC_eq, fd28, b28, hk4, h2, e]
  · have e : deedMay ⟨kd, n, key, ⟨k, l⟩, ⟨st, ⟨ver, by', t⟩, ep, ow⟩, part⟩ = false := by simp [deedMay, hk1, hk2, hk3, hk4]
    refine pu_is e28 rfl ?_
    rw [fr_init (by simp [fd28])]
    simp [-deedC_eq, fd28, b28, hk1, hk2, hk3, hk4, e]
theorem c28 (d : Deed) (hl : d.bag.vals.length < 4611686018427387904) (hl2 : d.ring.plan.targets.length < 4611686018427387904) (hk : d.key.length < 4611686018427387904) : Pu envE 28 [.agg (deedC d)] (.bool (deedMay d)) := by
  rw [deedC_eq]
  exact c28v _ _ _ _ _ _ _ _ _ _ _ _ hl hl2 hk
theorem k28 {d : Deed} {H : Heap} {K : AV → Heap → Prop} (hl : d.bag.vals.length < 4611686018427387904) (hl2 : d.ring.plan.targets.length < 4611686018427387904) (hk : d.key.length < 4611686018427387904) : wPu envE 28 (some [.agg (deedC d)]) H K = K (.bool (deedMay d)) H := (wPu_eq (c28 d hl hl2 hk)).trans (by simp)

theorem deedC_take (d : Deed) : (deedC d).take 56 = deedC d := List.take_of_length_le (by rw [deedC_len]; omega)
theorem deedC_flat : Flat deedC := fun _ _ _ => frz_deed _
theorem deedC_frz {H : Heap} {d : Nat} (x : Deed) : mapO (frz H (d + 1)) (deedC x) = some (deedC x) := frz_deed _
/-- The reference's ledger at b. -/
structure RLed (H : Heap) (b : Nat) (v : AV) (ds : List Deed) (sure cap : Int) : Prop where
  at' : H[b]? = some (.cells false [I cap, I sure, v])
  row : Row 0 H 56 deedC ds v
theorem RLed.app {H X : Heap} {b : Nat} {v : AV} {ds : List Deed} {s r : Int} (h : RLed H b v ds s r) : RLed (H ++ X) b v ds s r := ⟨get_app h.at', h.row.app⟩
theorem c26 (room : Int) (lim : Nat) (H : Heap) : Cl envE 26 [I room] lim H (.ptr (some (H.length, 0))) (H ++ [.cells false [I (max 0 (min room 3000)), I 0, .nilsl]]) := by
  refine cl_is e26 rfl ?_
  rw [fr_init (by simp [fd26])]
  have e : max 0 (min 3000 room) = max 0 (min room 3000) := by rw [Int.min_comm]
  simp [fd26, b26, e]
theorem c32 {H : Heap} {b : Nat} {v : AV} {s r : Int} {n : Nat} (hc : H[b]? = some (.cells false [I r, I s, v])) (hv : lenSlAV v = some (.int .i64 n)) : Cl envE 32 [.ptr (some (b, 0))] 0 H (I (IntKind.i64.wrap (n - s))) (H.set b (.cells false [I r, I n, v])) := by
  refine cl_is e32 rfl ?_
  rw [fr_init (by simp [fd32])]
  have h3 := store_of (lim := 0) (n := 1) (o := 1) (v := I n) hc (by omega) (by simp) (by simp) (by simp)
  simp at h3
  simp [fd32, b32, cells_of hc, hv, h3]
theorem subAt_cut {α : Type} {es lim : Nat} {H : Heap} {f : α → List AV} {l : List α} {v : AV} {j : Nat} (hl : ∀ x, (f x).length = es) (h : Row lim H es f l v) (hj : j ≤ l.length) : Go.Proofs.YtkmikfhfjjmobaaA.elems H es (subAt v j) = some (j, (l.take j).flatMap f) := by
  rcases h with ⟨rfl, rfl⟩ | ⟨ne, b, g1, rfl, g3⟩
  · obtain rfl : j = 0 := by simpa using hj
    rfl
  · have hle : j * es ≤ l.length * es := Nat.mul_le_mul_right es hj
    simp only [subAt, Go.Proofs.YtkmikfhfjjmobaaA.elems, if_true, Heap.cells?, g3, Option.bind_some]
    rw [cut_at (by rw [flatMap_len hl]; omega), List.drop_zero, flatMap_take hl]
    rfl
theorem c34 {H : Heap} {b : Nat} {v : AV} {ds : List Deed} {s : Nat} {r : Int} (h : RLed H b v ds s r) (hs : s ≤ ds.length) (few : ds.length ≤ 3000) (stay : Int) :
    WCl envE 34 [.ptr (some (b, 0)), I stay] 0 H fun x H' => x = I ((ds.length - s - stayN stay (ds.length - s) : Nat) : Int) ∧ H.length ≤ H'.length ∧ (∀ (k : Nat) (z : ABlk), H[k]? = some z → k ≠ b → H'[k]? = some z) ∧ ∃ v', RLed H' b v' (ds.take (s + stayN stay (ds.length - s))) ((s + stayN stay (ds.length - s) : Nat) : Int) r ∧ ∀ k, k < H.length → Off v' k := by
  obtain ⟨k, hk⟩ : ∃ k, k = stayN stay (ds.length - s) := ⟨_, rfl⟩
  obtain ⟨q, hq⟩ : ∃ q, q = ds.length - s := ⟨_, rfl⟩
  rw [← hk, ← hq]
  rw [← hq] at hk
  have hkq : (k : Int) = max 0 (min stay q) := by rw [hk, stayN]; omega
  have hkl : k ≤ q := by omega
  obtain ⟨j, hj⟩ : ∃ j, j = s + k := ⟨_, rfl⟩
  have hw1 : IntKind.i64.wrap ((ds.length : Int) - s) = (q : Int) := by rw [wrap_i64] <;> omega
  have hw2 : IntKind.i64.wrap ((s : Int) + k) = (j : Int) := by rw [wrap_i64] <;> omega
  have hw3 : IntKind.i64.wrap ((ds.length : Int) - j) = ((q - k : Nat) : Int) := by rw [wrap_i64] <;> omega
  have e1 : max 0 (min (q : Int) stay) = (k : Int) := by rw [hkq, Int.min_comm]
  have e2 : max 0 (min stay (q : Int)) = (k : Int) := hkq.symm
  refine cl_of e34 rfl ?_
  rw [fr_init (by simp [fd34])]
  have hjl : j ≤ ds.length := by omega
  obtain ⟨g1, g2, g3⟩ := h.row.sub (i := j) (k := .i64) hjl
  have hel := subAt_cut deedC_len h.row hjl
  have htl : (ds.take j).length = j := by rw [List.length_take]; omega
  obtain ⟨v', X, e, hrow, hoff⟩ : ∃ v' X, appendAV 0 H 56 488 .nilsl (subAt v j) = some (v', H ++ X) ∧ Row 0 (H ++ X) 56 deedC (ds.take j) v' ∧ ∀ k, k < H.length → Off v' k := by
    by_cases hj0 : j = 0
    · subst hj0
      refine ⟨.nilsl, [], ?_, by simpa using Row.nil, fun k _ => Off.nil⟩
      simp [appendAV, hel]
    · refine ⟨.sl H.length 0 j 56, [.cells true ((ds.take j).flatMap deedC)], ?_, .inr ⟨fun e => hj0 (by rw [e] at htl; simpa using htl.symm), H.length, Nat.zero_le _, by rw [htl], by simp⟩, fun k hk => Off.sl (by omega)⟩
      have hone : ((ds.take j).flatMap deedC).all AV.one = true := by
        rw [List.all_flatMap]
        exact List.all_eq_true.2 fun x _ => deedC_one x
      simp only [appendAV, hel, Option.bind_some, hj0, if_false]
      rw [if_pos ⟨by simp only [most]; omega, by simp only [most]; omega, by omega, hone⟩]
  have hb := get_app (X := X) h.at'
  have h3 := store_of (lim := 0) (n := 1) (o := 2) (v := v') hb (by omega) (by rw [hrow.cells]; rfl) (by simp) (by rw [hrow.cells]; simp [hrow.one])
  rw [hrow.cells] at h3
  simp at h3
  have hget : ((H ++ X).set b (.cells false [I r, I s, v']))[b]? = some (.cells false [I r, I s, v']) := List.getElem?_set_self (lt_of hb)
  have h4 := store_of (lim := 0) (n := 1) (o := 1) (v := I j) hget (by omega) (by simp) (by simp) (by simp)
  simp at h4
  rw [← hj]
  simp [fd34, b34, cells_of h.at', h.row.len, hw1, hw2, hw3, e1, e2, g1, e, cells_of hb, h3, cells_of hget, h4]
  refine ⟨fun k z hz hkb => get_set (get_app hz) (Ne.symm hkb), v', ⟨?_, hrow.setF hb⟩, hoff⟩
  rw [List.getElem?_set_self (lt_of hb)]
theorem c36 {H : Heap} {b : Nat} {v : AV} {ds : List Deed} {s r : Int} (h : RLed H b v ds s r) (hr1 : r ≤ 3000) (hle : (ds.length : Int) ≤ r) (d : Deed) (hf : deedFits d) (hk : d.key.length < 4611686018427387904) :
    WCl envE 36 [.ptr (some (b, 0)), .agg (deedC d)] 0 H fun x H' => x = I (writeE d ds r) ∧ H.length ≤ H'.length ∧ (∀ (k : Nat) (z : ABlk), H[k]? = some z → k ≠ b → Off v k → H'[k]? = some z) ∧
      (if writeE d ds r = 0 then ∃ v', RLed H' b v' (ds ++ [d]) s r ∧ ∀ k, k < H.length → Off v' k else RLed H' b v ds s r) := by
  have hrb : reachBytes = 140737488351232 := rfl
  obtain ⟨f1, f2⟩ := hf
  have hl1 : d.bag.vals.length < 4611686018427387904 := by omega
  have hl2 : d.ring.plan.targets.length < 4611686018427387904 := by omega
  refine cl_of e36 rfl ?_
  rw [fr_init (by simp [fd36])]
  have hc := get_app (X := [.cells false (deedC d)]) h.at'
  have hone := deedC_one d
  have hone2 : (∀ x : AV, x ∈ deedC d → x.one = true) = True := eq_true (List.all_eq_true.1 hone)
  have hlen := deedC_len d
  have htake := deedC_take d
  have hfd : ∀ X, mapO (frz X 11) (deedC d) = some (deedC d) := fun X => deedC_frz (d := 10) d
  have hmay : ∀ H K, wPu envE 28 (some [.agg (deedC d)]) H K = K (.bool (deedMay d)) H := fun H K => k28 hl1 hl2 hk
  by_cases hm : deedMay d = true
  case neg =>
    simp [-deedC_eq, fd36, b36, hone, hone2, hlen, htake, hfd, hmay, hm, writeE]
    exact ⟨fun k z hz _ _ => get_app hz, h.app⟩
  by_cases hz : r - ds.length = 0
  · have hz' : r ≤ ds.length := by omega
    simp [-deedC_eq, fd36, b36, hone, hone2, hlen, htake, hfd, hmay, hm, hz, hz', writeE, cells_of hc, h.row.len]
    exact ⟨fun k z hz _ _ => get_app hz, h.app⟩
  have hz' : ¬ r ≤ ds.length := by omega
  have hrow := h.row.app (X := [.cells false (deedC d), .cells true (deedC d)])
  have hel : Go.Proofs.YtkmikfhfjjmobaaA.elems (H ++ [.cells false (deedC d), .cells true (deedC d)]) 56 (.sl (H.length + 1) 0 1 56) = some (1, [d].flatMap deedC) := by
    have e : (H ++ [ABlk.cells false (deedC d), .cells true (deedC d)])[H.length + 1]? = some (.cells true (deedC d)) := by simp
    simp only [Go.Proofs.YtkmikfhfjjmobaaA.elems, if_true, Heap.cells?, e, Option.bind_some, Nat.one_mul]
    rw [cut_all hlen]
    simp
  obtain ⟨v', H', ha, hr', hlen', hkeep⟩ := hrow.append (bytes := 488) deedC_len (by omega) deedC_one hel rfl (by simp) (by simp only [most]; omega) (by simp only [most]; omega)
  have hr2 := hr' (Nat.zero_le _)
  have hoffb : Off v b := by
    rintro o n s rfl
    rcases h.row with ⟨_, q⟩ | ⟨_, b', _, q, q2⟩
    · cases q
    · cases q
      rw [h.at'] at q2
      cases q2
  have hb' : H'[b]? = some (.cells false [I r, I s, v]) := hkeep b _ (get_app h.at') hoffb
  have hst := store_of (lim := 0) (n := 1) (o := 2) (v := v') hb' (by omega) (by rw [hr2.cells]; rfl) (by simp) (by rw [hr2.cells]; simp [hr2.one])
  rw [hr2.cells] at hst
  simp at hst
  have hwr : writeE d ds r = 0 := by simp [writeE, hm, hz]
  have hoff' : ∀ k, k < H.length → Off v' k := by
    intro k hk2 o n s' e
    subst e
    rcases hrow with ⟨rfl, rfl⟩ | ⟨ne, c, g1, rfl, g3⟩
    · simp only [appendAV, hel, Option.bind_some, Nat.one_ne_zero, if_false] at ha
      split at ha
      · simp only [Option.some.injEq, Prod.mk.injEq, AV.sl.injEq] at ha
        have := ha.1.1
        simp at this
        omega
      · cases ha
    · simp only [appendAV, hel, Option.bind_some, Nat.one_ne_zero, if_false, g3] at ha
      split at ha
      · simp only [Option.map_eq_some_iff, Prod.mk.injEq, AV.sl.injEq] at ha
        obtain ⟨_, _, h1, _⟩ := ha
        have := h1.1
        simp at this
        omega
      · cases ha
  simp [-deedC_eq] at ha hlen'
  simp [-deedC_eq, fd36, b36, hone, hone2, hlen, htake, hfd, hmay, hm, hz, hz', hwr, cells_of hc, h.row.len, ha, hlen', hst]
  refine ⟨by omega, fun k z hkz hkb hko => get_set (hkeep k z (get_app hkz) hko) (Ne.symm hkb), v', ⟨?_, hr2.setF hb'⟩, hoff'⟩
  rw [List.getElem?_set_self (lt_of hb')]
end Go.Proofs.YtkmikfhfjjmobaaA

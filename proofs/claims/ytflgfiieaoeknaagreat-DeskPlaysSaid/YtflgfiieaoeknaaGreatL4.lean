/- Ledgers in memory: what New, Len, Sure, Room, Sync, Write, Crash and All do. No statement about the program is proved here. -/
import Derived.Test.YtflgfiieaoeknaaGreatL3
namespace Go.Proofs.YtflgfiieaoeknaaGreatA
open Go
set_option linter.unusedSimpArgs false
set_option linter.unusedVariables false
set_option maxRecDepth 1000000
attribute [local simp] deed_zero

@[simp] theorem eqNil_nn {α : Type} : eqNil (none : Option α) none = some true := rfl
@[simp] theorem eqNil_sn {α : Type} {a : α} : eqNil (some a) none = some false := rfl
@[simp] theorem eqNil_ns {α : Type} {a : α} : eqNil none (some a) = some false := rfl

/-- A ledger at b: its row v is the deeds ds. -/
structure Led (lo : Nat) (H : Heap) (b : Nat) (v : AV) (ds : List Deed) (sure room : Int) : Prop where
  at' : H[b]? = some (.cells false [v, I sure, I room])
  row : DRow lo H ds v
  few : ds.length ≤ 3000
theorem Led.app {lo : Nat} {H X : Heap} {b : Nat} {v : AV} {ds : List Deed} {s r : Int} (h : Led lo H b v ds s r) : Led lo (H ++ X) b v ds s r := ⟨get_app h.at', h.row.app, h.few⟩
theorem c9n (room : Int) (lim : Nat) (H : Heap) : Cl envE 9 [I room] lim H (.ptr (some (H.length, 0))) (H ++ [.cells false [.nilsl, I 0, I (max 0 (min room 3000))]]) := by
  refine cl_is e9 rfl ?_
  rw [fr_init (by simp [fd9])]
  have e : max 0 (min 3000 room) = max 0 (min room 3000) := by rw [Int.min_comm]
  simp [fd9, b9, e]
theorem c21 {H : Heap} {b : Nat} {v : AV} {s r : Int} {n : Nat} (hc : H[b]? = some (.cells false [v, I s, I r])) (hv : lenSlAV v = some (.int .i64 n)) (lim : Nat) : Cl envE 21 [.ptr (some (b, 0))] lim H (I n) H := by
  refine cl_is e21 rfl ?_
  rw [fr_init (by simp [fd21])]
  simp [fd21, b21, cells_of hc, hv]
theorem c20 {H : Heap} {b : Nat} {v : AV} {s r : Int} (hc : H[b]? = some (.cells false [v, I s, I r])) (lim : Nat) : Cl envE 20 [.ptr (some (b, 0))] lim H (I s) H := by
  refine cl_is e20 rfl ?_
  rw [fr_init (by simp [fd20])]
  simp [fd20, b20, cells_of hc]
theorem c133 {H : Heap} {b : Nat} {v : AV} {s r : Int} {n : Nat} (hc : H[b]? = some (.cells false [v, I s, I r])) (hv : lenSlAV v = some (.int .i64 n)) (lim : Nat) (hlim : lim ≤ H.length) : Cl envE 133 [.ptr (some (b, 0))] lim H (I (IntKind.i64.wrap (r - n))) H := by
  refine cl_is e133 rfl ?_
  rw [fr_init (by simp [fd133])]
  simp [fd133, b133, cells_of hc, hv, hlim]
theorem c76 {H : Heap} {b : Nat} {v : AV} {s r : Int} {n : Nat} (hc : H[b]? = some (.cells false [v, I s, I r])) (hv : lenSlAV v = some (.int .i64 n)) : Cl envE 76 [.ptr (some (b, 0))] 0 H (I (IntKind.i64.wrap (n - s))) (H.set b (.cells false [v, I n, I r])) := by
  refine cl_is e76 rfl ?_
  rw [fr_init (by simp [fd76])]
  have h1 : ∀ K, WCl envE 21 [.ptr (some (b, 0))] 0 H K = K (I n) H := fun K => WCl_eq (c21 hc hv 0)
  have h2 : ∀ K, WCl envE 20 [.ptr (some (b, 0))] 0 H K = K (I s) H := fun K => WCl_eq (c20 hc 0)
  have h3 := store_of (lim := 0) (n := 1) (o := 1) (v := I n) hc (by omega) (by simp) (by simp) (by simp)
  simp at h3
  simp [fd76, b76, h1, h2, cells_of hc, hv, h3]
/-- How many of so many loose deeds stay. -/
def stayN (stay : Int) (loose : Nat) : Nat := (max 0 (min stay loose)).toNat
theorem c30 {lo : Nat} {H : Heap} {b : Nat} {v : AV} {ds : List Deed} {s : Nat} {r : Int} (h : Led lo H b v ds s r) (hs : s ≤ ds.length) (stay : Int) :
    Cl envE 30 [.ptr (some (b, 0)), I stay] 0 H (I ((ds.length - s - stayN stay (ds.length - s) : Nat) : Int)) (H.set b (.cells false [subAt v (s + stayN stay (ds.length - s)), I ((s + stayN stay (ds.length - s) : Nat) : Int), I r])) := by
  have few := h.few
  obtain ⟨k, hk⟩ : ∃ k, k = stayN stay (ds.length - s) := ⟨_, rfl⟩
  obtain ⟨q, hq⟩ : ∃ q, q = ds.length - s := ⟨_, rfl⟩
  rw [← hk, ← hq]
  rw [← hq] at hk
  have hkq : (k : Int) = max 0 (min stay q) := by rw [hk, stayN]; omega
  have hkl : k ≤ q := by omega
  obtain ⟨j, hj⟩ : ∃ j, j = s + k := ⟨_, rfl⟩
  have hw1 : IntKind.i64.wrap ((ds.length : Int) - s) = (q : Int) := by rw [wrap_i64] <;> omega
  have hw2 : IntKind.i64.wrap ((s : Int) + k) = (j : Int) := by rw [wrap_i64] <;> omega
  have hw3 : IntKind.i64.wrap ((q : Int) - k) = ((q - k : Nat) : Int) := by rw [wrap_i64] <;> omega
  have e1 : max 0 (min (q : Int) stay) = (k : Int) := by rw [hkq, Int.min_comm]
  have e2 : max 0 (min stay (q : Int)) = (k : Int) := hkq.symm
  refine cl_is e30 rfl ?_
  rw [fr_init (by simp [fd30])]
  have h3 := store_of (lim := 0) (n := 1) (o := 1) (v := I j) h.at' (by omega) (by simp) (by simp) (by simp)
  simp at h3
  have hget : (H.set b (.cells false [v, I j, I r]))[b]? = some (.cells false [v, I j, I r]) := List.getElem?_set_self (lt_of h.at')
  obtain ⟨g1, g2, g3⟩ := h.row.cutv (j := j) (k := .i64) (by omega)
  have h4 := store_of (lim := 0) (n := 1) (o := 0) (v := subAt v j) hget (by omega) (by rw [g2.cells]; rfl) (by simp) (by rw [g2.cells]; simp [g2.one])
  rw [g2.cells] at h4
  simp at h4
  rw [← hj]
  simp [fd30, b30, cells_of h.at', h.row.len, hw1, hw2, hw3, e1, e2, h3, cells_of hget, g1, h4]
/-- What Write answers. -/
def writeE (d : Deed) (ds : List Deed) (room : Int) : Int := if deedMay d then (if room - ds.length = 0 then 5 else 0) else 1
theorem c95 {lo : Nat} {H : Heap} {b : Nat} {v : AV} {ds : List Deed} {s r : Int} (h : Led lo H b v ds s r) (hlo : lo ≤ H.length) (hr0 : 0 ≤ r) (hr1 : r ≤ 3000) (hle : (ds.length : Int) ≤ r) (d : Deed) (q1 q2 : AV) (hf : deedFits d) (hk : d.key.length < 4611686018427387904)
    (hq1 : ∀ X, frz (H ++ X) 11 q1 = some (roL valC d.bag.vals)) (hq2 : ∀ X, frz (H ++ X) 11 q2 = some (roL intC d.ring.plan.targets)) (ho1 : AV.one q1 = true) (ho2 : AV.one q2 = true) :
    WCl envE 95 [.ptr (some (b, 0)), .agg (deedM d q1 q2)] 0 H fun x H' => x = I (writeE d ds r) ∧ H.length ≤ H'.length ∧ (∀ (k : Nat) (z : ABlk), H[k]? = some z → k ≠ b → Off v k → H'[k]? = some z) ∧
      (if writeE d ds r = 0 then ∃ v', Led lo H' b v' (ds ++ [d]) s r ∧ ∀ k, k < H.length → Off v' k else Led lo H' b v ds s r) := by
  have hr : reachBytes = 140737488351232 := rfl
  obtain ⟨f1, f2⟩ := hf
  have hl1 : d.bag.vals.length < 4611686018427387904 := by omega
  have hl2 : d.ring.plan.targets.length < 4611686018427387904 := by omega
  refine cl_of e95 rfl ?_
  rw [fr_init (by simp [fd95])]
  obtain ⟨H1, hH1⟩ : ∃ H1, H1 = H ++ [.cells false (deedM d q1 q2)] := ⟨_, rfl⟩
  have hc := get_app (X := [.cells false (deedM d q1 q2)]) h.at'
  have hone : (deedM d q1 q2).all AV.one = true := deedM_one ho1 ho2
  have hlen : (deedM d q1 q2).length = 56 := deedM_len
  have htake : (deedM d q1 q2).take 56 = deedM d q1 q2 := List.take_of_length_le (by rw [deedM_len]; omega)
  have hfd : ∀ X, mapO (frz (H ++ X) 11) (deedM d q1 q2) = some (deedC d) := fun X => by
    rw [show deedM d q1 q2 = _ from rfl, deedM, deedV_frz (d := 10) (hq1 X) (hq2 X)]
    rfl
  have hmay : ∀ H K, wPu envE 132 (some [.agg (deedC d)]) H K = K (.bool (deedMay d)) H := fun H K => (wPu_eq (c132 d hl1 hl2 hk)).trans (by simp)
  have hroom : ∀ K, WCl envE 133 [.ptr (some (b, 0))] 0 H1 K = K (I (IntKind.i64.wrap (r - ds.length))) H1 := fun K => by rw [hH1]; exact WCl_eq (c133 hc h.row.len 0 (by omega))
  have hw : IntKind.i64.wrap (r - ds.length) = r - ds.length := by rw [wrap_i64] <;> omega
  rw [hw] at hroom
  rw [hH1] at hroom
  by_cases hm : deedMay d = true
  case neg =>
    simp [-deedC_eq, fd95, b95, hone, hlen, htake, hfd, hmay, hm, writeE]
    exact ⟨fun k z hz _ _ => get_app hz, h.app⟩
  by_cases hz : r - ds.length = 0
  · simp [-deedC_eq, fd95, b95, hone, hlen, htake, hfd, hmay, hm, hroom, hz, writeE]
    exact ⟨fun k z hz _ _ => get_app hz, h.app⟩
  have e91 : ∀ H K, wPu envE 91 (some [.agg (deedC d)]) H K = K (thaw (.agg (deedO d)) H).1 (thaw (.agg (deedO d)) H).2 := fun H K => wPu_eq (c91 d ⟨f1, f2⟩)
  obtain ⟨v1, X1, t1, r1⟩ := thaw_owL (H := H1) (lim := H1.length) (es := 3) val_still (Nat.le_refl _) d.bag.vals
  obtain ⟨v2, X2, t2, r2⟩ := thaw_owL (H := H1 ++ X1) (lim := H1.length) (es := 1) int_still (by simp) d.ring.plan.targets
  have ht : thaw (.agg (deedO d)) H1 = (.agg (deedM d v1 v2), H1 ++ (X1 ++ X2)) := by
    simp only [thaw_agg, deedO, deedV_thaws, t1, t2, List.append_assoc]
    rfl
  obtain ⟨H2, hH2⟩ : ∃ H2, H2 = H1 ++ (X1 ++ X2) ++ [ABlk.cells true (deedM d v1 v2)] := ⟨_, rfl⟩
  have p1 : Row H1.length H2 3 valC d.bag.vals v1 := by
    have := (r1.app (X := X2)).app (X := [ABlk.cells true (deedM d v1 v2)])
    rw [hH2, ← List.append_assoc H1]
    exact this
  have p2 : Row H1.length H2 1 intC d.ring.plan.targets v2 := by
    have := r2.app (X := [ABlk.cells true (deedM d v1 v2)])
    rw [hH2, ← List.append_assoc H1]
    exact this
  have hge : lo ≤ H1.length := by rw [hH1]; simp; omega
  have hrow : DRow lo H2 ds v := by
    rw [hH2, hH1, List.append_assoc, List.append_assoc]
    exact h.row.app
  have hkk : H2[(H1 ++ (X1 ++ X2)).length]? = some (.cells true (deedM d v1 v2)) := by rw [hH2]; exact get_new
  obtain ⟨v', H', ha, hd, hlen', hkeep, hoff, _⟩ := hrow.push (lim2 := 0) hkk (p1.mono hge) (p2.mono hge) (fun c hc => by
    have : c < H.length := by
      rcases Nat.lt_or_ge c H.length with q | q
      · exact q
      · exact absurd (h.row.off_ge q) hc
    have : c < H1.length := by rw [hH1]; simp; omega
    exact ⟨p1.off this, p2.off this⟩) (by rw [hH2]; simp; omega) (by have := h.few; simp only [most]; omega) (Nat.zero_le _)
  have hbl := lt_of h.at'
  have hH : ∀ (k : Nat) (z : ABlk), H[k]? = some z → Off v k → H'[k]? = some z := fun k z hz ho => hkeep k z (by rw [hH2, hH1, List.append_assoc, List.append_assoc]; exact get_app hz) ho
  have hb' := hH b _ h.at' (h.row.off h.at')
  have hst := store_of (lim := 0) (n := 1) (o := 0) (v := v') hb' (by omega) (by rw [hd.cells]; rfl) (by simp) (by rw [hd.cells]; simp [hd.one])
  rw [hd.cells] at hst
  simp at hst
  have hone2 : (deedM d v1 v2).all AV.one = true := deedM_one r1.one r2.one
  have hone3 : (∀ x : AV, x ∈ deedM d v1 v2 → x.one = true) = True := eq_true (List.all_eq_true.1 hone2)
  have hlen2 : (deedM d v1 v2).length = 56 := deedM_len
  have hover : ∀ l : List AV, l.length = 56 → setFrom l 0 (deedM d v1 v2) = deedM d v1 v2 := fun l hl => setFrom_all _ _ (by rw [hl, deedM_len])
  have hts : thaws (deedO d) (H ++ [.cells false (deedM d q1 q2)]) = (deedM d v1 v2, H ++ .cells false (deedM d q1 q2) :: (X1 ++ X2)) := by
    have := ht
    rw [hH1] at this
    simp only [thaw_agg, Prod.mk.injEq, AV.agg.injEq] at this
    rw [Prod.ext_iff]
    exact ⟨this.1, by rw [this.2]; simp⟩
  subst hH2
  subst hH1
  simp at ha hlen'
  have hwr : writeE d ds r = 0 := by simp [writeE, hm, hz]
  simp [-deedC_eq, fd95, b95, hone, hlen, htake, hfd, hmay, hm, hroom, hz, cells_of hc, e91, hts, hone2, hone3, hlen2, hover, ha, hlen', hst, hwr]
  refine ⟨by omega, fun k z hkz hkb hko => get_set (hH k z hkz hko) (Ne.symm hkb), v', ⟨List.getElem?_set_self (lt_of hb'), hd.setF hb', ?_⟩, fun k hk2 => hoff k (by simp; omega)⟩
  simp
  omega
theorem c50 {lo : Nat} {H : Heap} {b : Nat} {v : AV} {ds : List Deed} {s r : Int} (h : Led lo H b v ds s r) (hf : ∀ d ∈ ds, deedFits d) (lim : Nat) (hlim : lim ≤ H.length) :
    WCl envE 50 [.ptr (some (b, 0))] lim H fun x H' => ∃ X, H' = H ++ X ∧ DRow H.length (H ++ X) ds x := by
  refine cl_of e50 rfl ?_
  rw [fr_init (by simp [fd50])]
  simp [fd50, b50, cells_of h.at', h.row.len]
  refine loop_go [3, 11, 12, 13] rfl (fun m vs H' => ∃ i X w, m + i = ds.length ∧ H' = H ++ X ∧ DRow H.length (H ++ X) (ds.take i) w ∧ vs = [w, v, I ds.length, I i]) ?_ ds.length ⟨0, [], .nilsl, rfl, by simp, .nil, rfl⟩
  rintro J hJ m vs H' f ⟨i, X, w, hm, rfl, hw, rfl⟩
  have few := h.few
  by_cases hi : i < ds.length
  · have hws := wrap_succ (i := i) (by omega)
    obtain ⟨q1, q2, hld, s1, s2⟩ := (h.row.app (X := X)).load hi
    obtain ⟨d, hd⟩ : ∃ d, d = ds[i] := ⟨_, rfl⟩
    have hfd := hf ds[i] (List.getElem_mem _)
    rw [← hd] at hld s1 s2 hfd
    have hone : (deedM d q1 q2).all AV.one = true := deedM_one s1.one s2.one
    have hlen : (deedM d q1 q2).length = 56 := deedM_len
    have htake : (deedM d q1 q2).take 56 = deedM d q1 q2 := List.take_of_length_le (by rw [deedM_len]; omega)
    have hover1 : ∀ l : List AV, l.length = 56 → setFrom l 0 (deedM d q1 q2) = deedM d q1 q2 := fun l hl => setFrom_all _ _ (by rw [hl, deedM_len])
    have hfz : ∀ Y, mapO (frz (H ++ (X ++ Y)) 11) (deedM d q1 q2) = some (deedC d) := fun Y => by
      have a1 := (s1.app (X := Y)).frz (d := 9) valC_len val_flat
      have a2 := (s2.app (X := Y)).frz (d := 9) intC_len int_flat
      rw [List.append_assoc] at a1 a2
      rw [show deedM d q1 q2 = _ from rfl, deedM, deedV_frz (d := 10) a1 a2]
      rfl
    have e91 : ∀ H K, wPu envE 91 (some [.agg (deedC d)]) H K = K (thaw (.agg (deedO d)) H).1 (thaw (.agg (deedO d)) H).2 := fun H K => wPu_eq (c91 d hfd)
    obtain ⟨H1, hH1⟩ : ∃ H1, H1 = H ++ X ++ [.cells false (deedM d q1 q2)] := ⟨_, rfl⟩
    obtain ⟨v1, X1, t1, r1⟩ := thaw_owL (H := H1) (lim := H1.length) (es := 3) val_still (Nat.le_refl _) d.bag.vals
    obtain ⟨v2, X2, t2, r2⟩ := thaw_owL (H := H1 ++ X1) (lim := H1.length) (es := 1) int_still (by simp) d.ring.plan.targets
    obtain ⟨H2, hH2⟩ : ∃ H2, H2 = H1 ++ (X1 ++ X2) ++ [ABlk.cells true (deedM d v1 v2)] := ⟨_, rfl⟩
    have p1 : Row H1.length H2 3 valC d.bag.vals v1 := by
      have := (r1.app (X := X2)).app (X := [ABlk.cells true (deedM d v1 v2)])
      rw [hH2, ← List.append_assoc H1]
      exact this
    have p2 : Row H1.length H2 1 intC d.ring.plan.targets v2 := by
      have := r2.app (X := [ABlk.cells true (deedM d v1 v2)])
      rw [hH2, ← List.append_assoc H1]
      exact this
    have hge : H.length ≤ H1.length := by rw [hH1]; simp
    have hrow : DRow H.length H2 (ds.take i) w := by
      rw [hH2, hH1, List.append_assoc, List.append_assoc]
      exact hw.app
    have hkk : H2[(H1 ++ (X1 ++ X2)).length]? = some (.cells true (deedM d v1 v2)) := by rw [hH2]; exact get_new
    obtain ⟨v', H', ha, hd2, hlen', hkeep, hoff, hP⟩ := hrow.push hkk (p1.mono hge) (p2.mono hge) (fun c hc => by
      have : c < (H ++ X).length := by
        rcases Nat.lt_or_ge c (H ++ X).length with q | q
        · exact q
        · exact absurd (hw.off_ge q) hc
      have : c < H1.length := by rw [hH1]; simp at this ⊢; omega
      exact ⟨p1.off this, p2.off this⟩) (by rw [hH2]; simp; omega) (by rw [List.length_take, Nat.min_eq_left (Nat.le_of_lt hi)]; simp only [most]; omega) hlim
    obtain ⟨Y', rfl⟩ := hP H (X ++ [.cells false (deedM d q1 q2)] ++ (X1 ++ X2) ++ [ABlk.cells true (deedM d v1 v2)]) (by rw [hH2, hH1]; simp) (fun c hc => hw.off_lt hc)
    have hone2 : (deedM d v1 v2).all AV.one = true := deedM_one r1.one r2.one
    have hone3 : (∀ x : AV, x ∈ deedM d v1 v2 → x.one = true) = True := eq_true (List.all_eq_true.1 hone2)
    have hlen2 : (deedM d v1 v2).length = 56 := deedM_len
    have hover : ∀ l : List AV, l.length = 56 → setFrom l 0 (deedM d v1 v2) = deedM d v1 v2 := fun l hl => setFrom_all _ _ (by rw [hl, deedM_len])
    have hts : thaws (deedO d) (H ++ (X ++ [.cells false (deedM d q1 q2)])) = (deedM d v1 v2, H ++ (X ++ .cells false (deedM d q1 q2) :: (X1 ++ X2))) := by
      have := hH1 ▸ t1
      have t2' := hH1 ▸ t2
      rw [← List.append_assoc, deedO, deedV_thaws, this]
      simp only [t2']
      rw [Prod.ext_iff]
      exact ⟨rfl, by simp⟩
    subst hH2
    subst hH1
    simp at ha hlen'
    have hstep : ds.take (i + 1) = ds.take i ++ [d] := by rw [List.take_succ_eq_append_getElem hi, hd]
    simp [-deedC_eq, lp50_0, hlim, hi, hws, h.row.at hi, hld, hone, hlen, htake, hover1, hfz, e91, hts, hone2, hone3, hlen2, hover, ha]
    refine nxt hJ (m - 1) (by omega) ⟨i + 1, Y', v', by omega, rfl, ?_, rfl⟩
    rw [hstep]
    exact hd2
  · have e : ds.take i = ds := List.take_of_length_le (by omega)
    rw [e] at hw
    simp [lp50_0, hi]
    exact hw
end Go.Proofs.YtflgfiieaoeknaaGreatA

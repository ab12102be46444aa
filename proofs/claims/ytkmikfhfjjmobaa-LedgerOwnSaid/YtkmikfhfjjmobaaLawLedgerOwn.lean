/- 'starlinglaw17.LedgerOwn' returns true for every deed and every number, and the deed reads behind it as it read before: what was written, and what is told, may be spoilt: what lasts is not. Without further conditions. -/
import Derived.Test.YtkmikfhfjjmobaaRows
import Derived.Test.YtkmikfhfjjmobaaL6
import Derived.WalkKit
import Derived.ProofKit
import Derived.ChangeOld
namespace Go.Proofs.YtkmikfhfjjmobaaA
open Go
set_option linter.unusedSimpArgs false
set_option linter.unusedVariables false
set_option maxRecDepth 1000000
attribute [local simp] deed_zero

/-- A row of ours, whatever it holds. -/
def Raw (H : Heap) (n es : Nat) (w : AV) : Prop := (n = 0 ∧ w = .nilsl) ∨ ∃ b cs, w = .sl b 0 n es ∧ H[b]? = some (.cells true cs) ∧ cs.length = n * es
theorem Row.raw {α : Type} {lim es : Nat} {f : α → List AV} {l : List α} {H : Heap} {v : AV} (hl : ∀ x, (f x).length = es) (h : Row lim H es f l v) : Raw H l.length es v := by
  rcases h with ⟨rfl, rfl⟩ | ⟨ne, b, g1, rfl, g3⟩
  · exact .inl ⟨rfl, rfl⟩
  · exact .inr ⟨b, _, rfl, g3, flatMap_len hl l⟩
theorem Raw.len {H : Heap} {n es : Nat} {w : AV} (h : Raw H n es w) : lenSlAV w = some (.int .i64 n) := by
  rcases h with ⟨rfl, rfl⟩ | ⟨b, cs, rfl, _, _⟩ <;> rfl
theorem Raw.keep {H H' : Heap} {n es : Nat} {w : AV} (h : Raw H n es w) (hk : ∀ (b : Nat) (cs : List AV), H[b]? = some (.cells true cs) → ∃ cs', H'[b]? = some (.cells true cs') ∧ cs'.length = cs.length) : Raw H' n es w := by
  rcases h with h | ⟨b, cs, e, h1, h2⟩
  · exact .inl h
  · obtain ⟨cs', g1, g2⟩ := hk b cs h1
    exact .inr ⟨b, cs', e, g1, by omega⟩
theorem setFrom_length : ∀ (vs cs : List AV) (o : Nat), (setFrom cs o vs).length = cs.length
  | [], cs, o => rfl
  | v :: vs, cs, o => by
    have := setFrom_length vs (cs.set o v) (o + 1)
    simpa [setFrom] using this
theorem Raw.at {H : Heap} {n es i : Nat} {k : IntKind} {w : AV} (h : Raw H n es w) (hi : i < n) : idxSlAV es (.int k (i : Int)) w = some (ptrAt w i es) := by
  rcases h with ⟨rfl, rfl⟩ | ⟨b, cs, rfl, _, _⟩
  · omega
  · exact idxSl_sl hi
/-- One cell of it is written. -/
theorem Raw.store {H : Heap} {n es i o : Nat} {w x : AV} (h : Raw H n es w) (hi : i < n) (ho : o + 1 ≤ es) (hx : AV.one x = true) (hc : x.cells = [x]) :
    ∃ b p cs cs', ptrAt w i es = .ptr (some (b, p)) ∧ H[b]? = some (.cells true cs) ∧ storeAt 0 H 1 (.ptr (some (b, p + o))) x = some (H.set b (.cells true cs')) ∧ cs'.length = cs.length ∧ ¬ Off w b := by
  rcases h with ⟨rfl, rfl⟩ | ⟨b, cs, rfl, h1, h2⟩
  · omega
  · have h3 : (i + 1) * es ≤ n * es := Nat.mul_le_mul_right _ hi
    rw [Nat.succ_mul] at h3
    refine ⟨b, 0 + i * es, cs, setFrom cs (0 + i * es + o) x.cells, rfl, h1, ?_, setFrom_length _ _ _, fun q => q 0 n es rfl⟩
    exact store_of h1 (Nat.zero_le _) (by rw [hc]; rfl) (by omega) (by rw [hc]; simp [hx])
theorem spoilt_keep {H H' : Heap} {b : Nat} {cs cs' : List AV} (hb : H[b]? = some (.cells true cs)) (hl : cs'.length = cs.length) (k : Nat) (y : List AV) (h : H[k]? = some (.cells true y)) : ∃ y', (H.set b (.cells true cs'))[k]? = some (.cells true y') ∧ y'.length = y.length := by
  by_cases e : b = k
  · subst e
    rw [hb] at h
    cases h
    exact ⟨cs', List.getElem?_set_self (lt_of hb), hl⟩
  · exact ⟨y, get_set h e, rfl⟩

/-- What the loop of LedgerOwn holds: at 0 the deed, at 3 the copy that is spoilt (its rows w1, w2 are not the ledger's), the ledger as it was written. -/
structure OwnInv (HW : Heap) (lo : Nat) (d : Deed) (H : Heap) (w1 w2 : AV) : Prop where
  c0 : H[0]? = some (.cells false (deedC d))
  c3 : H[3]? = some (.cells false (deedM d w1 w2))
  q1 : Raw H d.bag.vals.length 3 w1
  q2 : Raw H d.ring.plan.targets.length 1 w2
  keep : ∀ (k : Nat) (z : ABlk), lo ≤ k → HW[k]? = some z → H[k]? = some z
  off : ∀ k, lo ≤ k → k < HW.length → Off w1 k ∧ Off w2 k
  long : HW.length ≤ H.length
theorem OwnInv.spoil {HW H : Heap} {lo b : Nat} {d : Deed} {w1 w2 : AV} {cs cs' : List AV} (h : OwnInv HW lo d H w1 w2) (hb : H[b]? = some (.cells true cs)) (hl : cs'.length = cs.length) (ho : ¬ Off w1 b ∨ ¬ Off w2 b) : OwnInv HW lo d (H.set b (.cells true cs')) w1 w2 where
  c0 := get_set h.c0 fun e => by subst e; rw [h.c0] at hb; cases hb
  c3 := get_set h.c3 fun e => by subst e; rw [h.c3] at hb; cases hb
  q1 := h.q1.keep (spoilt_keep (H' := H) hb hl)
  q2 := h.q2.keep (spoilt_keep (H' := H) hb hl)
  keep := fun k z hk hz => get_set (h.keep k z hk hz) fun e => by
    subst e
    have := h.off b hk (lt_of hz)
    rcases ho with q | q
    · exact q this.1
    · exact q this.2
  off := h.off
  long := by simpa using h.long

theorem OwnInv.app {HW H X : Heap} {lo : Nat} {d : Deed} {w1 w2 : AV} (h : OwnInv HW lo d H w1 w2) : OwnInv HW lo d (H ++ X) w1 w2 where
  c0 := get_app h.c0
  c3 := get_app h.c3
  q1 := h.q1.keep fun b cs q => ⟨cs, get_app q, rfl⟩
  q2 := h.q2.keep fun b cs q => ⟨cs, get_app q, rfl⟩
  keep := fun k z hk hz => get_app (h.keep k z hk hz)
  off := h.off
  long := by have := h.long; simp; omega

set_option maxHeartbeats 4000000 in
theorem ledgerOwn_pu (d : Deed) (hf : deedFits d) (hk : d.key.length ≤ reachBytes) (x : Int) : Pu envE 7 [.agg (deedC d), I x] (.bool true) := by
  have hrb : reachBytes = 140737488351232 := rfl
  obtain ⟨f1, f2⟩ := hf
  have hl1 : d.bag.vals.length < 4611686018427387904 := by omega
  have hl2 : d.ring.plan.targets.length < 4611686018427387904 := by omega
  refine pu_is e7 rfl ?_
  rw [fr_init (by simp [fd7])]
  obtain ⟨n1, hn1⟩ := heavy15 d.bag.known d.bag.vals hl1
  obtain ⟨n2, hn2⟩ := heavy42 d.ring
  simp only [ringC_eq] at hn2
  by_cases hh : 0 < IntKind.i64.wrap (n1 + n2)
  · simp [fd7, b7, frz_sl, wPu_eq hn1, wPu_eq hn2, hh]
  by_cases h200 : (200 : Int) < d.key.length
  · simp [fd7, b7, frz_sl, wPu_eq hn1, wPu_eq hn2, hh, h200]
  obtain ⟨B, hB⟩ : ∃ B : List ABlk, B = [.cells false (deedC d), .cells true (bagC d.bag), .cells true (ringC d.ring), .cells false (deedC d)] := ⟨_, rfl⟩
  obtain ⟨v1, X1, a1, r1⟩ := clone_ro (lim := 0) (bytes := 32) (H := B) (l := d.bag.vals) valC_len (by omega) valC_one (by simp only [most]; omega) (by simp only [most]; omega) (by simp)
  obtain ⟨B2, hB2⟩ : ∃ B2 : List ABlk, B2 = [.cells false (deedC d), .cells true (bagC d.bag), .cells true (ringC d.ring), .cells false (deedM d v1 (roL intC d.ring.plan.targets))] ++ X1 := ⟨_, rfl⟩
  obtain ⟨v2, X2, a2, r2⟩ := clone_ro (lim := 0) (bytes := 8) (H := B2) (l := d.ring.plan.targets) (es := 1) intC_len (by omega) intC_one (by simp only [most]; omega) (by simp only [most]; omega) (by simp)
  obtain ⟨Hn, hHn⟩ : ∃ Hn : List ABlk, Hn = [.cells false (deedC d), .cells true (bagC d.bag), .cells true (ringC d.ring), .cells false (deedM d v1 v2)] ++ (X1 ++ X2) := ⟨_, rfl⟩
  have rr1 : Row 0 Hn 3 valC d.bag.vals v1 := by
    have := ((r1.mono (Nat.zero_le _)).set (b := 3) (z := .cells false (deedM d v1 v2)) (r1.off (by rw [hB]; simp))).app (X := X2)
    rw [hHn]
    rw [hB] at this
    exact this
  have rr2 : Row 0 Hn 1 intC d.ring.plan.targets v2 := by
    have := (r2.mono (Nat.zero_le _)).set (b := 3) (z := .cells false (deedM d v1 v2)) (r2.off (by rw [hB2]; simp))
    rw [hHn]
    rw [hB2] at this
    exact this
  have hone : AV.one v1 = true := r1.one
  simp only [cloneG] at a1 a2
  rw [hB] at a1
  rw [hB2] at a2
  simp only [deedM, deedC_eq, bagC_eq, ringC_eq, List.cons_append, List.nil_append] at a1 a2
  simp [fd7, b7, frz_sl, wPu_eq hn1, wPu_eq hn2, hh, h200, a1, a2, r1.cells, r1.one, r2.cells, r2.one]
  have hgoal : (ABlk.cells false (deedV d.kind d.n d.key d.bag.known (roL valC d.bag.vals) d.ring.status d.ring.plan.version d.ring.plan.by' (roL intC d.ring.plan.targets) d.ring.epoch d.ring.owner d.part) :: ABlk.cells true (bagV d.bag.known (roL valC d.bag.vals)) :: ABlk.cells true (ringV d.ring.status d.ring.plan.version d.ring.plan.by' (roL intC d.ring.plan.targets) d.ring.epoch d.ring.owner) :: ABlk.cells false (deedV d.kind d.n d.key d.bag.known v1 d.ring.status d.ring.plan.version d.ring.plan.by' v2 d.ring.epoch d.ring.owner d.part) :: (X1 ++ X2)) = Hn := by rw [hHn]; rfl
  rw [hgoal]
  obtain ⟨lo, hlo⟩ : ∃ lo, lo = Hn.length := ⟨_, rfl⟩
  have hlo4 : 4 ≤ lo := by rw [hlo, hHn]; simp
  have g0 : Hn[0]? = some (.cells false (deedC d)) := by rw [hHn]; rfl
  have g3 : Hn[3]? = some (.cells false (deedM d v1 v2)) := by rw [hHn]; rfl
  have emax : max 0 (min (3 : Int) 3000) = 3 := rfl
  refine WCl.of (c25 3 0 Hn) ?_
  rw [emax, ← hlo]
  have hLn : Led lo (Hn ++ [.cells false [.nilsl, I 0, I 3]]) lo .nilsl [] 0 3 := ⟨by rw [hlo]; exact get_new, .nil, by simp⟩
  have c3n := cells_of (get_app (X := [.cells false [.nilsl, I 0, I 3]]) g3)
  simp only [deedM] at c3n
  simp [c3n]
  refine WCl.mono (c35 hLn (by rw [hlo]; simp) (by omega) (by omega) (by simp) d v1 v2 ⟨f1, f2⟩ (by omega) (fun X => ?_) (fun X => ?_) r1.one r2.one) ?_
  · rw [List.append_assoc]
    exact (rr1.app).frz (d := 9) valC_len val_flat
  · rw [List.append_assoc]
    exact (rr2.app).frz (d := 9) intC_len int_flat
  rintro e HW ⟨rfl, hlen, hkeep, hif⟩
  have hlenW : lo + 1 ≤ HW.length := by rw [hlo]; simpa using hlen
  have hk0 : ∀ (k : Nat) (z : ABlk), Hn[k]? = some z → HW[k]? = some z := fun k z hz => hkeep k z (get_app hz) (by have := lt_of hz; omega) Off.nil
  obtain ⟨e, he⟩ : ∃ e, e = writeE d [] 3 := ⟨_, rfl⟩
  have hE : e = if deedMay d then 0 else 1 := by rw [he]; simp [writeE]
  have hEq : (e == 0) = deedMay d := by rw [hE]; cases deedMay d <;> rfl
  obtain ⟨v, ds, hds, hLW⟩ : ∃ v ds, (ds = if deedMay d then [d] else []) ∧ Led lo HW lo v ds 0 3 := by
    rw [← he, hE] at hif
    cases hm : deedMay d
    · rw [hm] at hif
      exact ⟨_, [], rfl, by simpa using hif⟩
    · rw [hm] at hif
      simp at hif
      obtain ⟨v', h1, _⟩ := hif
      exact ⟨v', [d], rfl, h1⟩
  rw [← he]
  have hmay : ∀ H K, wPu envE 27 (some [.agg (deedC d)]) H K = K (.bool (deedMay d)) H := fun H K => (wPu_eq (c27 d hl1 hl2 (by omega))).trans (by simp)
  have hsame : ∀ H K, wPu envE 29 (some [.agg (deedC d), .agg (deedC d)]) H K = K (.bool true) H := fun H K => by
    have h : wPu envE 29 (some [.agg (deedC d), .agg (deedC d)]) H K = K (.bool (deedSame d d)) H := (wPu_eq (c29 d d hl1 hl2)).trans (by simp)
    rw [deedSame_refl] at h
    exact h
  have hfd : ∀ H, mapO (frz H 11) (deedC d) = some (deedC d) := fun H => frz_deed (d := 10) d
  have c0W := cells_of (hk0 0 _ g0)
  have c3W := hk0 3 _ g3
  have dlen : (deedC d).length = 56 := deedC_len d
  have dtake : (deedC d).take 56 = deedC d := List.take_of_length_le (by rw [dlen]; omega)
  simp [-deedC_eq, c0W, hfd, hmay, hEq, dlen, dtake]
  have hO : OwnInv HW lo d HW v1 v2 := {
    c0 := hk0 0 _ g0
    c3 := c3W
    q1 := (rr1.raw valC_len).keep fun b cs q => ⟨cs, hk0 b _ q, rfl⟩
    q2 := (rr2.raw intC_len).keep fun b cs q => ⟨cs, hk0 b _ q, rfl⟩
    keep := fun k z _ hz => hz
    off := fun k hk _ => ⟨rr1.off_ge (by omega), rr2.off_ge (by omega)⟩
    long := Nat.le_refl _ }
  refine loop_go [1, 2, 5, 6, 7, 54] rfl (fun m vs H => ∃ i w1 w2, m + i = 2 ∧ OwnInv HW lo d H w1 w2 ∧ vs = [I x, .ptr (some (0, 0)), .ptr (some (3, 0)), .ptr (some (lo, 0)), I e, I i]) ?_ 2 ⟨0, v1, v2, rfl, hO, rfl⟩
  rintro J hJ m vs H f ⟨i, w1, w2, hm, hI, rfl⟩
  by_cases hi : i < 2
  · have hw := wrap_succ (i := i) (by omega)
    have hi' : (i : Int) < 2 := by omega
    have c3 : Heap.cells? H 3 = some (deedV d.kind d.n d.key d.bag.known w1 d.ring.status d.ring.plan.version d.ring.plan.by' w2 d.ring.epoch d.ring.owner d.part) := cells_of hI.c3
    simp [lp7_0, hi', c3, hI.q1.len]
    refine loop_go [1, 2, 5, 6, 7, 54, 59, 60] rfl (fun m vs H => ∃ j, m + j = d.bag.vals.length ∧ OwnInv HW lo d H w1 w2 ∧ vs = [I x, .ptr (some (0, 0)), .ptr (some (3, 0)), .ptr (some (lo, 0)), I e, I i, I d.bag.vals.length, I j]) ?_ d.bag.vals.length ⟨0, rfl, hI, rfl⟩
    rintro J2 hJ2 m2 vs H f ⟨j, hm2, hI, rfl⟩
    have c3 : Heap.cells? H 3 = some (deedV d.kind d.n d.key d.bag.known w1 d.ring.status d.ring.plan.version d.ring.plan.by' w2 d.ring.epoch d.ring.owner d.part) := cells_of hI.c3
    by_cases hj : j < d.bag.vals.length
    · have hwj := wrap_succ (i := j) (by omega)
      obtain ⟨b, p, cs, cs', s1, s2, s3, s4, s5⟩ := hI.q1.store (o := 2) (x := .str [115, 112, 111, 105, 108, 116]) hj (by omega) rfl rfl
      simp [lp7_1, hj, c3, hI.q1.at hj, s1, s3, hwj]
      exact nxt hJ2 (m2 - 1) (by omega) ⟨j + 1, by omega, hI.spoil s2 s4 (.inl s5), rfl⟩
    · simp [lp7_1, hj, c3, hI.q2.len]
      refine loop_go [1, 2, 5, 6, 7, 54, 74, 75] rfl (fun m vs H => ∃ j, m + j = d.ring.plan.targets.length ∧ OwnInv HW lo d H w1 w2 ∧ vs = [I x, .ptr (some (0, 0)), .ptr (some (3, 0)), .ptr (some (lo, 0)), I e, I i, I d.ring.plan.targets.length, I j]) ?_ d.ring.plan.targets.length ⟨0, rfl, hI, rfl⟩
      rintro J3 hJ3 m3 vs H f ⟨j, hm3, hI, rfl⟩
      have c3 : Heap.cells? H 3 = some (deedV d.kind d.n d.key d.bag.known w1 d.ring.status d.ring.plan.version d.ring.plan.by' w2 d.ring.epoch d.ring.owner d.part) := cells_of hI.c3
      by_cases hj : j < d.ring.plan.targets.length
      · have hwj := wrap_succ (i := j) (by omega)
        obtain ⟨b, p, cs, cs', s1, s2, s3, s4, s5⟩ := hI.q2.store (o := 0) (x := I x) hj (by omega) rfl rfl
        rw [Nat.add_zero] at s3
        simp [lp7_2, hj, c3, hI.q2.at hj, s1, s3, hwj]
        exact nxt hJ3 (m3 - 1) (by omega) ⟨j + 1, by omega, hI.spoil s2 s4 (.inr s5), rfl⟩
      · simp [lp7_2, hj]
        have hLH : Led lo H lo v ds 0 3 := ⟨hI.keep lo _ (Nat.le_refl _) hLW.at', hLW.row.keep fun b y hb hy => hI.keep b _ hb hy, hLW.few⟩
        refine WCl.mono (c41 hLH (fun d' hd' => ?_) 0 (Nat.zero_le _)) ?_
        · rw [hds] at hd'
          split at hd'
          · rw [List.mem_singleton.1 hd']
            exact ⟨f1, f2⟩
          · cases hd'
        rintro w _ ⟨X, rfl, hD⟩
        have c0 := cells_of (get_app (X := X) hI.c0)
        cases hmb : deedMay d
        · rw [hmb] at hds hE hEq
          subst hds
          have hwl := hD.len
          simp [-deedC_eq, hEq, hwl, hw]
          exact nxt hJ (m - 1) (by omega) ⟨i + 1, w1, w2, by omega, hI.app, rfl⟩
        · rw [hmb] at hds hE hEq
          subst hds
          have hwl := hD.len
          have hat : idxSlAV 56 (I 0) w = some (ptrAt w 0 56) := hD.at (k := .i64) (i := 0) (by simp)
          obtain ⟨u1, u2, hld, ru1, ru2⟩ := hD.load (i := 0) (by simp)
          simp only [List.getElem_cons_zero] at hld ru1 ru2
          have hfz : mapO (frz (H ++ X) 11) (deedM d u1 u2) = some (deedC d) := by
            rw [deedM, deedV_frz (d := 10) (ru1.frz (d := 9) valC_len val_flat) (ru2.frz (d := 9) intC_len int_flat)]
            rfl
          have hone2 : (deedM d u1 u2).all AV.one = true := deedM_one ru1.one ru2.one
          have hst := store_of (lim := 0) (n := 56) (o := 0) (v := .agg (deedM d u1 u2)) (get_app (X := X) hI.c3) (by omega) (by rw [cells_agg, deedM_len]) (by rw [deedM_len]; omega) (by rw [cells_agg, hone2])
          rw [cells_agg, setFrom_all _ _ (by rw [deedM_len, deedM_len])] at hst
          simp [-deedC_eq, hEq, hwl, hat, hld, c0, dlen, dtake, hfd, hfz, hsame, hst, hw]
          refine nxt hJ (m - 1) (by omega) ⟨i + 1, u1, u2, by omega, ?_, rfl⟩
          have h3X := get_app (X := X) hI.c3
          exact {
            c0 := get_set (get_app hI.c0) (by omega)
            c3 := List.getElem?_set_self (lt_of h3X)
            q1 := (ru1.setF h3X).raw valC_len
            q2 := (ru2.setF h3X).raw intC_len
            keep := fun k z hk hz => get_set (get_app (hI.keep k z hk hz)) (by omega)
            off := fun k hk hk2 => ⟨ru1.off (by have := hI.long; omega), ru2.off (by have := hI.long; omega)⟩
            long := by have := hI.long; simp; omega }
  · have hi' : ¬ (i : Int) < 2 := by omega
    have c0 := cells_of hI.c0
    simp [-deedC_eq, lp7_0, hi', c0, dlen, dtake, hfd, hsame]
theorem ledgerOwn_law (cs : List AV) (h : FitsArgs [(true, shDeed), (false, .int .i64)] cs) : ∃ n H', callF envE (exec envE n) 7 cs 0 [] = some (.bool true, H') := by
  obtain ⟨r, rest, rfl, h1, t⟩ := fa_row h
  obtain ⟨c, rest, rfl, h2, t⟩ := fa_one t
  cases fa_nil t
  obtain ⟨d, rfl, f1, f2, f3⟩ := of_deed2 h1
  obtain ⟨y, e2, _⟩ := fits_int h2
  cases e2
  have hfd : mapO (frz [] 11) (deedC d) = some (deedC d) := frz_deed (d := 10) d
  exact law_of (ledgerOwn_pu d ⟨f1, f2⟩ f3 y) (by simp [-deedC_eq, hfd])
end Go.Proofs.YtkmikfhfjjmobaaA

namespace Go.Proofs.Ytkmikfhfjjmobaa.ledgerOwn
open Go.ChangeShapes Go.WideShapes Go.ChangeAt Go.RowKit
set_option linter.unusedVariables false
theorem own : ownKnob Try.prog.godebug = none := by kernel_rfl
set_option maxRecDepth 1000000 in
theorem lifted (os : Os) (started : os.Started) (H : Type) (enc : TypeId × Value → H) :
    ReturnsInHanded {} Try.checked os 7 .any (Rows.ledgerOwnSpec.pre6 enc Try.prog Try.f7 Rows.ledgerOwnRow.domain false) (Rows.ledgerOwnSpec.post enc Try.prog Try.f7 false true false false) :=
  YtkmikfhfjjmobaaA.law_lifted (C := Try.checked) YtkmikfhfjjmobaaA.env_good (fd := YtkmikfhfjjmobaaA.fd7) (tb := 4) rfl own started (by kernel_rfl) Try.func7
    (ChangeSpec.witness6 (enc := enc) (C := Try.checked) false ⟨#[], #[((Try.prog.info? 57).bind (·.zero)).getD .nilFunc, ((Try.prog.info? 3).bind (·.zero)).getD .nilFunc], []⟩ 8 (by kernel_rfl) (by kernel_rfl) (by kernel_rfl) (by kernel_rfl))
    (by kernel_rfl) (by decide +kernel) (by kernel_rfl) rfl (by kernel_rfl) (by kernel_rfl) (fun ds h => by
      match ds, h with
      | [d0, d1], _ => rfl) YtkmikfhfjjmobaaA.ledgerOwn_law
theorem over : Rows.ledgerOwnRow.holds Try.pinned (OpenSpec.ofChange Rows.ledgerOwnSpec) :=
  OpenClaim.holds_of_wide 7 Try.f7 rfl rfl rfl rfl rfl rfl rfl ⟨rfl, rfl, rfl, rfl, rfl⟩ rfl rfl rfl rfl rfl (by kernel_rfl) Try.func7 (by kernel_rfl)
    (of_decide_eq_true (by kernel_rfl)) (by unfold Func.isWrapper; first | (rw [if_pos (by decide +kernel)]; kernel_rfl) | (rw [if_neg (by decide +kernel)]; exact ⟨rfl, rfl⟩))
    (fun os started H enc _ => lifted os started H enc)
end Go.Proofs.Ytkmikfhfjjmobaa.ledgerOwn
namespace Go.Proofs.Ytkmikfhfjjmobaa
/-- The row, under a short name, for the claim. -/
theorem ledgerOwn_holds : Rows.LedgerOwnSaid := ledgerOwn.over
#print axioms ledgerOwn_holds
end Go.Proofs.Ytkmikfhfjjmobaa


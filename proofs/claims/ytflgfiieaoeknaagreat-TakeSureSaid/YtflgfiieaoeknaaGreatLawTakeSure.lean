/- 'starlinglaw21.TakeSure' returns true for every message, every ring, every bag and every text: what is got is sure, got again it is the same; of an elder epoch nothing is taken. Without further conditions. -/
import Derived.Test.YtflgfiieaoeknaaGreatRows
import Derived.Test.YtflgfiieaoeknaaGreatT8
import Derived.Test.YtflgfiieaoeknaaGreatP2
import Derived.Test.YtflgfiieaoeknaaGreatAW24
import Derived.WalkKit
import Derived.ProofKit
import Derived.ChangeOld
namespace Go.Proofs.YtflgfiieaoeknaaGreatA
open Go Go.RowKit
set_option linter.unusedSimpArgs false
set_option linter.unusedVariables false
set_option maxRecDepth 1000000
attribute [local simp] msg_zero ring_zero vec_zero bagV_zero

theorem k24 {H : Heap} {K : AV → Heap → Prop} : wPu envE 24 (some []) H K = K (.bool true) H := run_pu e24 rfl (fun _ => rfl) awake24
/-- Equal dots say the same. -/
def NoTwice (l r : List Val) : Prop := ∀ x ∈ l, ∀ y ∈ r, x.node = y.node → x.n = y.n → x.data = y.data
set_option maxHeartbeats 4000000 in
theorem takeSure_pu (m : Msg) (r : Ring) (old : Bag) (data : List UInt8) (hml : m.bag.vals.length * 32 ≤ reachBytes) (hrf : r.plan.targets.length * 8 ≤ reachBytes) (hol : old.vals.length * 32 ≤ reachBytes) : Pu envE 4 [.agg (msgC m), .agg (ringC r), .agg (bagC old), .str data] (.bool true) := by
  have hrb : reachBytes = 140737488351232 := rfl
  refine pu_is e4 rfl ?_
  obtain ⟨b, hb⟩ := c22 m r (by omega)
  obtain ⟨n, hn⟩ := heavy15 old.known old.vals (by omega)
  have fzm := msg_roframe m.kind m
  simp only [msgC_eq, ringC_eq] at hb
  obtain ⟨M, hM⟩ : ∃ M, M = mV m.kind m.from' m.to m.seq m.for' m.about m.part m.epoch m.key m.bag.known (roL valC m.bag.vals) m.ring.status m.ring.plan.version m.ring.plan.by' (roL intC m.ring.plan.targets) m.ring.epoch m.ring.owner (roL claimC m.claims) := ⟨_, rfl⟩
  cases b
  · rw [fr_init (by simp [fd4])]
    simp [fd4, b4, wPu_eq hb, fzm, k24]
  by_cases hn0 : 0 < n
  · rw [fr_init (by simp [fd4])]
    simp [fd4, b4, wPu_eq hb, fzm, k24, wPu_eq hn, hn0, frz_sl]
  obtain ⟨H0, hH0⟩ : ∃ H0, H0 = [ABlk.cells false (mV m.kind m.from' m.to m.seq m.for' m.about m.part m.epoch m.key m.bag.known (roL valC m.bag.vals) m.ring.status m.ring.plan.version m.ring.plan.by' (roL intC m.ring.plan.targets) m.ring.epoch m.ring.owner (roL claimC m.claims)), ABlk.cells false (ringV r.status r.plan.version r.plan.by' (roL intC r.plan.targets) r.epoch r.owner), ABlk.cells false (bagV old.known (roL valC old.vals)), ABlk.cells true (bagV old.known (roL valC old.vals))] := ⟨_, rfl⟩
  have m0 : H0[0]? = some (.cells false (mV m.kind m.from' m.to m.seq m.for' m.about m.part m.epoch m.key m.bag.known (roL valC m.bag.vals) m.ring.status m.ring.plan.version m.ring.plan.by' (roL intC m.ring.plan.targets) m.ring.epoch m.ring.owner (roL claimC m.claims))) := by rw [hH0]; rfl
  have r0 : H0[1]? = some (.cells false (ringV r.status r.plan.version r.plan.by' (roL intC r.plan.targets) r.epoch r.owner)) := by rw [hH0]; rfl
  have o0 : H0[2]? = some (.cells false (bagV old.known (roL valC old.vals))) := by rw [hH0]; rfl
  have fH : frz H0 12 (.sl 3 0 1 9) = some (.ro 1 (bagV old.known (roL valC old.vals))) := by rw [hH0]; exact frz_one rfl (by simp) (by simp)
  rw [fr_init (by simp [fd4])]
  simp [fd4, b4, wPu_eq hb, fzm, k24, wPu_eq hn, hn0, frz_sl, ← hH0, fH, cells_of o0]
  refine loop_go [4, 5, 6, 34, 35, 36] rfl (fun k vs H => ∃ i, k + i = old.vals.length ∧ H[0]? = H0[0]? ∧ H[1]? = H0[1]? ∧ H[2]? = H0[2]? ∧ NoTwice (old.vals.take i) m.bag.vals ∧ vs = [.ptr (some (0, 0)), .ptr (some (1, 0)), .ptr (some (2, 0)), roL valC old.vals, I old.vals.length, I i]) ?_ old.vals.length ⟨0, rfl, rfl, rfl, rfl, fun x hx => by simp at hx, rfl⟩
  rintro J hJ k vs H f ⟨i, hk, hm0, hr0, ho0, hno, rfl⟩
  rw [m0] at hm0
  rw [r0] at hr0
  rw [o0] at ho0
  by_cases hi : i < old.vals.length
  · have hw := wrap_succ (i := i) (by omega)
    have hld := load_roL valC_len hi (H := H)
    obtain ⟨x, hx⟩ : ∃ x, x = old.vals[i] := ⟨_, rfl⟩
    rw [← hx] at hld
    obtain ⟨H1, hH1⟩ : ∃ H1, H1 = H ++ [ABlk.cells false (valC x)] := ⟨_, rfl⟩
    have m1 : H1[0]? = H0[0]? := by rw [hH1, m0]; exact get_app hm0
    have r1 : H1[1]? = H0[1]? := by rw [hH1, r0]; exact get_app hr0
    have o1 : H1[2]? = H0[2]? := by rw [hH1, o0]; exact get_app ho0
    have x1 : H1[H.length]? = some (.cells false (valC x)) := by rw [hH1]; exact get_new
    have cm1 : Heap.cells? H1 0 = some (mV m.kind m.from' m.to m.seq m.for' m.about m.part m.epoch m.key m.bag.known (roL valC m.bag.vals) m.ring.status m.ring.plan.version m.ring.plan.by' (roL intC m.ring.plan.targets) m.ring.epoch m.ring.owner (roL claimC m.claims)) := cells_of (m1.trans m0)
    simp [lp4_0, hi, idxSl_roL hi, hld, -load_tp, ← hH1, cm1]
    refine loop_go [4, 5, 6, 10, 34, 35, 36, 42, 43, 44] rfl (fun k vs H' => ∃ j, k + j = m.bag.vals.length ∧ H'[0]? = H0[0]? ∧ H'[1]? = H0[1]? ∧ H'[2]? = H0[2]? ∧ H'[H.length]? = H1[H.length]? ∧ NoTwice [x] (m.bag.vals.take j) ∧ vs = [.ptr (some (0, 0)), .ptr (some (1, 0)), .ptr (some (2, 0)), .ptr (some (H.length, 0)), roL valC old.vals, I old.vals.length, I i, roL valC m.bag.vals, I m.bag.vals.length, I j]) ?_ m.bag.vals.length ⟨0, rfl, m1, r1, o1, rfl, fun x _ y hy => by simp at hy, rfl⟩
    rintro J2 hJ2 k2 vs H2 f2 ⟨j, hk2, m2, r2, o2, x2, hno2, rfl⟩
    have lH : H.length < H2.length := lt_of (x2.trans x1)
    by_cases hj : j < m.bag.vals.length
    · have hw2 := wrap_succ (i := j) (by omega)
      have hld2 := load_roL valC_len hj (H := H2)
      obtain ⟨y, hy⟩ : ∃ y, y = m.bag.vals[j] := ⟨_, rfl⟩
      rw [← hy] at hld2
      obtain ⟨H3, hH3⟩ : ∃ H3, H3 = H2 ++ [ABlk.cells false (valC y)] := ⟨_, rfl⟩
      have x3 : H3[H.length]? = some (.cells false [I x.node, I x.n, .str x.data]) := by rw [hH3]; exact get_app (x2.trans x1)
      have y3 : H3[H2.length]? = some (.cells false [I y.node, I y.n, .str y.data]) := by rw [hH3]; exact get_new
      have up : ∀ (b : Nat) (z : ABlk), H2[b]? = some z → H3[b]? = some z := fun b z hz => by rw [hH3]; exact get_app hz
      have m3 := (up _ _ (m2.trans m0)).trans m0.symm
      have r3 := (up _ _ (r2.trans r0)).trans r0.symm
      have o3 := (up _ _ (o2.trans o0)).trans o0.symm
      have x3' := (up _ _ (x2.trans x1)).trans x1.symm
      have more : (x.node = y.node → x.n = y.n → x.data = y.data) → NoTwice [x] (m.bag.vals.take (j + 1)) := fun g x' hx' y' hy' q1 q2 => by
        rw [List.take_succ_eq_append_getElem hj, List.mem_append] at hy'
        rcases hy' with p | p
        · exact hno2 x' hx' y' p q1 q2
        · rw [List.mem_singleton] at hx' p
          rw [← hy] at p
          subst hx' p
          exact g q1 q2
      by_cases d1 : x.node = y.node
      · have e1 : (x.node == y.node) = true := beq_iff_eq.2 d1
        by_cases d2 : x.n = y.n
        · have e2 : (x.n == y.n) = true := beq_iff_eq.2 d2
          by_cases d3 : x.data = y.data
          · have e3 : (x.data == y.data) = true := beq_iff_eq.2 d3
            simp [lp4_1, hj, idxSl_roL hj, hld2, -load_tp, ← hH3, cells_of x3, cells_of y3, eqRow, eqCell, e1, e2, e3, hw2]
            exact nxt hJ2 (k2 - 1) (by omega) ⟨j + 1, by omega, m3, r3, o3, x3', more fun _ _ => d3, rfl⟩
          · have e3 : (x.data == y.data) = false := by simpa using d3
            simp [lp4_1, hj, idxSl_roL hj, hld2, -load_tp, ← hH3, cells_of x3, cells_of y3, eqRow, eqCell, e1, e2, e3, hw2, k24]
        · have e2 : (x.n == y.n) = false := by simpa using d2
          simp [lp4_1, hj, idxSl_roL hj, hld2, -load_tp, ← hH3, cells_of x3, cells_of y3, eqRow, eqCell, e1, e2, hw2]
          exact nxt hJ2 (k2 - 1) (by omega) ⟨j + 1, by omega, m3, r3, o3, x3', more fun _ q => absurd q d2, rfl⟩
      · have e1 : (x.node == y.node) = false := by simpa using d1
        simp [lp4_1, hj, idxSl_roL hj, hld2, -load_tp, ← hH3, cells_of x3, cells_of y3, eqRow, eqCell, e1, hw2]
        exact nxt hJ2 (k2 - 1) (by omega) ⟨j + 1, by omega, m3, r3, o3, x3', more fun q _ => absurd q d1, rfl⟩
    · have hjl : m.bag.vals.take j = m.bag.vals := List.take_of_length_le (by omega)
      rw [hjl] at hno2
      simp [lp4_1, hj, hw]
      refine nxt hJ (k - 1) (by omega) ⟨i + 1, by omega, m2, r2, o2, fun x' hx' y' hy' q1 q2 => ?_, rfl⟩
      rw [List.take_succ_eq_append_getElem hi, List.mem_append] at hx'
      rcases hx' with p | p
      · exact hno x' p y' hy' q1 q2
      · rw [← hx] at p
        exact hno2 x' p y' hy' q1 q2
  have hil : old.vals.take i = old.vals := List.take_of_length_le (by omega)
  rw [hil] at hno
  have l0 : 2 < H.length := lt_of ho0
  have nr := fun K => new_room (room := 9) (H := H) (lim := 0) (K := K) (by omega) (by omega)
  simp [lp4_0, hi, nr]
  refine open_new 9 H (by omega) (by omega) ?_
  intro X hv
  have up1 : ∀ (b : Nat) (z : ABlk), H[b]? = some z → (H ++ X)[b]? = some z := fun b z hz => get_app hz
  have ok0 := empty_ok (room := 9) (by omega) (by omega)
  obtain ⟨G, hG⟩ : ∃ G, G = H ++ X := ⟨_, rfl⟩
  rw [← hG] at hv up1
  have mG := up1 _ _ hm0
  have rG := up1 _ _ hr0
  have oG := up1 _ _ ho0
  simp [← hG, cells_of rG]
  refine WCl.mono (c16 hv ok0 r (roL intC r.plan.targets) (.inr rfl) hrf) ?_
  rintro _ G1 ⟨rfl, hs1⟩
  have hwr : writeE (ringD r) (emptyS 9).ds (emptyS 9).room = if ringMay r = true then 0 else 1 := by
    unfold writeE
    rw [ringD_eq]
    rfl
  have hm25 := c25 r (by omega)
  simp only [ringC_eq] at hm25
  obtain ⟨k1, v1, q1, es1, ck1, hv1⟩ := hs1
  have m1 := k1.2 0 _ mG (by omega) (by omega) (by omega) (by intro y e; cases e)
  have r1 := k1.2 1 _ rG (by omega) (by omega) (by omega) (by intro y e; cases e)
  have o1 := k1.2 2 _ oG (by omega) (by omega) (by omega) (by intro y e; cases e)
  cases hmay : ringMay r
  · rw [hmay] at hwr hm25
    simp [hwr, cells_of r1, wPu_eq hm25, k24]
  rw [hmay] at hwr
  simp at hwr
  have hfitR : deedFits (ringD r) := ⟨Nat.zero_le _, hrf⟩
  have ok1 : VOk (wroteS (emptyS 9) (ringD r)) := ok0.wrote hfitR
  have inv0 : Inv (emptyS 9) := ⟨rfl, fun d hd => by simp [emptyS] at hd⟩
  have inv1 : Inv (wroteS (emptyS 9) (ringD r)) := inv0.wrote (.inr (.inl rfl))
  have hsr1 : (wroteS (emptyS 9) (ringD r)).ring = r ∧ (wroteS (emptyS 9) (ringD r)).rings = 1 := by
    rw [wroteS, if_pos hwr]
    exact ⟨by simp [countS, ringD], by simp [countS, ringD, emptyS]⟩
  have bk1 : Bk (dataD old.vals m.bag.vals) (wroteS (emptyS 9) (ringD r)) := ring_bk empty_bk rfl
  obtain ⟨s1, hS1⟩ : ∃ s1, s1 = wroteS (emptyS 9) (ringD r) := ⟨_, rfl⟩
  rw [← hS1] at hv1 ok1 inv1 hsr1 bk1
  have ld1 : loadAt G1 none (.ptr (some (0, 8))) = some (.str m.key) := by
    simp [loadAt, cells_of m1, cut, shapeOf, mV_f8]
  simp [hwr, cells_of m1, cells_of o1]
  refine WCl.mono (c26 hv1 ok1 m.key old (roL valC old.vals) (.inr rfl) hol) ?_
  rintro _ G2 ⟨rfl, hs2⟩
  have ok2 : VOk (mergeO s1 m.key old).s := merge_ok ok1
  have inv2 : Inv (mergeO s1 m.key old).s := merge_inv inv1
  have bk2 : Bk (dataD old.vals m.bag.vals) (mergeO s1 m.key old).s := merge_bk bk1 fun hm => ⟨hm, fun v hv => dataD_l (may_asc hm) hv⟩
  have hsr2 : (mergeO s1 m.key old).s.ring = r ∧ (mergeO s1 m.key old).s.rings = 1 := ⟨merge_ring.1.trans hsr1.1, merge_ring.2.trans hsr1.2⟩
  obtain ⟨s2, hS2⟩ : ∃ s2, s2 = (mergeO s1 m.key old).s := ⟨_, rfl⟩
  rw [← hS2] at hs2 ok2 inv2 hsr2 bk2
  obtain ⟨k2, v2, q2, es2, ck2, hv2⟩ := hs2
  have m2 := k2.2 0 _ m1 (by omega) (by omega) (by omega) (by intro y e; cases e)
  have r2 := k2.2 1 _ r1 (by omega) (by omega) (by omega) (by intro y e; cases e)
  obtain ⟨p, hp⟩ : ∃ p, p = H.length + 2 := ⟨_, rfl⟩
  have hbM : bagMay m.bag.known m.bag.vals = true → BagOk (dataD old.vals m.bag.vals) m.bag.known m.bag.vals := fun hm => ⟨hm, fun v hv => dataD_r (may_asc hm) hno hv⟩
  have hgive : WCl envE 27 [.agg (msgC m), .ptr (some (H.length + 2, 0))] 0 G2 fun rr H' => (∃ e : Int, (e = 1 ∨ e = 11 ∨ e = 5) ∧ rr = .tup [.agg zMsg, I e]) ∨ (m.kind = 5 ∧ msgPlaced m = true ∧ spotF m.key = m.part ∧ oldE m s2 = 0 ∧ (mergeO s2 m.key m.bag).e = 0 ∧ VStep G2 H' (H.length + 2) H.length (H.length + 1) { (mergeO s2 m.key m.bag).s with sure := (mergeO s2 m.key m.bag).s.ds.length } ∧ ∃ q', Row 0 H' 3 valC m.bag.vals q' ∧ rr = .tup [.agg (mV 6 m.to m.from' m.seq 0 0 m.part m.epoch m.key m.bag.known q' zeroV 0 0 .nilsl zeroV zeroV .nilsl), I 0]) := by
    by_cases g1 : m.kind ≠ 5 ∨ msgPlaced m = false ∨ spotF m.key ≠ m.part
    · refine WCl.mono (c35b m _ g1) ?_
      rintro _ H' ⟨_, rfl⟩
      exact .inl ⟨1, .inl rfl, rfl⟩
    have g2 : m.kind = 5 := by by_cases e : m.kind = 5; exact e; exact absurd (.inl e) g1
    have g3 : msgPlaced m = true := by cases e : msgPlaced m; exact absurd (.inr (.inl e)) g1; rfl
    have g4 : spotF m.key = m.part := by by_cases e : spotF m.key = m.part; exact e; exact absurd (.inr (.inr e)) g1
    by_cases g5 : oldE m s2 = 0
    · by_cases g6 : (mergeO s2 m.key m.bag).e = 0
      · refine WCl.mono (c35q hv2 ok2 m g2 g3 g4 g5 hml g6) ?_
        rintro _ H' ⟨h1, h2⟩
        exact .inr ⟨g2, g3, g4, g5, g6, h1, h2⟩
      · refine WCl.mono (c35r hv2 ok2 m g2 g3 g4 g5 hml g6) ?_
        rintro _ H' ⟨_, rfl⟩
        refine .inl ⟨_, ?_, rfl⟩
        rcases merge_e (s := s2) (key := m.key) (b := m.bag) with q | q | q
        · exact absurd q g6
        · exact .inl q
        · exact .inr (.inr q)
    · refine WCl.mono (c35p hv2 ok2 m g2 g3 g4 g5) ?_
      rintro _ H' ⟨_, rfl⟩
      refine .inl ⟨_, .inr (.inl ?_), rfl⟩
      unfold oldE at g5 ⊢
      rw [hsr2.2] at g5 ⊢
      split
      · omega
      · rename_i h1
        split
        · rename_i h2
          rw [if_neg h1, if_pos h2] at g5
          exact absurd rfl g5
        · rfl
  simp only [msgC_eq] at hgive
  simp [cells_of m2]
  refine WCl.mono hgive ?_
  rintro _ G3 (⟨e, he, rfl⟩ | ⟨g2, g3, g4, g5, g6, hs3, qx, hqx, rfl⟩)
  · obtain ⟨G4, hG4⟩ : ∃ G4, G4 = G3 ++ [ABlk.cells false zMsg] := ⟨_, rfl⟩
    have z4 : G4[G3.length]? = some (.cells false zMsg) := by rw [hG4]; exact get_new
    rcases he with rfl | rfl | rfl <;> simp [← hG4, store_msg z4 (Nat.zero_le _), cells_of z4, k24]
  obtain ⟨S3, hS3⟩ : ∃ S3, S3 = (mergeO s2 m.key m.bag).s := ⟨_, rfl⟩
  have tw := merge_twice (key := m.key) (b := m.bag) bk2 hbM g6
  have ok3 : VOk S3 := by rw [hS3]; exact merge_ok ok2
  have inv3 : Inv S3 := by rw [hS3]; exact merge_inv inv2
  have hsr3 : S3.ring = r ∧ S3.rings = 1 := by rw [hS3]; exact ⟨merge_ring.1.trans hsr2.1, merge_ring.2.trans hsr2.2⟩
  rw [← hS3] at hs3 tw
  obtain ⟨t1, t2, t3, t4, t5⟩ := tw
  obtain ⟨s3, hs3e⟩ : ∃ s3, s3 = { S3 with sure := S3.ds.length } := ⟨_, rfl⟩
  have ok3' : VOk s3 := by rw [hs3e]; exact ok3.sync
  have inv3' : Inv s3 := by rw [hs3e]; exact inv3.sync
  have hsr3' : s3.ring = r ∧ s3.rings = 1 := by rw [hs3e]; exact hsr3
  have hag : mergeO s3 m.key m.bag = ⟨0, s3⟩ := by rw [hs3e]; exact merge_none t1 t2 t3 t4 t5
  have hbel : belowB m.bag.known m.bag.vals (bagOf s3 m.key).known (bagOf s3 m.key).vals = true := by rw [hs3e]; exact t5
  have hsy : s3.sure = s3.ds.length := by rw [hs3e]
  have hold3 : oldE m s3 = 0 := by
    unfold oldE at g5 ⊢
    rw [hsr3'.1, hsr3'.2]
    rw [hsr2.1, hsr2.2] at g5
    exact g5
  rw [← hs3e] at hs3
  obtain ⟨k3, v3, q3, es3, ck3, hv3⟩ := hs3
  have m3 := k3.2 0 _ m2 (by omega) (by omega) (by omega) (by intro y e; cases e)
  have r3 := k3.2 1 _ r2 (by omega) (by omega) (by omega) (by intro y e; cases e)
  obtain ⟨x, hx⟩ : ∃ x, x = mV 6 m.to m.from' m.seq 0 0 m.part m.epoch m.key m.bag.known qx zeroV 0 0 .nilsl zeroV zeroV .nilsl := ⟨_, rfl⟩
  have oqx := hqx.one
  have xl : x.length = 62 := by rw [hx]; exact mV_len
  have xo : x.all AV.one = true := by rw [hx]; simp [oqx]
  obtain ⟨G4, hG4⟩ : ∃ G4, G4 = G3 ++ [ABlk.cells false x] := ⟨_, rfl⟩
  have x4 : G4[G3.length]? = some (.cells false x) := by rw [hG4]; exact get_new
  have hv4 : Vlt G4 (H.length + 2) H.length (H.length + 1) s3 v3 q3 es3 ck3 := by rw [hG4]; exact hv3.app
  have m4 : G4[0]? = some (.cells false (mV m.kind m.from' m.to m.seq m.for' m.about m.part m.epoch m.key m.bag.known (roL valC m.bag.vals) m.ring.status m.ring.plan.version m.ring.plan.by' (roL intC m.ring.plan.targets) m.ring.epoch m.ring.owner (roL claimC m.claims))) := by rw [hG4]; exact get_app m3
  have r4 := get_app (X := [ABlk.cells false x]) r3
  rw [← hG4] at r4
  have hqx4 : Row 0 G4 3 valC m.bag.vals qx := by rw [hG4]; exact hqx.app
  have z16 : ∀ K lim, WCl envE 21 [.ptr (some (H.length, 0))] lim G4 K = K (I s3.ds.length) G4 := fun K lim => WCl_eq (c21 hv4.led.at' hv4.led.row.len lim)
  have k28 : ∀ H K, wPu envE 28 (some [.str m.key]) H K = K (I m.part) H := fun H K => by rw [← g4]; exact (wPu_eq (c28 m.key)).trans (by simp)
  have hover : ∀ l : List AV, l.length = 62 → setFrom l 0 x = x := fun l hl => setFrom_all _ _ (by rw [hl, xl])
  simp [← hx, ← hG4, xl, xo, hover, z16, cells_of m4, k28]
  have h27 := c35q hv4 ok3' m g2 g3 g4 hold3 hml (by rw [hag])
  rw [hag] at h27
  have hself : { s3 with sure := s3.ds.length } = s3 := by rw [← hsy]
  simp only [hself, msgC_eq] at h27
  refine WCl.mono h27 ?_
  rintro _ G5 ⟨hs5, qy, hqy, rfl⟩
  obtain ⟨k5, v5, q5, es5, ck5, hv5⟩ := hs5
  have l4 : H.length + 2 < G4.length := lt_of hv4.box
  have lx : G3.length < G4.length := lt_of x4
  have hp3 : H.length + 2 < G3.length := lt_of hv3.box
  have x5 := k5.2 _ _ x4 (by omega) (by omega) (by omega) (by intro y e; cases e)
  have m5 := k5.2 _ _ m4 (by omega) (by omega) (by omega) (by intro y e; cases e)
  have r5 := k5.2 _ _ r4 (by omega) (by omega) (by omega) (by intro y e; cases e)
  have hqx5 : Row 0 G5 3 valC m.bag.vals qx := hqx4.keepD (isD_val _) (k5.rows hv4)
  obtain ⟨y, hy⟩ : ∃ y, y = mV 6 m.to m.from' m.seq 0 0 m.part m.epoch m.key m.bag.known qy zeroV 0 0 .nilsl zeroV zeroV .nilsl := ⟨_, rfl⟩
  have oqy := hqy.one
  have yl : y.length = 62 := by rw [hy]; exact mV_len
  have yo : y.all AV.one = true := by rw [hy]; simp [oqy]
  obtain ⟨G6, hG6⟩ : ∃ G6, G6 = G5 ++ [ABlk.cells false y] := ⟨_, rfl⟩
  have up6 : ∀ (b : Nat) (z : ABlk), G5[b]? = some z → G6[b]? = some z := fun b z hz => by rw [hG6]; exact get_app hz
  have x6 := up6 _ _ x5
  have m6 := up6 _ _ m5
  have r6 := up6 _ _ r5
  have y6 : G6[G5.length]? = some (.cells false y) := by rw [hG6]; exact get_new
  have hv6 : Vlt G6 (H.length + 2) H.length (H.length + 1) s3 v5 q5 es5 ck5 := by rw [hG6]; exact hv5.app
  have hqx6 : Row 0 G6 3 valC m.bag.vals qx := by rw [hG6]; exact hqx5.app
  have hqy6 : Row 0 G6 3 valC m.bag.vals qy := by rw [hG6]; exact hqy.app
  have hovery : ∀ l : List AV, l.length = 62 → setFrom l 0 y = y := fun l hl => setFrom_all _ _ (by rw [hl, yl])
  have hml2 : m.bag.vals.length < 4611686018427387904 := by omega
  obtain ⟨Gx, hGx⟩ : ∃ Gx, Gx = G6 ++ [ABlk.cells true x] := ⟨_, rfl⟩
  obtain ⟨G7, hG7'⟩ : ∃ G7, G7 = Gx ++ [ABlk.cells true y] := ⟨_, rfl⟩
  have hG7 : G7 = G6 ++ [ABlk.cells true x, ABlk.cells true y] := by rw [hG7', hGx]; simp
  have pGx : Pre G6 Gx := ⟨_, hGx⟩
  have pG7 : Pre Gx G7 := ⟨_, hG7'⟩
  have lGx : Gx.length = G6.length + 1 := by rw [hGx]; simp
  have yGx : Gx[G5.length]? = some (.cells false y) := by rw [hGx]; exact get_app y6
  have fx : ∀ Z, frz (G7 ++ Z) 12 (.sl G6.length 0 1 62) = some (.ro 1 (gotF 6 m.to m.from' m.seq m.part m.epoch m.key m.bag.known m.bag.vals)) := fun Z => by
    refine frz_one2 (d := 11) (cs := x) ?_ xl ?_
    · rw [hG7, List.append_assoc]
      exact cells_of (g := true) (by simp)
    · rw [hx, hG7, List.append_assoc]
      exact mV_frz (d := 10) ((hqx6.app).frz (d := 9) valC_len val_flat) rfl rfl
  have fy : ∀ Z, frz (G7 ++ Z) 12 (.sl (G6.length + 1) 0 1 62) = some (.ro 1 (gotF 6 m.to m.from' m.seq m.part m.epoch m.key m.bag.known m.bag.vals)) := fun Z => by
    refine frz_one2 (d := 11) (cs := y) ?_ yl ?_
    · rw [hG7, List.append_assoc]
      exact cells_of (g := true) (by simp)
    · rw [hy, hG7, List.append_assoc]
      exact mV_frz (d := 10) ((hqy6.app).frz (d := 9) valC_len val_flat) rfl rfl
  have hpo : partOk m.part = true := by
    simp [msgPlaced] at g3
    exact g3.2.2
  have hp' : 0 ≤ m.part ∧ m.part < 16 := by simpa [partOk] using hpo
  have hneg : ¬ m.part < 0 := by omega
  have hpi : m.part.toNat < 16 := by omega
  have hidx : idx (I m.part) 16 = some m.part.toNat := by
    simp [idx, AV.isInt, hp'.1, hp'.2]
  have c3 := fun {st ep ow : Nat → Int} {ver by' : Int} {q : AV} => ringV_ep (st := st) (ver := ver) (by' := by') (r := q) (ep := ep) (ow := ow) hpi
  have d3 : ∀ {st ep ow : Nat → Int} {ver by' : Int} {q : AV}, ((ringV st ver by' q ep ow).drop (11 + m.part.toNat * 2)).take 1 = [I (ep m.part.toNat)] := fun {st ep ow ver by' q} => by
    have := c3 (st := st) (ep := ep) (ow := ow) (ver := ver) (by' := by') (q := q)
    rw [cut_at (by rw [ringV_len]; omega)] at this
    exact Option.some.inj this
  have l3 : 11 + m.part.toNat * 2 + 1 ≤ 43 := by omega
  have hep : ¬ m.epoch < r.epoch m.part.toNat := by
    have h0 := hold3
    unfold oldE at h0
    rw [hsr3'.1, hsr3'.2] at h0
    have hT : mayT m r = true := by
      cases q : mayT m r
      · rw [q] at h0; simp at h0
      · rfl
    simp [mayT, mayE] at hT
    omega
  have up7 : ∀ (b : Nat) (z : ABlk), G6[b]? = some z → G7[b]? = some z := fun b z hz => by rw [hG7]; exact get_app hz
  have x7 := up7 _ _ x6
  have m7 := up7 _ _ m6
  have r7 := up7 _ _ r6
  have hv7 : Vlt G7 (H.length + 2) H.length (H.length + 1) s3 v5 q5 es5 ck5 := by rw [hG7]; exact hv6.app
  have z17 : ∀ K lim, WCl envE 21 [.ptr (some (H.length, 0))] lim G7 K = K (I s3.ds.length) G7 := fun K lim => WCl_eq (c21 hv7.led.at' hv7.led.row.len lim)
  have hled := hv7.led
  rw [hsy] at hled
  have z30 : ∀ K, WCl envE 30 [.ptr (some (H.length, 0)), I 0] 0 G7 K = K (I 0) G7 := fun K => WCl_eq (c30z hled)
  have fx0 := fx []
  have fy0 := fy []
  rw [List.append_nil] at fx0 fy0
  have xall : (∀ v : AV, v ∈ x → v.one = true) = True := eq_true (List.all_eq_true.1 xo)
  have yall : (∀ v : AV, v ∈ y → v.one = true) = True := eq_true (List.all_eq_true.1 yo)
  have xt : x.take 62 = x := List.take_of_length_le (by omega)
  have yt : y.take 62 = y := List.take_of_length_le (by omega)
  have cutx : cut x 0 62 = some x := cut_all xl
  have cuty : cut y 0 62 = some y := cut_all yl
  simp [← hy, ← hG6, xl, hover, yl, yo, hovery, cutx, cuty, shapeOf, cells_of x6, cells_of y6, cells_of m6, cells_of r6, hneg, hidx, xall, yall, xt, yt, ← hGx, ← hG7', lGx, cells_of yGx, pGx, pG7, fx0, fy0, k29s hml2, z17, z30, cells_of m7, cells_of r7, c3, d3, l3, hep]
  refine WCl.mono (c14f hv7.led hv7.vn inv3'.kinds ok3'.fit) ?_
  rintro _ G8 ⟨rfl, kc8, q8, es8, ck8, hv8⟩
  have kb := kc8.below (by omega) (Nat.le_refl _)
  have hvO := hv7.grow kb
  have m8 := kb _ _ m7
  have r8 := kb _ _ r7
  have x8 := kb _ _ x7
  have hqx8 : Row 0 G8 3 valC m.bag.vals qx := by
    have : Row 0 G7 3 valC m.bag.vals qx := by rw [hG7]; exact hqx6.app
    exact this.keep fun b y hb _ => kb _ _ hb
  obtain ⟨B, hB⟩ : ∃ B, B = bagOf s3 m.key := ⟨_, rfl⟩
  rw [← hB] at hbel
  have hbf : bagOf (foldS (startS s3.ds s3.sure s3.room) s3.ds) m.key = B := by
    rw [hB, bagOf, fold_bags _ _ inv3'.kinds]
    show (lookB (bagsF [] s3.ds) m.key).getD zBagS = _
    rw [← inv3'.bags]
    rfl
  have hfitB : B.vals.length * 32 ≤ reachBytes := by rw [hB]; exact bag_fit ok3'
  have hB2 : B.vals.length < 4611686018427387904 := by omega
  simp [cells_of m8]
  refine WCl.mono (c18w hv8 m.key (by rw [hbf]; exact hfitB) G8.length (Nat.le_refl _)) ?_
  rintro _ _ ⟨Y1, qa, rfl, rfl, hqa⟩
  rw [hbf] at hqa ⊢
  have oa := hqa.one
  have fa : ∀ Z, frz (G8 ++ (Y1 ++ Z)) 11 qa = some (roL valC B.vals) := fun Z => by rw [← List.append_assoc]; exact (hqa.app (X := Z)).frz (d := 9) valC_len val_flat
  have fa0 := fa []
  rw [List.append_nil] at fa0
  have k31i := fun H K => k31 (ka := m.bag.known) (la := m.bag.vals) (kb := B.known) (lb := B.vals) hml2 hB2 (H := H) (K := K)
  rw [hbel] at k31i
  have m9 := fun Z => cells_of (get_app (X := Z) m8)
  have x9 := fun Z => cells_of (get_app (X := Z) x8)
  simp [oa, fa0, k31i, m9, x9]
  refine WCl.mono (c18w (hv8.app (X := Y1)) m.key (by rw [hbf]; exact hfitB) _ (by simp)) ?_
  rintro _ _ ⟨Y2, qb, rfl, rfl, hqb⟩
  rw [hbf] at hqb ⊢
  have ob := hqb.one
  simp [ob, m9]
  refine WCl.mono (c18w (hvO.app (X := Y1 ++ Y2)) m.key (by rw [← hB]; exact hfitB) _ (by simp)) ?_
  rintro _ _ ⟨Y3, qc, rfl, rfl, hqc⟩
  rw [← hB] at hqc ⊢
  have oc := hqc.one
  have fb : frz (G8 ++ (Y1 ++ (Y2 ++ Y3))) 11 qb = some (roL valC B.vals) := by
    have := (hqb.app (X := Y3)).frz (d := 9) valC_len val_flat
    simpa using this
  have fc : frz (G8 ++ (Y1 ++ (Y2 ++ Y3))) 11 qc = some (roL valC B.vals) := by
    have := hqc.frz (d := 9) valC_len val_flat
    simpa using this
  have fqx : frz (G8 ++ (Y1 ++ (Y2 ++ Y3))) 11 qx = some (roL valC m.bag.vals) := (hqx8.app).frz (d := 9) valC_len val_flat
  have k15i := fun H K => k15 (k := B.known) (k' := B.known) (l := B.vals) (l' := B.vals) hB2 (H := H) (K := K)
  have hsame : bagSame B.known B.vals B.known B.vals = true := bagSame_refl (b := B)
  rw [hsame] at k15i
  have k15m := fun H K => k15 (k := m.bag.known) (k' := m.bag.known) (l := m.bag.vals) (l' := m.bag.vals) hml2 (H := H) (K := K)
  have hsame2 : bagSame m.bag.known m.bag.vals m.bag.known m.bag.vals = true := bagSame_refl (b := m.bag)
  rw [hsame2] at k15m
  have cx8 : cut x 8 1 = some [.str m.key] := by
    rw [cut_at (by omega), hx]
    exact congrArg some mV_f8
  have cx9 : cut x 9 9 = some (bagV m.bag.known qx) := by
    rw [cut_at (by omega), hx]
    exact congrArg some mV_f9
  simp [ob, oc, fb, fc, fqx, k15i, k15m, m9, x9, cx8, cx9, k24]
theorem takeSure_law (cs : List AV) (h : FitsArgs [(true, shMsg), (true, shRing), (true, shBag), (false, .str)] cs) : ∃ n H', callF envE (exec envE n) 4 cs 0 [] = some (.bool true, H') := by
  obtain ⟨a, rest, rfl, h1, t⟩ := fa_row h
  obtain ⟨c, rest, rfl, h2, t⟩ := fa_row t
  obtain ⟨d, rest, rfl, h3, t⟩ := fa_row t
  obtain ⟨e, rest, rfl, h4, t⟩ := fa_one t
  cases fa_nil t
  obtain ⟨m, rfl, _, hm, _⟩ := of_msg h1
  obtain ⟨r, rfl, _, hr⟩ := of_ring h2
  obtain ⟨b, rfl, _, hb⟩ := of_bag h3
  obtain ⟨x, e1, _⟩ := fits_str h4
  cases e1
  exact law_of (takeSure_pu m r b x hm hr hb) (args_cons (frz_agg (msg_roframe m.kind m [])) (args_cons (frz_agg (by simp)) (args_cons (frz_agg (by simp)) (by simp))))
end Go.Proofs.YtflgfiieaoeknaaGreatA

namespace Go.Proofs.YtflgfiieaoeknaaGreat.takeSure
open Go.ChangeShapes Go.WideShapes Go.ChangeAt Go.RowKit
set_option linter.unusedVariables false
theorem own : ownKnob Tryz.prog.godebug = none := by kernel_rfl
set_option maxRecDepth 1000000 in
theorem lifted (os : Os) (started : os.Started) (H : Type) (enc : TypeId × Value → H) :
    ReturnsInHanded {} Tryz.checked os 4 .any (Rows.takeSureSpec.pre6 enc Tryz.prog Tryz.f4 Rows.takeSureRow.domain false) (Rows.takeSureSpec.post enc Tryz.prog Tryz.f4 false true false false) :=
  YtflgfiieaoeknaaGreatA.law_lifted (C := Tryz.checked) YtflgfiieaoeknaaGreatA.env_good (fd := YtflgfiieaoeknaaGreatA.fd4) (tb := 4) rfl own started (by kernel_rfl) Tryz.func4
    (ChangeSpec.witness6 (enc := enc) (C := Tryz.checked) false ⟨#[], #[((Tryz.prog.info? 66).bind (·.zero)).getD .nilFunc, ((Tryz.prog.info? 42).bind (·.zero)).getD .nilFunc, ((Tryz.prog.info? 47).bind (·.zero)).getD .nilFunc, ((Tryz.prog.info? 9).bind (·.zero)).getD .nilFunc], []⟩ 8 (by kernel_rfl) (by kernel_rfl) (by kernel_rfl) (by kernel_rfl))
    (by kernel_rfl) (by decide +kernel) (by kernel_rfl) rfl (by kernel_rfl) (by kernel_rfl) (fun ds h => by
      match ds, h with
      | [d0, d1, d2, d3], _ => rfl) YtflgfiieaoeknaaGreatA.takeSure_law
theorem over : Rows.takeSureRow.holds Tryz.pinned (OpenSpec.ofChange Rows.takeSureSpec) :=
  OpenClaim.holds_of_wide 4 Tryz.f4 rfl rfl rfl rfl rfl rfl rfl ⟨rfl, rfl, rfl, rfl, rfl⟩ rfl rfl rfl rfl rfl (by kernel_rfl) Tryz.func4 (by kernel_rfl)
    (of_decide_eq_true (by kernel_rfl)) (by unfold Func.isWrapper; first | (rw [if_pos (by decide +kernel)]; kernel_rfl) | (rw [if_neg (by decide +kernel)]; exact ⟨rfl, rfl⟩))
    (fun os started H enc _ => lifted os started H enc)
end Go.Proofs.YtflgfiieaoeknaaGreat.takeSure
namespace Go.Proofs.YtflgfiieaoeknaaGreat
/-- The row, under a short name, for the claim. -/
theorem takeSure_holds : Rows.TakeSureSaid := takeSure.over
#print axioms takeSure_holds
end Go.Proofs.YtflgfiieaoeknaaGreat


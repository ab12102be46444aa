/- A ledger with deeds is opened. No statement about the program is proved here. -/
import Derived.Test.YtflgfiieaoeknaaGreatV7
namespace Go.Proofs.YtflgfiieaoeknaaGreatA
open Go
set_option linter.unusedSimpArgs false
set_option linter.unusedVariables false
set_option maxRecDepth 1000000
attribute [local simp] deed_zero

/-- What stays while a deed counts: all but the box and the map. -/
def Kc (H H' : Heap) (p mi : Nat) : Prop := H.length ≤ H'.length ∧ ∀ (b : Nat) (z : ABlk), H[b]? = some z → b ≠ p → b ≠ mi → H'[b]? = some z
theorem Kc.app {H X : Heap} {p mi : Nat} : Kc H (H ++ X) p mi := ⟨by simp, fun b z h _ _ => get_app h⟩
theorem Kc.refl {H : Heap} {p mi : Nat} : Kc H H p mi := ⟨Nat.le_refl _, fun b z h _ _ => h⟩
theorem Kc.trans {H H1 H2 : Heap} {p mi : Nat} (h : Kc H H1 p mi) (k : Kc H1 H2 p mi) : Kc H H2 p mi := ⟨Nat.le_trans h.1 k.1, fun b z q a c => k.2 b z (h.2 b z q a c) a c⟩
def CStep (H H' : Heap) (p lb mi : Nat) (s' : VSt) (v : AV) : Prop := Kc H H' p mi ∧ ∃ q es ck, Vlt H' p lb mi s' v q es ck
set_option maxHeartbeats 1000000 in
theorem c49s {H : Heap} {p lb mi : Nat} {s : VSt} {v q : AV} {es : List (AV × AV × Nat)} {ck : Nat} (h : Vlt H p lb mi s v q es ck) (d : Deed) (q1 q2 : AV) (hk : d.kind = 1 ∨ d.kind = 2 ∨ d.kind = 3) (h1 : Rd H 3 valC d.bag.vals q1) (h2 : Rd H 1 intC d.ring.plan.targets q2) (hf : deedFits d) (hr : s.rings ≤ 4611686018427387903) :
    WCl envE 49 [.ptr (some (p, 0)), .agg (deedM d q1 q2)] 0 H fun r H' => CStep H H' p lb mi (countS s d) v := by
  have hrb : reachBytes = 140737488351232 := rfl
  obtain ⟨f1, f2⟩ := hf
  refine cl_of e49 rfl ?_
  have hone : (deedM d q1 q2).all AV.one = true := deedM_one h1.one h2.one
  have hlen : (deedM d q1 q2).length = 56 := deedM_len
  have hd : deedM d q1 q2 = deedV d.kind d.n d.key d.bag.known q1 d.ring.status d.ring.plan.version d.ring.plan.by' q2 d.ring.epoch d.ring.owner d.part := rfl
  obtain ⟨H1, hH1⟩ : ∃ H1, H1 = H ++ [.cells false (deedM d q1 q2)] := ⟨_, rfl⟩
  have hv1 : Vlt H1 p lb mi s v q es ck := by rw [hH1]; exact h.app
  have kp1 : Kc H H1 p mi := by rw [hH1]; exact .app
  have co : ∀ Z, Heap.cells? (H1 ++ Z) H.length = some (deedV d.kind d.n d.key d.bag.known q1 d.ring.status d.ring.plan.version d.ring.plan.by' q2 d.ring.epoch d.ring.owner d.part) := fun Z => by rw [hH1, ← hd]; simp [Heap.cells?]
  have co0 : Heap.cells? H1 H.length = some (deedV d.kind d.n d.key d.bag.known q1 d.ring.status d.ring.plan.version d.ring.plan.by' q2 d.ring.epoch d.ring.owner d.part) := by simpa using co []
  have cp := hv1.cells
  have cp0 := hv1.cells0
  have kpset : ∀ (X : Heap) (z : ABlk), Kc H ((H1 ++ X).set p z) p mi := fun X z => ⟨by rw [hH1]; simp, fun b y hb n1 _ => get_set (get_app (by rw [hH1]; exact get_app hb)) (Ne.symm n1)⟩
  have boxX : ∀ X : Heap, (H1 ++ X)[p]? = some (.cells false (vltC lb mi s q)) := fun X => get_app hv1.box
  have fin : ∀ (X : Heap) (s' : VSt) (q' : AV), s'.ds = s.ds → s'.sure = s.sure → s'.room = s.room → s'.bags = s.bags → Row 0 (H1 ++ X) 1 intC s'.ring.plan.targets q' → CStep H ((H1 ++ X).set p (.cells false (vltC lb mi s' q'))) p lb mi s' v := fun X s' q' e1 e2 e3 e4 hq => by
    have hvX := hv1.app (X := X)
    refine ⟨kpset X _, q', es, ck, ?_, ?_, hq.set (off_falseR hq hvX.box), ?_, ?_, ?_⟩
    · rw [List.getElem?_set_self (lt_of hvX.box)]
    · rw [e1, e2, e3]
      exact ⟨get_set hvX.led.at' hv1.plb, hvX.led.row.setF hvX.box, hvX.led.few⟩
    · exact get_set hvX.map hv1.pmi
    · rw [e4]
      exact hvX.ents.keep fun b y hb _ => get_set hb (fun e => by subst e; rw [hvX.box] at hb; cases hb)
    · rw [e1]; exact h.vn
  rcases hk with hk | hk | hk
  · have hst := store_of (lim := 0) (n := 1) (o := 1) (v := I d.n) hv1.box (by omega) (by simp) (by simp) (by simp)
    simp at hst
    have hc : countS s d = { s with inc := d.n } := by simp [countS, hk]
    rw [hc]
    rw [hd]
    rw [hd] at hone hlen hH1
    rw [hk] at hone hlen hH1 co co0
    rw [fr_init (by simp [fd49])]
    simp [fd49, b49, hk, h1.one, h2.one, ← hH1, co0, cp0, hst]
    have := fin [] { s with inc := d.n } q rfl rfl rfl rfl (by simpa using hv1.tgt)
    simpa using this
  · have hkj := fun H K => k74s (r := d.ring) (H := H) (K := K) f2
    obtain ⟨v1, X1, t1, r1⟩ := thaw_owL (H := H1) (lim := H1.length) (es := 1) int_still (Nat.le_refl _) d.ring.plan.targets
    have fq : frz H1 11 q2 = some (roL intC d.ring.plan.targets) := by rw [hH1]; exact (h2.app).frz (d := 9) intC_len int_flat
    have hst := store_of (lim := 0) (n := 43) (o := 2) (v := .agg (ringV d.ring.status d.ring.plan.version d.ring.plan.by' v1 d.ring.epoch d.ring.owner)) (boxX X1) (by omega) (by simp [AV.cells]) (by simp) (by simp [AV.cells, r1.one])
    simp only [AV.cells, vlt_s2] at hst
    have hbox2 : ((H1 ++ X1).set p (.cells false (vltC lb mi { s with ring := d.ring } v1)))[p]? = some (.cells false (vltC lb mi { s with ring := d.ring } v1)) := List.getElem?_set_self (lt_of (boxX X1))
    have hw : IntKind.i64.wrap ((s.rings : Int) + 1) = ((s.rings + 1 : Nat) : Int) := by rw [wrap_i64] <;> omega
    have hst2 := store_of (lim := 0) (n := 1) (o := 45) (v := I ((s.rings + 1 : Nat) : Int)) hbox2 (by omega) (by simp) (by simp) (by simp)
    simp only [AV.cells, setFrom, vlt_s45, List.set_set] at hst2
    have hc : countS s d = { s with ring := d.ring, rings := s.rings + 1 } := by simp [countS, hk]
    have cb2 := cells_of hbox2
    rw [hc]
    rw [hd]
    rw [hd] at hone hlen hH1
    rw [hk] at hone hlen hH1 co co0
    have r1' := r1.mono (Nat.zero_le _)
    have res := fin X1 { s with ring := d.ring, rings := s.rings + 1 } v1 rfl rfl rfl rfl r1'
    rw [Int.natCast_add, Int.natCast_one] at hw hst2
    rw [fr_init (by simp [fd49])]
    simp [fd49, b49, hk, h1.one, h2.one, ← hH1, co0, cp0, fq, hkj, t1, r1.one, cp, hst, cb2, hw, hst2]
    exact res
  · have hkj := fun H K => k75 (k := d.bag.known) (l := d.bag.vals) (H := H) (K := K) f1
    obtain ⟨v1, X1, t1, r1⟩ := thaw_owL (H := H1) (lim := H1.length) (es := 3) val_still (Nat.le_refl _) d.bag.vals
    have fq : frz H1 11 q1 = some (roL valC d.bag.vals) := by rw [hH1]; exact (h1.app).frz (d := 9) valC_len val_flat
    have r1' := r1.mono (Nat.zero_le _)
    have hvX := hv1.app (X := X1)
    have hc : countS s d = { s with bags := setB s.bags d.key d.bag, dots := max s.dots d.n } := by simp [countS, hk]
    rw [hc]
    rw [hd]
    rw [hd] at hone hlen hH1
    rw [hk] at hone hlen hH1 co co0
    have hmx : max d.n s.dots = max s.dots d.n := Int.max_comm _ _
    have main : ∀ es' ck', Ents (H1 ++ X1) (setB s.bags d.key d.bag) es' → ∀ H2, H2 = (H1 ++ X1).set mi (.map es' ck') → H2[p]? = some (.cells false (vltC lb mi s q)) ∧ Heap.cells? H2 H.length = some (deedV 3 d.n d.key d.bag.known q1 d.ring.status d.ring.plan.version d.ring.plan.by' q2 d.ring.epoch d.ring.owner d.part) ∧ storeAt 0 H2 1 (.ptr (some (p, 46))) (I (max s.dots d.n)) = some (H2.set p (.cells false (vltC lb mi { s with dots := max s.dots d.n } q))) ∧ CStep H (H2.set p (.cells false (vltC lb mi { s with dots := max s.dots d.n } q))) p lb mi { s with bags := setB s.bags d.key d.bag, dots := max s.dots d.n } v := by
      intro es' ck' hE H2 hH2
      have b2 : H2[p]? = some (.cells false (vltC lb mi s q)) := by rw [hH2]; exact get_set hvX.box hv1.pmi.symm
      have mk : ∀ (b : Nat) (y : List AV) (g : Bool), (H1 ++ X1)[b]? = some (.cells g y) → H2[b]? = some (.cells g y) := fun b y g hb => by rw [hH2]; exact get_set hb (fun e => by subst e; rw [hvX.map] at hb; cases hb)
      have mk2 : ∀ (b : Nat) (y : List AV) z, (H1 ++ X1)[b]? = some (.cells true y) → (H2.set p z)[b]? = some (.cells true y) := fun b y z hb => get_set (mk b y true hb) (fun e => by subst e; rw [hvX.box] at hb; cases hb)
      have hst := store_of (lim := 0) (n := 1) (o := 46) (v := I (max s.dots d.n)) b2 (by omega) (by simp) (by simp) (by simp)
      simp only [AV.cells, setFrom, vlt_s46] at hst
      refine ⟨b2, ?_, hst, ⟨?_, ?_⟩, q, es', ck', ?_, ?_, ?_, ?_, ?_, h.vn⟩
      · refine cells_of (mk _ _ false ?_)
        rw [hH1]
        simp
      · rw [hH2, hH1]; simp
      · intro b z hb n1 n3
        refine get_set ?_ (Ne.symm n1)
        rw [hH2]
        refine get_set ?_ (Ne.symm n3)
        rw [hH1]
        exact get_app (get_app hb)
      · rw [List.getElem?_set_self (lt_of b2)]; rfl
      · refine ⟨get_set (mk _ _ false hvX.led.at') hv1.plb, hvX.led.row.keep fun b y _ hb => mk2 b y _ hb, hvX.led.few⟩
      · exact hvX.tgt.keep fun b y hb _ => mk2 b y _ hb
      · refine get_set ?_ hv1.pmi
        rw [hH2]
        exact List.getElem?_set_self (lt_of hvX.map)
      · exact hE.keep fun b y hb _ => mk2 b y _ hb
    have hmapX := hvX.map
    rcases hvX.ents.find (key := d.key) 0 with ⟨g1, g2⟩ | ⟨j, r, b, g1, g2, g3⟩
    · have hE := hvX.ents.put (x := d.bag) r1' g1 ck
      obtain ⟨H2, hH2⟩ : ∃ H2, H2 = (H1 ++ X1).set mi (.map (es ++ [(.str d.key, .agg (bagV d.bag.known v1), ck)]) (ck + 1)) := ⟨_, rfl⟩
      obtain ⟨m1, m2, m3, m4⟩ := main _ _ hE H2 hH2
      have m5 : H1.length + X1.length ≤ H2.length := by rw [hH2]; simp
      rw [fr_init (by simp [fd49])]
      simp [fd49, b49, hk, h1.one, h2.one, ← hH1, co0, cp0, fq, hkj, t1, r1.one, cp, hmapX, g2, isKey, ← hH2, cells_of m1, m2, hmx, m3, m5]
      exact m4
    · have hE := hvX.ents.over (x := d.bag) r1' g2
      rw [Nat.sub_zero] at hE
      obtain ⟨H2, hH2⟩ : ∃ H2, H2 = (H1 ++ X1).set mi (.map (es.modify j fun e => (.str d.key, .agg (bagV d.bag.known v1), e.2.2)) ck) := ⟨_, rfl⟩
      obtain ⟨m1, m2, m3, m4⟩ := main _ _ hE H2 hH2
      have m5 : H1.length + X1.length ≤ H2.length := by rw [hH2]; simp
      rw [fr_init (by simp [fd49])]
      simp [fd49, b49, hk, h1.one, h2.one, ← hH1, co0, cp0, fq, hkj, t1, r1.one, cp, hmapX, g2, isKey, ← hH2, cells_of m1, m2, hmx, m3, m5]
      exact m4

/-! ## The fold of the deeds -/
def foldS (s : VSt) (ds : List Deed) : VSt := ds.foldl countS s
def startS (ds : List Deed) (sure : Nat) (room : Int) : VSt := ⟨ds, sure, room, 0, zRingS, 0, 0, []⟩
theorem fold_step {s : VSt} {ds : List Deed} {i : Nat} (hi : i < ds.length) : foldS s (ds.take (i + 1)) = countS (foldS s (ds.take i)) ds[i] := by
  rw [List.take_succ_eq_append_getElem hi, foldS, List.foldl_append]
  rfl
theorem count_keep (s : VSt) (d : Deed) : (countS s d).ds = s.ds ∧ (countS s d).sure = s.sure ∧ (countS s d).room = s.room ∧ (countS s d).rings ≤ s.rings + 1 := by
  unfold countS
  split
  · exact ⟨rfl, rfl, rfl, by simp⟩
  · split
    · exact ⟨rfl, rfl, rfl, by simp⟩
    · split
      · exact ⟨rfl, rfl, rfl, by simp⟩
      · exact ⟨rfl, rfl, rfl, by simp⟩
theorem fold_keep : ∀ (ds : List Deed) (s : VSt), (foldS s ds).ds = s.ds ∧ (foldS s ds).sure = s.sure ∧ (foldS s ds).room = s.room ∧ (foldS s ds).rings ≤ s.rings + ds.length
  | [], s => ⟨rfl, rfl, rfl, by simp [foldS]⟩
  | d :: ds, s => by
    obtain ⟨a1, a2, a3, a4⟩ := count_keep s d
    obtain ⟨b1, b2, b3, b4⟩ := fold_keep ds (countS s d)
    have e : foldS s (d :: ds) = foldS (countS s d) ds := rfl
    rw [e]
    refine ⟨b1.trans a1, b2.trans a2, b3.trans a3, ?_⟩
    simp only [List.length_cons]
    omega
def bagsF (m : List (List UInt8 × Bag)) (ds : List Deed) : List (List UInt8 × Bag) := ds.foldl (fun m d => if d.kind = 3 then setB m d.key d.bag else m) m
theorem fold_bags : ∀ (ds : List Deed) (s : VSt), (∀ d ∈ ds, d.kind = 1 ∨ d.kind = 2 ∨ d.kind = 3) → (foldS s ds).bags = bagsF s.bags ds
  | [], s, _ => rfl
  | d :: ds, s, h => by
    have e : foldS s (d :: ds) = foldS (countS s d) ds := rfl
    rw [e, fold_bags ds _ fun x hx => h x (List.mem_cons_of_mem _ hx)]
    have e2 : bagsF s.bags (d :: ds) = bagsF (if d.kind = 3 then setB s.bags d.key d.bag else s.bags) ds := rfl
    rw [e2]
    congr 1
    rcases h d (List.mem_cons_self ..) with k | k | k <;> simp [countS, k]

/-! ## Open -/
set_option maxHeartbeats 1000000 in
theorem c14f {H : Heap} {lb : Nat} {v : AV} {ds : List Deed} {sure : Nat} {room : Int} (h : Led 0 H lb v ds (sure : Nat) room) (hv : ds = [] → v = .nilsl) (hk : ∀ d ∈ ds, d.kind = 1 ∨ d.kind = 2 ∨ d.kind = 3) (hf : ∀ d ∈ ds, deedFits d) :
    WCl envE 11 [.ptr (some (lb, 0))] 0 H fun r H' => r = .ptr (some (H.length + 1, 0)) ∧ CStep H H' (H.length + 1) lb H.length (foldS (startS ds sure room) ds) v := by
  refine cl_of e11 rfl ?_
  obtain ⟨B, hB⟩ : ∃ B, B = vltE lb H.length := ⟨_, rfl⟩
  have hbo : (∀ x : AV, x ∈ B → x.one = true) = True := eq_true (List.all_eq_true.1 (by rw [hB]; exact vlt_one))
  have hl := lt_of h.at'
  have hL : Led 0 (H ++ [.map [] 0, .cells false B]) lb v ds (sure : Nat) room := h.app
  have hall := c50 hL hf 0 (Nat.zero_le _)
  rw [fr_init (by simp [fd11])]
  simp [fd11, b11, vlt_zero, ← hB, hbo]
  refine WCl.mono hall ?_
  rintro x _ ⟨X, rfl, hD⟩
  have hlen := hD.len
  have hDz : DRow 0 (H ++ [ABlk.map [] 0, ABlk.cells false B] ++ X) ds x := hD.mono (Nat.zero_le _)
  have hst : Vlt (H ++ [ABlk.map [] 0, ABlk.cells false B] ++ X) (H.length + 1) lb H.length (startS ds sure room) v .nilsl [] 0 := by
    refine ⟨?_, hL.app, .nil, ?_, trivial, hv⟩
    · rw [hB]; simp [vltE, vltC, emptyS, startS, zRingS]
    · simp
  obtain ⟨H1, hH1⟩ : ∃ H1, H1 = H ++ [ABlk.map [] 0, ABlk.cells false B] ++ X := ⟨_, rfl⟩
  rw [← hH1] at hDz hst
  have kc1 : Kc H H1 (H.length + 1) H.length := by rw [hH1, List.append_assoc]; exact .app
  have hH1' : H1 = H ++ ABlk.map [] 0 :: ABlk.cells false B :: X := by rw [hH1]; simp
  have few := h.few
  simp [hlen, ← hH1']
  refine loop_go [3, 4, 16, 17, 18] rfl (fun m vs H' => ∃ i, m + i = ds.length ∧ CStep H H' (H.length + 1) lb H.length (foldS (startS ds sure room) (ds.take i)) v ∧ DRow 0 H' ds x ∧ vs = [.ptr (some (H.length + 1, 0)), .fn (.func 49) [.ptr (some (H.length + 1, 0))] [], x, I ds.length, I i]) ?_ ds.length ⟨0, rfl, ⟨kc1, _, _, _, hst⟩, hDz, rfl⟩
  rintro J hJ m vs H' f ⟨i, hm, ⟨kc, q, es, ck, hvv⟩, hrow, rfl⟩
  by_cases hi : i < ds.length
  · have hws := wrap_succ (i := i) (by omega)
    obtain ⟨q1, q2, hld, s1, s2⟩ := hrow.load hi
    obtain ⟨d, hd⟩ : ∃ d, d = ds[i] := ⟨_, rfl⟩
    have hfd := hf ds[i] (List.getElem_mem _)
    have hkd := hk ds[i] (List.getElem_mem _)
    rw [← hd] at hld s1 s2 hfd hkd
    have hone : (deedM d q1 q2).all AV.one = true := deedM_one s1.one s2.one
    have hone2 : ∀ x ∈ deedM d q1 q2, AV.one x = true := List.all_eq_true.1 hone
    have hdl : (deedM d q1 q2).length = 56 := deedM_len
    have htake : (deedM d q1 q2).take 56 = deedM d q1 q2 := List.take_of_length_le (by rw [deedM_len]; omega)
    have hover1 : ∀ l : List AV, l.length = 56 → setFrom l 0 (deedM d q1 q2) = deedM d q1 q2 := fun l hl => setFrom_all _ _ (by rw [hl, deedM_len])
    obtain ⟨H2, hH2⟩ : ∃ H2, H2 = H' ++ [ABlk.cells false (deedM d q1 q2)] := ⟨_, rfl⟩
    have hc2 : Heap.cells? H2 H'.length = some (deedM d q1 q2) := by rw [hH2]; simp
    have hv2 := hvv.app (X := [ABlk.cells false (deedM d q1 q2)])
    rw [← hH2] at hv2
    have a1 : Row 0 H2 3 valC d.bag.vals q1 := by rw [hH2]; exact s1.app
    have a2 : Row 0 H2 1 intC d.ring.plan.targets q2 := by rw [hH2]; exact s2.app
    obtain ⟨f1, f2, f3, f4⟩ := fold_keep (ds.take i) (startS ds sure room)
    have hr : (foldS (startS ds sure room) (ds.take i)).rings ≤ 4611686018427387903 := by
      have : (startS ds sure room).rings = 0 := rfl
      rw [List.length_take] at f4
      omega
    have h49 := c49s hv2 d q1 q2 hkd (.inl a1) (.inl a2) hfd hr
    rw [hd, ← fold_step hi, ← hd] at h49
    simp [lp11_0, hi, hrow.at hi, hld, hdl, hone, hone2, hover1, htake, ← hH2, hc2]
    refine WCl.mono h49 ?_
    rintro _ H4 ⟨kc4, q4, es4, ck4, hv4⟩
    have hrow4 : DRow 0 H4 ds x := by
      have : DRow 0 H2 ds x := by rw [hH2]; exact hrow.app
      refine this.keep fun b y _ hb => kc4.2 b _ hb (fun e => ?_) (fun e => ?_)
      · subst e; rw [hv2.box] at hb; cases hb
      · subst e; rw [hv2.map] at hb; cases hb
    have kc2 : Kc H' H2 (H.length + 1) H.length := by rw [hH2]; exact .app
    simp [hws]
    exact nxt hJ (m - 1) (by omega) ⟨i + 1, by omega, ⟨(kc.trans kc2).trans kc4, q4, es4, ck4, hv4⟩, hrow4, rfl⟩
  · have e : ds.take i = ds := List.take_of_length_le (by omega)
    rw [e] at hvv
    simp [lp11_0, hi]
    exact ⟨kc, q, es, ck, hvv⟩
end Go.Proofs.YtflgfiieaoeknaaGreatA

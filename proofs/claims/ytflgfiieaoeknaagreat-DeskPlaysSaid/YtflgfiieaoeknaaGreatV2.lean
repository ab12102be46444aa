/- What a vault's functions do: a deed counts, and is written. No statement about the program is proved here. -/
import Derived.Test.YtflgfiieaoeknaaGreatV1
namespace Go.Proofs.YtflgfiieaoeknaaGreatA
open Go
set_option linter.unusedSimpArgs false
set_option linter.unusedVariables false
set_option maxRecDepth 1000000
attribute [local simp] deed_zero

theorem off_falseR {α : Type} {lim es b : Nat} {H : Heap} {f : α → List AV} {l : List α} {v : AV} {z : ABlk} (h : Row lim H es f l v) (hb : H[b]? = some z) (hz : ∀ y, z ≠ .cells true y := by intro y e; cases e) : Off v b := by
  rintro o n s rfl
  rcases h with ⟨_, q⟩ | ⟨_, b', _, q, q2⟩
  · cases q
  · cases q
    rw [hb] at q2
    exact hz _ (Option.some.inj q2)
/-- A row that may be read: one of ours, or one that is only read. -/
def Rd {α : Type} (H : Heap) (es : Nat) (f : α → List AV) (l : List α) (q : AV) : Prop := Row 0 H es f l q ∨ q = roL f l
section
variable {α : Type} {H H' : Heap} {es : Nat} {f : α → List AV} {l : List α} {q : AV}
theorem Rd.app {X : Heap} (h : Rd H es f l q) : Rd (H ++ X) es f l q := h.imp (fun h => h.app) id
theorem Rd.one (h : Rd H es f l q) : AV.one q = true := by
  rcases h with h | rfl
  · exact h.one
  · rfl
theorem Rd.frz {d : Nat} (hl : ∀ x, (f x).length = es) (hf : Flat f) (h : Rd H es f l q) : frz H (d + 2) q = some (roL f l) := by
  rcases h with h | rfl
  · exact h.frz hl hf
  · exact frz_roL
theorem Rd.keepD (h : Rd H es f l q) (hf : isD (l.flatMap f) = false) (hk : ∀ (b : Nat) (y : List AV), H[b]? = some (.cells true y) → isD y = false → H'[b]? = some (.cells true y)) : Rd H' es f l q := h.imp (fun h => h.keepD hf hk) id
end
theorem Kp.rows {H H' : Heap} {p lb mi : Nat} {s : VSt} {v q : AV} {es : List (AV × AV × Nat)} {ck : Nat} (h : Kp H H' p lb mi) (hv : Vlt H p lb mi s v q es ck) : ∀ (b : Nat) (y : List AV), H[b]? = some (.cells true y) → isD y = false → H'[b]? = some (.cells true y) := fun b y hb hy => h.2 b _ hb
  (fun e => by subst e; rw [hv.box] at hb; cases hb) (fun e => by subst e; rw [hv.led.at'] at hb; cases hb) (fun e => by subst e; rw [hv.map] at hb; cases hb) (fun y' e => by cases e; exact hy)
theorem copied_pu (k : Nat → Int) (l : List Val) (hf : l.length * 32 ≤ reachBytes) : Pu envE 75 [.agg (bagV k (roL valC l))] (.agg (bagV k (owL 3 valC l))) := by
  have hr : reachBytes = 140737488351232 := rfl
  refine pu_is e75 rfl ?_
  obtain ⟨v1, X1, q1, r1⟩ := clone_ro (lim := 0) (bytes := 32) (H := [.cells false (bagV k (roL valC l)), .cells false (bagV zeroV .nilsl)]) (l := l) (es := 3) valC_len (by omega) valC_one (by simp only [most]; omega) (by simp only [most]; omega) (by simp)
  have hc1 : ∀ K, WCl envE 73 [roL valC l] 0 [.cells false (bagV k (roL valC l)), .cells false (bagV zeroV .nilsl)] K = K v1 ([.cells false (bagV k (roL valC l)), .cells false (bagV zeroV .nilsl)] ++ X1) := fun K => WCl_eq (cl_prim e73 q1)
  obtain ⟨u2, o2, n2, m2⟩ := ((r1.set (b := 0) (z := .cells false (bagV k v1)) (r1.off (by simp))).set (b := 1) (z := .cells false (bagV k v1)) (r1.off (by simp))).own (d := 9) valC_len (by omega) val_plain
  have hone : (bagV k v1).all AV.one = true := by simp [r1.one]
  simp only [List.cons_append, List.nil_append] at hc1 o2
  simp at o2
  rw [fr_init (by simp [fd75])]
  simp [fd75, b75, bagV_zero, hc1, r1.cells, r1.one, hone, o2, n2]
theorem k75 {k : Nat → Int} {l : List Val} {H : Heap} {K : AV → Heap → Prop} (hf : l.length * 32 ≤ reachBytes) : wPu envE 75 (some [.agg (bagV k (roL valC l))]) H K = K (.agg (bagV k (thaw (owL 3 valC l) H).1)) (thaw (owL 3 valC l) H).2 := (wPu_eq (copied_pu k l hf)).trans (by simp)

/-- What a step of a vault leaves behind. -/
def VStep (H H' : Heap) (p lb mi : Nat) (s' : VSt) : Prop := Kp H H' p lb mi ∧ ∃ v q es ck, Vlt H' p lb mi s' v q es ck
set_option maxHeartbeats 1000000 in
theorem c49 {H : Heap} {p lb mi : Nat} {s : VSt} {v q : AV} {es : List (AV × AV × Nat)} {ck : Nat} (h : Vlt H p lb mi s v q es ck) (d : Deed) (q1 q2 : AV) (hk : d.kind = 1 ∨ d.kind = 2 ∨ d.kind = 3) (h1 : Rd H 3 valC d.bag.vals q1) (h2 : Rd H 1 intC d.ring.plan.targets q2) (hf : deedFits d) (hr : s.rings ≤ 4611686018427387903) :
    WCl envE 49 [.ptr (some (p, 0)), .agg (deedM d q1 q2)] 0 H fun r H' => VStep H H' p lb mi (countS s d) := by
  have hrb : reachBytes = 140737488351232 := rfl
  obtain ⟨f1, f2⟩ := hf
  refine cl_of e49 rfl ?_
  have hone : (deedM d q1 q2).all AV.one = true := deedM_one h1.one h2.one
  have hlen : (deedM d q1 q2).length = 56 := deedM_len
  have hd : deedM d q1 q2 = deedV d.kind d.n d.key d.bag.known q1 d.ring.status d.ring.plan.version d.ring.plan.by' q2 d.ring.epoch d.ring.owner d.part := rfl
  obtain ⟨H1, hH1⟩ : ∃ H1, H1 = H ++ [.cells false (deedM d q1 q2)] := ⟨_, rfl⟩
  have hv1 : Vlt H1 p lb mi s v q es ck := by rw [hH1]; exact h.app
  have kp1 : Kp H H1 p lb mi := by rw [hH1]; exact .app
  have co : ∀ Z, Heap.cells? (H1 ++ Z) H.length = some (deedV d.kind d.n d.key d.bag.known q1 d.ring.status d.ring.plan.version d.ring.plan.by' q2 d.ring.epoch d.ring.owner d.part) := fun Z => by rw [hH1, ← hd]; simp [Heap.cells?]
  have co0 : Heap.cells? H1 H.length = some (deedV d.kind d.n d.key d.bag.known q1 d.ring.status d.ring.plan.version d.ring.plan.by' q2 d.ring.epoch d.ring.owner d.part) := by simpa using co []
  have cp := hv1.cells
  have cp0 := hv1.cells0
  have kpset : ∀ (X : Heap) (z : ABlk), Kp H ((H1 ++ X).set p z) p lb mi := fun X z => ⟨by rw [hH1]; simp, fun b y hb n1 _ _ _ => get_set (get_app (by rw [hH1]; exact get_app hb)) (Ne.symm n1), fun b y hb n1 _ _ _ => get_set (get_app (by rw [hH1]; exact get_app hb)) (Ne.symm n1), fun b _ ⟨v, s, r, hb, o⟩ => ⟨v, s, r, get_set (get_app (by rw [hH1]; exact get_app hb)) h.plb, o⟩⟩
  have boxX : ∀ X : Heap, (H1 ++ X)[p]? = some (.cells false (vltC lb mi s q)) := fun X => get_app hv1.box
  have fin : ∀ (X : Heap) (s' : VSt) (q' : AV), s'.ds = s.ds → s'.sure = s.sure → s'.room = s.room → s'.bags = s.bags → Row 0 (H1 ++ X) 1 intC s'.ring.plan.targets q' → VStep H ((H1 ++ X).set p (.cells false (vltC lb mi s' q'))) p lb mi s' := fun X s' q' e1 e2 e3 e4 hq => by
    have hvX := hv1.app (X := X)
    refine ⟨kpset X _, v, q', es, ck, ?_, ?_, hq.set (off_falseR hq hvX.box), ?_, ?_, ?_⟩
    · rw [List.getElem?_set_self (lt_of hvX.box)]
    · rw [e1, e2, e3]
      exact ⟨get_set hvX.led.at' hv1.plb, hvX.led.row.setF hvX.box, hvX.led.few⟩
    · exact get_set hvX.map hv1.pmi
    · rw [e4]
      exact hvX.ents.keep fun b y hb _ => get_set hb (fun e => by subst e; rw [hvX.box] at hb; cases hb)
    · rw [e1]; exact h.vn
  rcases hk with hk | hk | hk
  · have hst := store_of (lim := 0) (n := 1) (o := 1) (v := I d.n) hv1.box (by omega) (by simp) (by simp) (by simp)
    simp at hst
    have hc : countS s d = { s with inc := d.n } := by simp [countS, hk]
    rw [hc]
    rw [hd]
    rw [hd] at hone hlen hH1
    rw [hk] at hone hlen hH1 co co0
    rw [fr_init (by simp [fd49])]
    simp [fd49, b49, hk, h1.one, h2.one, ← hH1, co0, cp0, hst]
    have := fin [] { s with inc := d.n } q rfl rfl rfl rfl (by simpa using hv1.tgt)
    simpa using this
  · have hkj := fun H K => k74s (r := d.ring) (H := H) (K := K) f2
    obtain ⟨v1, X1, t1, r1⟩ := thaw_owL (H := H1) (lim := H1.length) (es := 1) int_still (Nat.le_refl _) d.ring.plan.targets
    have fq : frz H1 11 q2 = some (roL intC d.ring.plan.targets) := by rw [hH1]; exact (h2.app).frz (d := 9) intC_len int_flat
    have hst := store_of (lim := 0) (n := 43) (o := 2) (v := .agg (ringV d.ring.status d.ring.plan.version d.ring.plan.by' v1 d.ring.epoch d.ring.owner)) (boxX X1) (by omega) (by simp [AV.cells]) (by simp) (by simp [AV.cells, r1.one])
    simp only [AV.cells, vlt_s2] at hst
    have hbox2 : ((H1 ++ X1).set p (.cells false (vltC lb mi { s with ring := d.ring } v1)))[p]? = some (.cells false (vltC lb mi { s with ring := d.ring } v1)) := List.getElem?_set_self (lt_of (boxX X1))
    have hw : IntKind.i64.wrap ((s.rings : Int) + 1) = ((s.rings + 1 : Nat) : Int) := by rw [wrap_i64] <;> omega
    have hst2 := store_of (lim := 0) (n := 1) (o := 45) (v := I ((s.rings + 1 : Nat) : Int)) hbox2 (by omega) (by simp) (by simp) (by simp)
    simp only [AV.cells, setFrom, vlt_s45, List.set_set] at hst2
    have hc : countS s d = { s with ring := d.ring, rings := s.rings + 1 } := by simp [countS, hk]
    have cb2 := cells_of hbox2
    rw [hc]
    rw [hd]
    rw [hd] at hone hlen hH1
    rw [hk] at hone hlen hH1 co co0
    have r1' := r1.mono (Nat.zero_le _)
    have res := fin X1 { s with ring := d.ring, rings := s.rings + 1 } v1 rfl rfl rfl rfl r1'
    rw [Int.natCast_add, Int.natCast_one] at hw hst2
    rw [fr_init (by simp [fd49])]
    simp [fd49, b49, hk, h1.one, h2.one, ← hH1, co0, cp0, fq, hkj, t1, r1.one, cp, hst, cb2, hw, hst2]
    exact res
  · have hkj := fun H K => k75 (k := d.bag.known) (l := d.bag.vals) (H := H) (K := K) f1
    obtain ⟨v1, X1, t1, r1⟩ := thaw_owL (H := H1) (lim := H1.length) (es := 3) val_still (Nat.le_refl _) d.bag.vals
    have fq : frz H1 11 q1 = some (roL valC d.bag.vals) := by rw [hH1]; exact (h1.app).frz (d := 9) valC_len val_flat
    have r1' := r1.mono (Nat.zero_le _)
    have hvX := hv1.app (X := X1)
    have hc : countS s d = { s with bags := setB s.bags d.key d.bag, dots := max s.dots d.n } := by simp [countS, hk]
    rw [hc]
    rw [hd]
    rw [hd] at hone hlen hH1
    rw [hk] at hone hlen hH1 co co0
    have hmx : max d.n s.dots = max s.dots d.n := Int.max_comm _ _
    have main : ∀ es' ck', Ents (H1 ++ X1) (setB s.bags d.key d.bag) es' → ∀ H2, H2 = (H1 ++ X1).set mi (.map es' ck') → H2[p]? = some (.cells false (vltC lb mi s q)) ∧ Heap.cells? H2 H.length = some (deedV 3 d.n d.key d.bag.known q1 d.ring.status d.ring.plan.version d.ring.plan.by' q2 d.ring.epoch d.ring.owner d.part) ∧ storeAt 0 H2 1 (.ptr (some (p, 46))) (I (max s.dots d.n)) = some (H2.set p (.cells false (vltC lb mi { s with dots := max s.dots d.n } q))) ∧ VStep H (H2.set p (.cells false (vltC lb mi { s with dots := max s.dots d.n } q))) p lb mi { s with bags := setB s.bags d.key d.bag, dots := max s.dots d.n } := by
      intro es' ck' hE H2 hH2
      have b2 : H2[p]? = some (.cells false (vltC lb mi s q)) := by rw [hH2]; exact get_set hvX.box hv1.pmi.symm
      have mk : ∀ (b : Nat) (y : List AV) (g : Bool), (H1 ++ X1)[b]? = some (.cells g y) → H2[b]? = some (.cells g y) := fun b y g hb => by rw [hH2]; exact get_set hb (fun e => by subst e; rw [hvX.map] at hb; cases hb)
      have mk2 : ∀ (b : Nat) (y : List AV) z, (H1 ++ X1)[b]? = some (.cells true y) → (H2.set p z)[b]? = some (.cells true y) := fun b y z hb => get_set (mk b y true hb) (fun e => by subst e; rw [hvX.box] at hb; cases hb)
      have hst := store_of (lim := 0) (n := 1) (o := 46) (v := I (max s.dots d.n)) b2 (by omega) (by simp) (by simp) (by simp)
      simp only [AV.cells, setFrom, vlt_s46] at hst
      refine ⟨b2, ?_, hst, ⟨?_, ?_, ?_, ?_⟩, v, q, es', ck', ?_, ?_, ?_, ?_, ?_, h.vn⟩
      · refine cells_of (mk _ _ false ?_)
        rw [hH1]
        simp
      · rw [hH2, hH1]; simp
      · intro b z hb n1 n2 n3 n4
        refine get_set ?_ (Ne.symm n1)
        rw [hH2]
        refine get_set ?_ (Ne.symm n3)
        rw [hH1]
        exact get_app (get_app hb)
      · intro b z hb n1 n2 n3 n4
        refine get_set ?_ (Ne.symm n1)
        rw [hH2]
        refine get_set ?_ (Ne.symm n3)
        rw [hH1]
        exact get_app (get_app hb)
      · rintro b _ ⟨v, s, r, hb, o⟩
        refine ⟨v, s, r, get_set ?_ h.plb, o⟩
        rw [hH2]
        refine get_set ?_ h.lbmi.symm
        rw [hH1]
        exact get_app (get_app hb)
      · rw [List.getElem?_set_self (lt_of b2)]; rfl
      · refine ⟨get_set (mk _ _ false hvX.led.at') hv1.plb, hvX.led.row.keep fun b y _ hb => mk2 b y _ hb, hvX.led.few⟩
      · exact hvX.tgt.keep fun b y hb _ => mk2 b y _ hb
      · refine get_set ?_ hv1.pmi
        rw [hH2]
        exact List.getElem?_set_self (lt_of hvX.map)
      · exact hE.keep fun b y hb _ => mk2 b y _ hb
    have hmapX := hvX.map
    rcases hvX.ents.find (key := d.key) 0 with ⟨g1, g2⟩ | ⟨j, r, b, g1, g2, g3⟩
    · have hE := hvX.ents.put (x := d.bag) r1' g1 ck
      obtain ⟨H2, hH2⟩ : ∃ H2, H2 = (H1 ++ X1).set mi (.map (es ++ [(.str d.key, .agg (bagV d.bag.known v1), ck)]) (ck + 1)) := ⟨_, rfl⟩
      obtain ⟨m1, m2, m3, m4⟩ := main _ _ hE H2 hH2
      have m5 : H1.length + X1.length ≤ H2.length := by rw [hH2]; simp
      rw [fr_init (by simp [fd49])]
      simp [fd49, b49, hk, h1.one, h2.one, ← hH1, co0, cp0, fq, hkj, t1, r1.one, cp, hmapX, g2, isKey, ← hH2, cells_of m1, m2, hmx, m3, m5]
      exact m4
    · have hE := hvX.ents.over (x := d.bag) r1' g2
      rw [Nat.sub_zero] at hE
      obtain ⟨H2, hH2⟩ : ∃ H2, H2 = (H1 ++ X1).set mi (.map (es.modify j fun e => (.str d.key, .agg (bagV d.bag.known v1), e.2.2)) ck) := ⟨_, rfl⟩
      obtain ⟨m1, m2, m3, m4⟩ := main _ _ hE H2 hH2
      have m5 : H1.length + X1.length ≤ H2.length := by rw [hH2]; simp
      rw [fr_init (by simp [fd49])]
      simp [fd49, b49, hk, h1.one, h2.one, ← hH1, co0, cp0, fq, hkj, t1, r1.one, cp, hmapX, g2, isKey, ← hH2, cells_of m1, m2, hmx, m3, m5]
      exact m4
end Go.Proofs.YtflgfiieaoeknaaGreatA

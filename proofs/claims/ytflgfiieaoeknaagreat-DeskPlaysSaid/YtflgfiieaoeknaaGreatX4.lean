/- What the reference's vault does: a deed counts. No statement about the program is proved here. -/
import Derived.Test.YtflgfiieaoeknaaGreatX2
namespace Go.Proofs.YtflgfiieaoeknaaGreatA
open Go
set_option linter.unusedSimpArgs false
set_option linter.unusedVariables false
set_option maxRecDepth 1000000
attribute [local simp] deed_zero

/-! ## Rows, cut and put together where something is hidden -/
section
variable {α : Type} {lim es bytes : Nat} {f : α → List AV} {H H' : Heap} {l r : List α} {v x : AV} {B : List Nat}
theorem Row.hide (h : Row lim H es f l v) (ho : ∀ b ∈ B, Off v b) : Row lim (Go.Proofs.YtflgfiieaoeknaaGreatA.hide B H) es f l v := by
  rcases h with h | ⟨ne, c, g1, rfl, g3⟩
  · exact .inl h
  · refine .inr ⟨ne, c, g1, rfl, ?_⟩
    rw [hide_get, if_neg (fun hc => ho c hc _ _ _ rfl)]
    exact g3
theorem Row.unhide (h : Row lim H' es f l v) (hb : ∀ b ∈ B, b < H.length) (hl : H.length ≤ H'.length) (ho : ∀ b ∈ B, Off v b) : Row lim (Go.Proofs.YtflgfiieaoeknaaGreatA.unhide B H H') es f l v := by
  rcases h with h | ⟨ne, c, g1, rfl, g3⟩
  · exact .inl h
  · refine .inr ⟨ne, c, g1, rfl, ?_⟩
    rw [unhide_get hb hl, if_neg (fun hc => ho c hc _ _ _ rfl)]
    exact g3
theorem Row.appendK (hl : ∀ x, (f x).length = es) (hes : 0 < es) (h1 : ∀ x, (f x).all AV.one = true) (h : Row lim H es f l v) (hx : Go.Proofs.YtflgfiieaoeknaaGreatA.elems H es x = some (r.length, r.flatMap f)) (hb : (l.length + r.length) * bytes ≤ most) (hb2 : l.length + r.length ≤ most) (hlim : lim ≤ H.length) :
    ∃ v' H', appendAV lim H es bytes v x = some (v', H') ∧ Row lim H' es f (l ++ r) v' ∧ H.length ≤ H'.length ∧ (∀ (k : Nat) (z : ABlk), H[k]? = some z → Off v k → H'[k]? = some z) ∧ ∀ k, k < H.length → Off v k → Off v' k := by
  by_cases e : r = []
  · subst e
    refine ⟨v, H, ?_, by simpa using h, Nat.le_refl _, fun k z hz _ => hz, fun k _ o => o⟩
    simp only [appendAV, hx, Option.bind_some, List.length_nil, if_true]
    rcases h with ⟨_, rfl⟩ | ⟨_, b, _, rfl, _⟩ <;> rfl
  · obtain ⟨v', H', a1, a2, a3, a4⟩ := h.append (bytes := bytes) hl hes h1 hx rfl e hb hb2
    refine ⟨v', H', a1, a2 hlim, a3, a4, fun k hk o => ?_⟩
    have hm : r.length ≠ 0 := fun q => e (List.length_eq_zero_iff.1 q)
    rcases h with ⟨rfl, rfl⟩ | ⟨ne, b, g1, rfl, g3⟩
    · simp only [appendAV, hx, Option.bind_some, hm, if_false] at a1
      split at a1
      · simp only [Option.some.injEq, Prod.mk.injEq] at a1
        rw [← a1.1]
        exact Off.sl (by omega)
      · cases a1
    · simp only [appendAV, hx, Option.bind_some, hm, if_false, g3] at a1
      split at a1
      · simp only [Option.map_eq_some_iff, Prod.mk.injEq] at a1
        obtain ⟨_, _, q, _⟩ := a1
        rw [← q]
        exact Off.sl (by omega)
      · cases a1
def fromAt (v : AV) (j : Nat) : AV := match v with | .sl b o n es => .sl b (o + j * es) (n - j) es | v => v
def tillAt (v : AV) (j : Nat) : AV := match v with | .sl b o _ es => .sl b o j es | v => v
theorem Row.cutFrom {j : Nat} (h : Row lim H es f l v) (hj : j ≤ l.length) : cutSl es v (some (I j)) none none = some (fromAt v j) := by
  rcases h with ⟨rfl, rfl⟩ | ⟨ne, b, g1, rfl, g3⟩
  · obtain rfl : j = 0 := by simpa using hj
    simp [cutSl, bnd, AV.isInt, fromAt]
  · have : bnd (some (I (j : Int))) 0 l.length = some j := bnd_nat hj
    simp [cutSl, this, fromAt]
theorem Row.cutTill {j : Nat} (h : Row lim H es f l v) (hj : j ≤ l.length) : cutSl es v none (some (I j)) none = some (tillAt v j) := by
  rcases h with ⟨rfl, rfl⟩ | ⟨ne, b, g1, rfl, g3⟩
  · obtain rfl : j = 0 := by simpa using hj
    simp [cutSl, bnd, AV.isInt, tillAt]
  · have : bnd (some (I (j : Int))) l.length l.length = some j := bnd_nat hj
    simp [cutSl, this, tillAt]
theorem Row.elemsFrom {j : Nat} (hl : ∀ x, (f x).length = es) (h : Row lim H es f l v) (hj : j ≤ l.length) : Go.Proofs.YtflgfiieaoeknaaGreatA.elems H es (fromAt v j) = some ((l.drop j).length, (l.drop j).flatMap f) := by
  rcases h with ⟨rfl, rfl⟩ | ⟨ne, b, g1, rfl, g3⟩
  · obtain rfl : j = 0 := by simpa using hj
    rfl
  · have hle : j * es ≤ l.length * es := Nat.mul_le_mul_right es hj
    have e : (l.length - j) * es = l.length * es - j * es := Nat.sub_mul ..
    simp only [fromAt, Go.Proofs.YtflgfiieaoeknaaGreatA.elems, if_true, Heap.cells?, g3, Option.bind_some, Nat.zero_add]
    rw [cut_at (by rw [flatMap_len hl]; omega), flatMap_drop hl, List.take_of_length_le (by rw [flatMap_len hl, List.length_drop, e]; exact Nat.le_refl _), List.length_drop]
    rfl
theorem Row.elemsTill {j : Nat} (hl : ∀ x, (f x).length = es) (h : Row lim H es f l v) (hj : j ≤ l.length) : Go.Proofs.YtflgfiieaoeknaaGreatA.elems H es (tillAt v j) = some ((l.take j).length, (l.take j).flatMap f) := by
  rcases h with ⟨rfl, rfl⟩ | ⟨ne, b, g1, rfl, g3⟩
  · obtain rfl : j = 0 := by simpa using hj
    rfl
  · have hle : j * es ≤ l.length * es := Nat.mul_le_mul_right es hj
    simp only [tillAt, Go.Proofs.YtflgfiieaoeknaaGreatA.elems, if_true, Heap.cells?, g3, Option.bind_some]
    rw [cut_at (by rw [flatMap_len hl]; omega), List.drop_zero, flatMap_take hl, List.length_take, Nat.min_eq_left hj]
    rfl
end
theorem put_rowP {H1 : Heap} {ps : List PR} {pv : AV} {B : List Nat} {i j : Nat} (h : Row 0 H1 10 prC ps pv) (hij : i ≤ j) (hj : j ≤ ps.length) (few : ps.length ≤ 3000) (x : PR) (hB : ∀ b ∈ B, b < H1.length) (hBp : ∀ b ∈ B, Off pv b) :
    ∃ v1 X1 v2 H4' H4 v3 H5' H5, appendAV H1.length H1 10 104 .nilsl (tillAt pv i) = some (v1, H1 ++ X1) ∧
      appendAV 0 (hide B (H1 ++ (X1 ++ [.cells true (prC x)]))) 10 104 v1 (.sl (H1.length + X1.length) 0 1 10) = some (v2, H4') ∧ H1.length + (X1.length + 1) ≤ H4'.length ∧ unhide B (H1 ++ (X1 ++ [.cells true (prC x)])) H4' = H4 ∧
      appendAV 0 (hide B H4) 10 104 v2 (fromAt pv j) = some (v3, H5') ∧ H4.length ≤ H5'.length ∧ unhide B H4 H5' = H5 ∧
      Row 0 H5 10 prC (ps.take i ++ x :: ps.drop j) v3 ∧ H1.length ≤ H5.length ∧ (∀ (k : Nat) (z : ABlk), H1[k]? = some z → H4[k]? = some z) ∧ (∀ (k : Nat) (z : ABlk), H1[k]? = some z → H5[k]? = some z) := by
  have hti : (ps.take i).length = i := by rw [List.length_take]; omega
  have hdi : (ps.drop j).length = ps.length - j := List.length_drop ..
  have x1 := h.elemsTill prC_len (j := i) (by omega)
  obtain ⟨v1, X1, a1, r1⟩ := nil_append (lim := H1.length) (bytes := 104) (by omega) prC_one x1 (by rw [hti]; simp only [most]; omega) (by rw [hti]; simp only [most]; omega)
  have o1 : ∀ k, k < H1.length → Off v1 k := fun k hk => by
    by_cases e : ps.take i = []
    · rw [e] at r1
      rcases r1 with ⟨_, rfl⟩ | ⟨ne, _⟩
      · exact Off.nil
      · exact absurd rfl ne
    · have hm : (ps.take i).length ≠ 0 := fun q => e (List.length_eq_zero_iff.1 q)
      have a1' := a1
      simp only [appendAV, x1, Option.bind_some, hm, if_false] at a1'
      split at a1'
      · simp only [Option.some.injEq, Prod.mk.injEq] at a1'
        rw [← a1'.1]
        exact Off.sl (by omega)
      · cases a1'
  obtain ⟨H3, hH3⟩ : ∃ H3, H3 = H1 ++ (X1 ++ [ABlk.cells true (prC x)]) := ⟨_, rfl⟩
  have len3 : H3.length = H1.length + (X1.length + 1) := by rw [hH3]; simp
  have r1' : Row 0 H3 10 prC (ps.take i) v1 := by
    rw [hH3, ← List.append_assoc]; exact r1.app
  have hB3 : ∀ b ∈ B, b < H3.length := fun b hb => by have := hB b hb; omega
  have x2 : elems (hide B H3) 10 (.sl (H1.length + X1.length) 0 1 10) = some ([x].length, [x].flatMap prC) := by
    have e : (hide B H3)[H1.length + X1.length]? = some (.cells true (prC x)) := by
      rw [hide_get, if_neg (fun hc => by have := hB _ hc; omega), hH3, ← List.append_assoc, ← List.length_append]; exact get_new
    have hl := prC_len x
    simp only [elems, if_true, Heap.cells?, e, Option.bind_some, Nat.one_mul]
    rw [cut_all hl]
    simp
  obtain ⟨v2, H4', a2, r2, l2, k2, o2⟩ := (r1'.hide (B := B) fun b hb => o1 b (hB b hb)).appendK (bytes := 104) prC_len (by omega) prC_one x2 (by rw [hti]; simp only [most, List.length_singleton]; omega) (by rw [hti]; simp only [most, List.length_singleton]; omega) (Nat.zero_le _)
  rw [hide_len] at l2 o2
  obtain ⟨H4, hH4⟩ : ∃ H4, unhide B H3 H4' = H4 := ⟨_, rfl⟩
  have len4 : H4.length = H4'.length := by rw [← hH4, unhide_len]
  have off2 : ∀ k, k < H1.length → Off v2 k := fun k hk => o2 k (by omega) (o1 k hk)
  have r2u : Row 0 H4 10 prC (ps.take i ++ [x]) v2 := by
    rw [← hH4]
    exact r2.unhide hB3 l2 fun b hb => off2 b (hB b hb)
  have keep4 : ∀ (k : Nat) (z : ABlk), H1[k]? = some z → H4[k]? = some z := fun k z hz => by
    have hk := lt_of hz
    have h3 : H3[k]? = some z := by rw [hH3]; exact get_app hz
    rw [← hH4, unhide_get hB3 l2]
    split
    · exact h3
    · rename_i hc
      exact k2 k z (by rw [hide_get, if_neg hc]; exact h3) (o1 k hk)
  have hB4 : ∀ b ∈ B, b < H4.length := fun b hb => by have := hB b hb; omega
  have hp4 : Row 0 (hide B H4) 10 prC ps pv := by
    refine Row.hide ?_ hBp
    exact h.keep fun k y hy _ => keep4 k _ hy
  have x3 := hp4.elemsFrom prC_len (j := j) hj
  obtain ⟨v3, H5', a3, r3, l3, k3, o3⟩ := (r2u.hide (B := B) fun b hb => off2 b (hB b hb)).appendK (bytes := 104) prC_len (by omega) prC_one x3 (by rw [List.length_append, hti, hdi]; simp only [most, List.length_singleton]; omega) (by rw [List.length_append, hti, hdi]; simp only [most, List.length_singleton]; omega) (Nat.zero_le _)
  rw [hide_len] at l3 o3
  obtain ⟨H5, hH5⟩ : ∃ H5, unhide B H4 H5' = H5 := ⟨_, rfl⟩
  have len5 : H5.length = H5'.length := by rw [← hH5, unhide_len]
  have off3 : ∀ k, k < H1.length → Off v3 k := fun k hk => o3 k (by omega) (off2 k hk)
  refine ⟨v1, X1, v2, H4', H4, v3, H5', H5, a1, by rw [← hH3]; exact a2, by omega, by rw [← hH3]; exact hH4, a3, l3, hH5, ?_, by omega, keep4, fun k z hz => ?_⟩
  · rw [← hH5]
    have := r3.unhide hB4 l3 fun b hb => off3 b (hB b hb)
    simpa using this
  · have hk := lt_of hz
    rw [← hH5, unhide_get hB4 l3]
    split
    · exact keep4 k z hz
    · rename_i hc
      exact k3 k z (by rw [hide_get, if_neg hc]; exact keep4 k z hz) (off2 k hk)
end Go.Proofs.YtflgfiieaoeknaaGreatA
/- What the reference's vault does: a deed counts. No statement about the program is proved here. -/
namespace Go.Proofs.YtflgfiieaoeknaaGreatA
open Go
set_option linter.unusedSimpArgs false
set_option linter.unusedVariables false
set_option maxRecDepth 1000000
attribute [local simp] deed_zero

def putP (key : List UInt8) (x : Bag) (l : List (List UInt8 × Bag)) : List (List UInt8 × Bag) := l.take (posP key l) ++ (key, x) :: l.drop (if (atP key l).isSome then posP key l + 1 else posP key l)
def countR (t : RSt) (d : Deed) : RSt :=
  if d.kind = 2 then { t with ring := d.ring, has := true }
  else if d.kind = 3 then { t with prs := putP d.key d.bag t.prs, dots := max t.dots d.n }
  else t
theorem pair_z {key : List UInt8} {k : Nat → Int} {q : AV} : setFrom (AV.str key :: bagV zeroV .nilsl) 1 (bagV k q) = AV.str key :: bagV k q := by kernel_rfl
theorem pair_set {key : List UInt8} {k : Nat → Int} {q : AV} : setFrom [AV.str key, I 0, I 0, I 0, I 0, I 0, I 0, I 0, I 0, AV.nilsl] 1 (bagV k q) = AV.str key :: bagV k q := by kernel_rfl
theorem pair_all {key : List UInt8} {k : Nat → Int} {q : AV} {l : List AV} (h : l.length = 10) : setFrom l 0 (AV.str key :: bagV k q) = AV.str key :: bagV k q := setFrom_all _ _ (by rw [h]; rfl)
theorem RV.all {H H' : Heap} {b w : Nat} {t : RSt} {rv q pv : AV} {cs : List DCell9} {ps : List PR} (h : RV H b w t rv q pv cs ps) (hk : ∀ (k : Nat) (z : ABlk), H[k]? = some z → H'[k]? = some z) : RV H' b w t rv q pv cs ps :=
  ⟨hk _ _ h.led, h.row.keep fun k y hy _ => hk k _ hy, h.cn, hk _ _ h.box, h.tgt.imp (fun g => g.keep fun k y hy _ => hk k _ hy) id, h.prow.keep fun k y hy _ => hk k _ hy, h.rel.keep fun k y hy _ => hk k _ hy⟩
theorem KR.all {H H' : Heap} {b w : Nat} (hl : H.length ≤ H'.length) (hk : ∀ (k : Nat) (z : ABlk), H[k]? = some z → H'[k]? = some z) : KR H H' b w :=
  ⟨hl, fun k z hz _ _ _ => hk k z hz, fun k z hz _ _ _ => hk k z hz, fun k _ ⟨x, y, v, g, o⟩ => ⟨x, y, v, hk _ _ g, o⟩⟩
set_option maxHeartbeats 1000000 in
theorem c51 {H : Heap} {b w : Nat} {t : RSt} {rv q pv : AV} {cs : List DCell9} {ps : List PR} (h : RV H b w t rv q pv cs ps) (hn : t.prs.length ≤ 3000) (d : Deed) (q1 q2 : AV) (hk : d.kind = 2 ∨ d.kind = 3) (h1 : Rd H 3 valC d.bag.vals q1) (h2 : Rd H 1 intC d.ring.plan.targets q2) :
    WCl envE 51 [.ptr (some (w, 0)), .agg (deedM d q1 q2)] 0 H fun r H' => RStep H H' b w (countR t d) := by
  refine cl_of e51 rfl ?_
  have hone : (deedM d q1 q2).all AV.one = true := deedM_one h1.one h2.one
  have hlen : (deedM d q1 q2).length = 56 := deedM_len
  have hd : deedM d q1 q2 = deedV d.kind d.n d.key d.bag.known q1 d.ring.status d.ring.plan.version d.ring.plan.by' q2 d.ring.epoch d.ring.owner d.part := rfl
  obtain ⟨H1, hH1⟩ : ∃ H1, H1 = H ++ [.cells false (deedM d q1 q2)] := ⟨_, rfl⟩
  have hv1 : RV H1 b w t rv q pv cs ps := by rw [hH1]; exact h.app
  have kp1 : KR H H1 b w := by rw [hH1]; exact .app
  have co : ∀ Z, Heap.cells? (H1 ++ Z) H.length = some (deedV d.kind d.n d.key d.bag.known q1 d.ring.status d.ring.plan.version d.ring.plan.by' q2 d.ring.epoch d.ring.owner d.part) := fun Z => by rw [hH1, ← hd]; simp [Heap.cells?]
  have co0 : Heap.cells? H1 H.length = some (deedV d.kind d.n d.key d.bag.known q1 d.ring.status d.ring.plan.version d.ring.plan.by' q2 d.ring.epoch d.ring.owner d.part) := by simpa using co []
  have cp0 := hv1.cells0
  have cp := hv1.cells
  have hbw := h.bw
  rcases hk with hk | hk
  · have hc : countR t d = { t with ring := d.ring, has := true } := by simp [countR, hk]
    rw [hc]
    have r2 : Rd H1 1 intC d.ring.plan.targets q2 := by rw [hH1]; exact h2.app
    have o2 := h2.one
    have hst := store_of (lim := 0) (n := 43) (o := 4) (v := .agg (ringV d.ring.status d.ring.plan.version d.ring.plan.by' q2 d.ring.epoch d.ring.owner)) hv1.box (by omega) (by simp [AV.cells]) (by simp) (by simp [AV.cells, o2])
    simp only [AV.cells, rf_s4] at hst
    have hbox2 : (H1.set w (.cells false (rfC b { t with ring := d.ring } q2 pv)))[w]? = some (.cells false (rfC b { t with ring := d.ring } q2 pv)) := List.getElem?_set_self (lt_of hv1.box)
    have hst2 := store_of (lim := 0) (n := 1) (o := 3) (v := .bool true) hbox2 (by omega) (by simp) (by simp) (by simp)
    simp only [AV.cells, setFrom, rf_s3, List.set_set] at hst2
    have res : RStep H (H1.set w (.cells false (rfC b { t with ring := d.ring, has := true } q2 pv))) b w { t with ring := d.ring, has := true } := ⟨kp1.trans (.setw hbw), rv, q2, pv, cs, ps, hv1.set rfl rfl rfl r2 hv1.prow hv1.rel⟩
    rw [hd]
    rw [hd] at hone hlen hH1
    rw [hk] at hone hlen hH1 co co0
    rw [fr_init (by simp [fd51])]
    simp [fd51, b51, hk, h1.one, h2.one, ← hH1, co0, cp0, hst, cells_of hbox2, hst2]
    exact res
  · have hc : countR t d = { t with prs := putP d.key d.bag t.prs, dots := max t.dots d.n } := by simp [countR, hk]
    rw [hc]
    have hpl := hv1.plen
    obtain ⟨x, hx⟩ : ∃ x : PR, x = ⟨d.key, d.bag.known, q1, h1.one⟩ := ⟨_, rfl⟩
    have hxC : prC x = .str d.key :: bagV d.bag.known q1 := by rw [hx]; rfl
    obtain ⟨H2, hH2⟩ : ∃ H2, H2 = H1 ++ [.cells false (prC x)] := ⟨_, rfl⟩
    have hv2 : RV H2 b w t rv q pv cs ps := by rw [hH2]; exact hv1.app
    have kp2 : KR H H2 b w := by rw [hH2]; exact kp1.trans .app
    have k92 : ∀ K, WCl envE 92 [.ptr (some (w, 0)), .str d.key] 0 H1 K = K (.tup [I (posP d.key t.prs), .bool (atP d.key t.prs).isSome]) H1 := fun K => WCl_eq (c92 hv1 hn d.key 0 (Nat.zero_le _))
    have o1 := h1.one
    have co2 : ∀ Z, Heap.cells? (H2 ++ Z) H.length = some (deedV d.kind d.n d.key d.bag.known q1 d.ring.status d.ring.plan.version d.ring.plan.by' q2 d.ring.epoch d.ring.owner d.part) := fun Z => by rw [hH2, List.append_assoc]; exact co _
    have cx : ∀ Z, Heap.cells? (H2 ++ Z) H1.length = some (prC x) := fun Z => by rw [hH2]; exact cells_of (get_app get_new)
    have cx0 : Heap.cells? H2 H1.length = some (prC x) := by simpa using cx []
    have cq0 := hv2.cells0
    have cq := hv2.cells
    have len2 : H2.length = H1.length + 1 := by rw [hH2]; simp
    have hwl : w < H1.length := lt_of hv1.box
    obtain ⟨B, hB⟩ : ∃ B, B = [w, H1.length] := ⟨_, rfl⟩
    have hBl : ∀ c ∈ B, c < H2.length := fun c hc => by rw [hB] at hc; simp at hc; omega
    have hBo : ∀ c ∈ B, Off pv c := fun c hc => by
      rw [hB] at hc
      rcases List.mem_cons.1 hc with rfl | hc
      · exact off_falseR hv1.prow hv1.box
      · rw [List.mem_singleton.1 hc]
        exact hv1.prow.off_ge (Nat.le_refl _)
    have pos := posP_le (key := d.key) (l := t.prs)
    rw [hd]
    rw [hd] at hone hlen hH1
    rw [hk] at hone hlen hH1 co co0 co2
    have hb1 : w ∈ B := by rw [hB]; simp
    have hb2 : H1.length ∈ B := by rw [hB]; simp
    have hps : setFrom (AV.str d.key :: bagV zeroV .nilsl) 1 (bagV d.bag.known q1) = prC x := by rw [pair_z, hxC]
    have hpa : setFrom (AV.str [] :: bagV zeroV .nilsl) 0 (prC x) = prC x := setFrom_all _ _ (by rw [prC_len]; rfl)
    have hpl10 := prC_len x
    have hpo := prC_one x
    have hpo2 : (∀ y : AV, y ∈ prC x → y.one = true) = True := eq_true (List.all_eq_true.1 hpo)
    have hpt : (prC x).take 10 = prC x := List.take_of_length_le (by omega)
    have hw2 : w < H2.length := by omega
    have h12 : H1.length < H2.length := by omega
    have rdx : Rd H2 3 valC d.bag.vals q1 := by rw [hH2, hH1]; exact h1.app.app
    have hmx : max d.n t.dots = max t.dots d.n := Int.max_comm _ _
    have hdl : H.length ≠ w := by have := lt_of h.box; omega
    -- what is done with the row that comes out
    have fin : ∀ (j : Nat) (H5 : Heap) (v3 : AV), j = (if (atP d.key t.prs).isSome then posP d.key t.prs + 1 else posP d.key t.prs) → Row 0 H5 10 prC (ps.take (posP d.key t.prs) ++ x :: ps.drop j) v3 → H2.length ≤ H5.length → (∀ (k : Nat) (z : ABlk), H2[k]? = some z → H5[k]? = some z) →
        ∃ H6 H7, storeAt 0 H5 1 (.ptr (some (w, 47))) v3 = some H6 ∧ Heap.cells? H6 w = some (rfC b t q v3) ∧ Heap.cells? H6 H.length = some (deedV 3 d.n d.key d.bag.known q1 d.ring.status d.ring.plan.version d.ring.plan.by' q2 d.ring.epoch d.ring.owner d.part) ∧ storeAt 0 H6 1 (.ptr (some (w, 2))) (I (max t.dots d.n)) = some H7 ∧ H6.length ≤ H7.length ∧ RStep H H7 b w { t with prs := putP d.key d.bag t.prs, dots := max t.dots d.n } := by
      intro j H5 v3 ej hrow l5 keep
      have hv5 := hv2.all keep
      have rel5 : PRel H5 (ps.take (posP d.key t.prs) ++ x :: ps.drop j) (putP d.key d.bag t.prs) := by
        unfold putP
        rw [← ej]
        refine (hv5.rel.take _).app ⟨⟨by rw [hx], by rw [hx], ?_⟩, hv5.rel.drop _⟩
        rw [hx]
        exact rdx.imp (fun g => g.keep fun k y hy _ => keep k _ hy) id
      have st6 := store_of (lim := 0) (n := 1) (o := 47) (v := v3) hv5.box (by omega) (by rw [hrow.cells]; rfl) (by simp) (by rw [hrow.cells]; simp [hrow.one])
      rw [hrow.cells] at st6
      simp only [setFrom, rf_s47] at st6
      have box6 : (H5.set w (.cells false (rfC b t q v3)))[w]? = some (.cells false (rfC b t q v3)) := List.getElem?_set_self (lt_of hv5.box)
      have st7 := store_of (lim := 0) (n := 1) (o := 2) (v := I (max t.dots d.n)) box6 (by omega) (by simp) (by simp) (by simp)
      simp only [AV.cells, setFrom, rf_s2, List.set_set] at st7
      refine ⟨_, _, st6, cells_of box6, ?_, st7, by simp, ?_⟩
      · have := co2 []
        rw [List.append_nil] at this
        obtain ⟨g, hg⟩ : ∃ g, H2[H.length]? = some (.cells g (deedV 3 d.n d.key d.bag.known q1 d.ring.status d.ring.plan.version d.ring.plan.by' q2 d.ring.epoch d.ring.owner d.part)) := by
          rw [hH2, hH1]
          exact ⟨false, get_app (by rw [← hk, ← hd]; exact get_new)⟩
        exact cells_of (get_set (keep _ _ hg) (Ne.symm hdl))
      · exact ⟨(kp2.trans (.all l5 keep)).trans (.setw hbw), rv, q, v3, cs, _, hv5.set (t' := { t with prs := putP d.key d.bag t.prs, dots := max t.dots d.n }) rfl rfl rfl hv5.tgt hrow rel5⟩
    cases ha : (atP d.key t.prs).isSome
    · rw [ha] at k92 fin
      have hj : posP d.key t.prs ≤ ps.length := by omega
      obtain ⟨v1, X1, v2, H4', H4, v3, H5', H5, a1, a2, l2, u2, a3, l3, u3, r3, l5, keep4, keep⟩ := put_rowP hv2.prow (i := posP d.key t.prs) (j := posP d.key t.prs) (Nat.le_refl _) hj (by omega) x hBl hBo
      have s1 := hv2.prow.cutTill (j := posP d.key t.prs) (by omega)
      have s2 := hv2.prow.cutFrom (j := posP d.key t.prs) hj
      obtain ⟨H6, H7, t6, c6, d6, t7, l7, res⟩ := fin (posP d.key t.prs) H5 v3 rfl r3 l5 keep
      have c4 := cells_of (keep4 _ _ hv2.box)
      have l2' : H2.length + (X1.length + 1) ≤ H4'.length := l2
      rw [fr_init (by simp [fd51])]
      simp [fd51, b51, hk, h1.one, h2.one, ← hH1, co0, cp0, k92, bagV_zero, hps, hpa, hpl10, hpo, hpo2, hpt, ← hH2, cq0, hidB, ← hB, hb1, hb2, cx0, s1, a1, cx, hw2, h12, a2, l2', u2, c4, s2, a3, l3, u3, t6, c6, d6, hmx, t7, l7]
      exact res
    · rw [ha] at k92 fin
      have hj : posP d.key t.prs + 1 ≤ ps.length := by
        cases ha2 : atP d.key t.prs with
        | none => rw [ha2] at ha; cases ha
        | some y => obtain ⟨hi, _, _⟩ := atP_get ha2; omega
      have hw : IntKind.i64.wrap ((posP d.key t.prs : Int) + 1) = (posP d.key t.prs : Int) + 1 := by rw [wrap_i64] <;> omega
      obtain ⟨v1, X1, v2, H4', H4, v3, H5', H5, a1, a2, l2, u2, a3, l3, u3, r3, l5, keep4, keep⟩ := put_rowP hv2.prow (i := posP d.key t.prs) (j := posP d.key t.prs + 1) (by omega) hj (by omega) x hBl hBo
      have s1 := hv2.prow.cutTill (j := posP d.key t.prs) (by omega)
      have s2 := hv2.prow.cutFrom (j := posP d.key t.prs + 1) hj
      rw [Int.natCast_add, Int.natCast_one] at s2
      obtain ⟨H6, H7, t6, c6, d6, t7, l7, res⟩ := fin (posP d.key t.prs + 1) H5 v3 rfl r3 l5 keep
      have c4 := cells_of (keep4 _ _ hv2.box)
      have l2' : H2.length + (X1.length + 1) ≤ H4'.length := l2
      rw [fr_init (by simp [fd51])]
      simp [fd51, b51, hk, h1.one, h2.one, ← hH1, co0, cp0, k92, bagV_zero, hps, hpa, hpl10, hpo, hpo2, hpt, ← hH2, cq0, hidB, ← hB, hb1, hb2, cx0, s1, a1, cx, hw2, h12, a2, l2', u2, c4, hw, s2, a3, l3, u3, t6, c6, d6, hmx, t7, l7]
      exact res
end Go.Proofs.YtflgfiieaoeknaaGreatA

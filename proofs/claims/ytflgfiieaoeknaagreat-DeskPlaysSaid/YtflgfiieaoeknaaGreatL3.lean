/- Ledgers in memory: rows of deeds. No statement about the program is proved here. -/
import Derived.Test.YtflgfiieaoeknaaGreatL2
namespace Go.Proofs.YtflgfiieaoeknaaGreatA
open Go
set_option linter.unusedSimpArgs false
set_option linter.unusedVariables false
set_option maxRecDepth 1000000

/-- The cells of a deed in memory, whose rows are v1 and v2. -/
def deedM (d : Deed) (v1 v2 : AV) : List AV := deedV d.kind d.n d.key d.bag.known v1 d.ring.status d.ring.plan.version d.ring.plan.by' v2 d.ring.epoch d.ring.owner d.part
def DCell (lim c : Nat) (H : Heap) (cs : List AV) (d : Deed) : Prop := ∃ v1 v2, cs = deedM d v1 v2 ∧ Row lim H 3 valC d.bag.vals v1 ∧ Row lim H 1 intC d.ring.plan.targets v2 ∧ Off v1 c ∧ Off v2 c
/-- v is a row of deeds of ours. -/
def DRow (lim : Nat) (H : Heap) (ds : List Deed) (v : AV) : Prop :=
  (ds = [] ∧ v = .nilsl) ∨ ∃ c cs, lim ≤ c ∧ v = .sl c 0 ds.length 56 ∧ H[c]? = some (.cells true cs) ∧ ds.length * 56 ≤ cs.length ∧ ∀ i (hi : i < ds.length), DCell lim c H ((cs.drop (i * 56)).take 56) ds[i]

theorem Row.setF {α : Type} {lim es b : Nat} {f : α → List AV} {l : List α} {H : Heap} {v : AV} {y : List AV} {z : ABlk} (h : Row lim H es f l v) (hb : H[b]? = some (.cells false y)) : Row lim (H.set b z) es f l v := by
  refine h.set fun o n s e => ?_
  rcases h with ⟨rfl, rfl⟩ | ⟨ne, c, g1, rfl, g3⟩
  · cases e
  · cases e
    rw [g3] at hb
    cases hb
theorem Row.keep {α : Type} {lim es : Nat} {f : α → List AV} {l : List α} {H H' : Heap} {v : AV} (h : Row lim H es f l v) (hk : ∀ (b : Nat) (y : List AV), H[b]? = some (.cells true y) → ¬ Off v b → H'[b]? = some (.cells true y)) : Row lim H' es f l v := by
  rcases h with h | ⟨ne, c, g1, rfl, g3⟩
  · exact .inl h
  · exact .inr ⟨ne, c, g1, rfl, hk c _ g3 fun q => q 0 l.length es rfl⟩
theorem Row.ge {α : Type} {lim es b : Nat} {f : α → List AV} {l : List α} {H : Heap} {v : AV} (h : Row lim H es f l v) (ho : ¬ Off v b) : lim ≤ b := by
  rcases Nat.lt_or_ge b lim with q | q
  · exact absurd (h.off q) ho
  · exact q
theorem deedM_len {d : Deed} {v1 v2 : AV} : (deedM d v1 v2).length = 56 := hard rfl
theorem deedM_one {d : Deed} {v1 v2 : AV} (h1 : AV.one v1 = true) (h2 : AV.one v2 = true) : (deedM d v1 v2).all AV.one = true := by simp [deedM, h1, h2]
section
variable {lim : Nat} {H X : Heap} {ds : List Deed} {v : AV}
theorem DRow.nil : DRow lim H [] .nilsl := .inl ⟨rfl, rfl⟩
theorem DRow.len (h : DRow lim H ds v) : lenSlAV v = some (.int .i64 ds.length) := by
  rcases h with ⟨rfl, rfl⟩ | ⟨c, cs, h0, rfl, h1, h2, h3⟩ <;> rfl
theorem DRow.one (h : DRow lim H ds v) : AV.one v = true := by
  rcases h with ⟨rfl, rfl⟩ | ⟨c, cs, h0, rfl, h1, h2, h3⟩ <;> rfl
theorem DRow.cells (h : DRow lim H ds v) : AV.cells v = [v] := by
  rcases h with ⟨rfl, rfl⟩ | ⟨c, cs, h0, rfl, h1, h2, h3⟩ <;> rfl
theorem DCell.app {c : Nat} {cs : List AV} {d : Deed} (h : DCell lim c H cs d) : DCell lim c (H ++ X) cs d := by
  obtain ⟨v1, v2, e, r1, r2, o1, o2⟩ := h
  exact ⟨v1, v2, e, r1.app, r2.app, o1, o2⟩
theorem DRow.app (h : DRow lim H ds v) : DRow lim (H ++ X) ds v := by
  rcases h with h | ⟨c, cs, h0, h1, h2, h3, h4⟩
  · exact .inl h
  · exact .inr ⟨c, cs, h0, h1, get_app h2, h3, fun i hi => (h4 i hi).app⟩
theorem DRow.mono {lim' : Nat} (h : DRow lim H ds v) (hl : lim' ≤ lim) : DRow lim' H ds v := by
  rcases h with h | ⟨c, cs, h0, h1, h2, h3, h4⟩
  · exact .inl h
  · refine .inr ⟨c, cs, by omega, h1, h2, h3, fun i hi => ?_⟩
    obtain ⟨v1, v2, e, r1, r2, o1, o2⟩ := h4 i hi
    exact ⟨v1, v2, e, r1.mono hl, r2.mono hl, o1, o2⟩
/-- Where the blocks that bear rows stay, the deeds stay. -/
theorem DRow.keep {H' : Heap} (h : DRow lim H ds v) (hk : ∀ (b : Nat) (y : List AV), lim ≤ b → H[b]? = some (.cells true y) → H'[b]? = some (.cells true y)) : DRow lim H' ds v := by
  rcases h with h | ⟨c, cs, h0, h1, h2, h3, h4⟩
  · exact .inl h
  · refine .inr ⟨c, cs, h0, h1, hk _ _ h0 h2, h3, fun i hi => ?_⟩
    obtain ⟨v1, v2, e, r1, r2, o1, o2⟩ := h4 i hi
    exact ⟨v1, v2, e, r1.keep fun b y q ho => hk b y (r1.ge ho) q, r2.keep fun b y q ho => hk b y (r2.ge ho) q, o1, o2⟩
theorem DRow.setF {b : Nat} {y : List AV} {z : ABlk} (h : DRow lim H ds v) (hb : H[b]? = some (.cells false y)) : DRow lim (H.set b z) ds v := by
  refine h.keep fun k y2 _ q => get_set q fun e => ?_
  subst e
  rw [hb] at q
  cases q
theorem DRow.off (h : DRow lim H ds v) {b : Nat} {y : List AV} (hb : H[b]? = some (.cells false y)) : Off v b := by
  rcases h with ⟨rfl, rfl⟩ | ⟨c, cs, h0, rfl, h1, h2, h3⟩
  · exact Off.nil
  · refine Off.sl fun e => ?_
    subst e
    rw [hb] at h1
    cases h1
theorem DRow.off_ge {b : Nat} (h : DRow lim H ds v) (hb : H.length ≤ b) : Off v b := by
  rcases h with ⟨rfl, rfl⟩ | ⟨c, cs, h0, rfl, h1, h2, h3⟩
  · exact Off.nil
  · have := lt_of h1
    exact Off.sl (by omega)
theorem DRow.off_lt {b : Nat} (h : DRow lim H ds v) (hb : b < lim) : Off v b := by
  rcases h with ⟨rfl, rfl⟩ | ⟨c, cs, h0, rfl, h1, h2, h3⟩
  · exact Off.nil
  · exact Off.sl (by omega)
theorem DRow.at {i : Nat} {k : IntKind} (h : DRow lim H ds v) (hi : i < ds.length) : idxSlAV 56 (.int k (i : Int)) v = some (ptrAt v i 56) := by
  rcases h with ⟨rfl, rfl⟩ | ⟨c, cs, h0, rfl, h1, h2, h3⟩
  · exact absurd hi (by simp)
  · exact idxSl_sl hi
theorem DRow.load {i : Nat} (h : DRow lim H ds v) (hi : i < ds.length) : ∃ v1 v2, loadAt H (some 56) (ptrAt v i 56) = some (.agg (deedM ds[i] v1 v2)) ∧ Row lim H 3 valC ds[i].bag.vals v1 ∧ Row lim H 1 intC ds[i].ring.plan.targets v2 := by
  rcases h with ⟨rfl, rfl⟩ | ⟨c, cs, h0, rfl, h1, h2, h3⟩
  · exact absurd hi (by simp)
  · obtain ⟨v1, v2, e, r1, r2, _, _⟩ := h3 i hi
    refine ⟨v1, v2, ?_, r1, r2⟩
    have : (i + 1) * 56 ≤ ds.length * 56 := Nat.mul_le_mul_right _ hi
    simp only [ptrAt, loadAt, cells_of h1, Option.bind_some, Option.getD_some, Nat.zero_add]
    rw [cut_at (by omega), e]
    rfl
theorem DRow.cutv {j : Nat} {k : IntKind} (h : DRow lim H ds v) (hj : j ≤ ds.length) : cutSl 56 v none (some (.int k (j : Int))) none = some (subAt v j) ∧ DRow lim H (ds.take j) (subAt v j) ∧ ∀ b, Off v b → Off (subAt v j) b := by
  rcases h with ⟨rfl, rfl⟩ | ⟨c, cs, h0, rfl, h1, h2, h3⟩
  · obtain rfl : j = 0 := by simpa using hj
    refine ⟨?_, .inl ⟨rfl, rfl⟩, fun b _ => Off.nil⟩
    simp [cutSl, bnd, AV.isInt, subAt]
  · refine ⟨?_, .inr ⟨c, cs, h0, ?_, h1, ?_, fun i hi => ?_⟩, fun b hb => Off.sl fun e => ?_⟩
    · simp only [cutSl, if_true, bnd_nat hj, Option.bind_some, subAt]
      simp [bnd]
    · rw [List.length_take, Nat.min_eq_left hj]; rfl
    · rw [List.length_take, Nat.min_eq_left hj]
      exact Nat.le_trans (Nat.mul_le_mul_right _ hj) h2
    · rw [List.length_take, Nat.min_eq_left hj] at hi
      rw [List.getElem_take]
      exact h3 i (by omega)
    · subst e
      exact hb 0 _ _ rfl
theorem take_row {cs : List AV} {i : Nat} : cs.take ((i + 1) * 56) = cs.take (i * 56) ++ (cs.drop (i * 56)).take 56 := by
  rw [Nat.succ_mul, List.take_add]
theorem DRow.frz {n : Nat} (h : DRow lim H ds v) : frz H (n + 3) v = some (roL deedC ds) := by
  rcases h with ⟨rfl, rfl⟩ | ⟨c, cs, h0, rfl, h1, h2, h3⟩
  · rfl
  · have key : ∀ i, i ≤ ds.length → mapO (Go.Proofs.YtflgfiieaoeknaaGreatA.frz H (n + 2)) (cs.take (i * 56)) = some ((ds.take i).flatMap deedC) := by
      intro i
      induction i with
      | zero => intro _; simp [mapO]
      | succ i ih =>
        intro hi
        obtain ⟨v1, v2, e, r1, r2, _, _⟩ := h3 i hi
        rw [take_row, List.take_succ_eq_append_getElem hi, List.flatMap_append, e]
        refine mapO_app (ih (by omega)) ?_
        have := deedV_frz (kd := ds[i].kind) (n := ds[i].n) (key := ds[i].key) (k := ds[i].bag.known) (st := ds[i].ring.status) (ver := ds[i].ring.plan.version) (by' := ds[i].ring.plan.by') (ep := ds[i].ring.epoch) (ow := ds[i].ring.owner) (part := ds[i].part) (d := n + 1) (r1.frz (d := n) valC_len val_flat) (r2.frz (d := n) intC_len int_flat)
        have e3 : ([ds[i]] : List Deed).flatMap deedC = deedC ds[i] := by simp
        rw [e3]
        exact this
    by_cases e : ds.length = 0
    · have e2 := List.length_eq_zero_iff.1 e
      subst e2
      rfl
    · unfold Go.Proofs.YtflgfiieaoeknaaGreatA.frz
      simp only [e, if_false, cells_of h1, Option.bind_some]
      rw [cut_at (by omega), List.drop_zero]
      simp only [Option.bind_some, key ds.length (Nat.le_refl _), List.take_length, Option.map_some]
      rfl
theorem DRow.push {lim2 k : Nat} {d : Deed} {v1 v2 : AV} (h : DRow lim H ds v) (hk : H[k]? = some (.cells true (deedM d v1 v2))) (r1 : Row lim H 3 valC d.bag.vals v1) (r2 : Row lim H 1 intC d.ring.plan.targets v2) (o1 : ∀ c, ¬ Off v c → Off v1 c ∧ Off v2 c)
    (hlim : lim ≤ H.length) (hb : (ds.length + 1) * 488 ≤ most) (hlim2 : lim2 ≤ lim) :
    ∃ v' H', appendAV lim2 H 56 488 v (.sl k 0 1 56) = some (v', H') ∧ DRow lim H' (ds ++ [d]) v' ∧ H.length ≤ H'.length ∧ (∀ (b : Nat) (z : ABlk), H[b]? = some z → Off v b → H'[b]? = some z) ∧ (∀ c, c < H.length → Off v' c) ∧ ∀ P Y, H = P ++ Y → (∀ c, c < P.length → Off v c) → ∃ Y', H' = P ++ Y' := by
  have hel : elems H 56 (.sl k 0 1 56) = some (1, deedM d v1 v2) := by
    simp only [elems, if_true, cells_of hk, Option.bind_some, Nat.one_mul]
    rw [cut_all deedM_len]
    rfl
  have hone : (deedM d v1 v2).all AV.one = true := deedM_one r1.one r2.one
  have hb2 : ds.length + 1 ≤ most := by omega
  rcases h with ⟨rfl, rfl⟩ | ⟨c, cs, h0, rfl, h1, h2, h3⟩
  · refine ⟨.sl H.length 0 1 56, H ++ [ABlk.cells true (deedM d v1 v2)], ?_, .inr ⟨H.length, deedM d v1 v2, hlim, rfl, by simp, by simp [deedM_len], fun i hi => ?_⟩, by simp, fun b z hz _ => get_app hz, fun c hc => Off.sl (by omega), fun P Y e _ => ⟨Y ++ [ABlk.cells true (deedM d v1 v2)], by rw [e, List.append_assoc]⟩⟩
    · simp only [List.length_nil, Nat.zero_add] at hb hb2
      simp only [appendAV, hel, Option.bind_some, Nat.one_ne_zero, if_false]
      rw [if_pos ⟨hb, hb2, by omega, hone⟩]
    · obtain rfl : i = 0 := by simp at hi; omega
      refine ⟨v1, v2, ?_, r1.app, r2.app, r1.off_ge (Nat.le_refl _), r2.off_ge (Nat.le_refl _)⟩
      rw [Nat.zero_mul, List.drop_zero, List.take_of_length_le (by rw [deedM_len]; omega)]
      rfl
  · have hcl := lt_of h1
    have hno : ∀ w, Off w c → ∀ (b : Nat) (y : List AV), H[b]? = some (.cells true y) → ¬ Off w b → (H.set c .dead ++ [ABlk.cells true (cs.take (ds.length * 56) ++ deedM d v1 v2)])[b]? = some (.cells true y) := fun w hw b y q hb => by
      refine get_app (get_set q fun e => ?_)
      subst e
      exact hb hw
    have hoc := o1 c (fun q => q 0 _ _ rfl)
    refine ⟨.sl H.length 0 (ds.length + 1) 56, H.set c .dead ++ [ABlk.cells true (cs.take (ds.length * 56) ++ deedM d v1 v2)], ?_, .inr ⟨H.length, cs.take (ds.length * 56) ++ deedM d v1 v2, hlim, by simp, ?_, by simp [deedM_len]; omega, fun i hi => ?_⟩, by simp, fun b z hz ho => ?_, fun c hc => Off.sl (by omega), fun P Y e ho => ?_⟩
    · simp only [appendAV, hel, Option.bind_some, Nat.one_ne_zero, if_false, h1]
      rw [if_pos ⟨trivial, by omega, Nat.le_trans hlim2 h0, hb, hb2, hone⟩, cut_at (by omega), List.drop_zero]
      rfl
    · have e : H.length = (H.set c ABlk.dead).length := by simp
      rw [e, List.getElem?_append_right (Nat.le_refl _)]
      simp
    · have ht : (cs.take (ds.length * 56)).length = ds.length * 56 := by rw [List.length_take]; omega
      rcases Nat.lt_or_ge i ds.length with q | q
      · obtain ⟨w1, w2, e, s1, s2, p1, p2⟩ := h3 i q
        have hi2 : (i + 1) * 56 ≤ ds.length * 56 := Nat.mul_le_mul_right _ q
        have e2 : ((cs.take (ds.length * 56) ++ deedM d v1 v2).drop (i * 56)).take 56 = (cs.drop (i * 56)).take 56 := by
          rw [List.drop_append_of_le_length (by omega), List.take_append_of_le_length (by rw [List.length_drop]; omega), List.drop_take, List.take_take, Nat.min_eq_left (by omega)]
        rw [e2, List.getElem_append_left q]
        exact ⟨w1, w2, e, s1.keep (hno w1 p1), s2.keep (hno w2 p2), s1.off_ge (Nat.le_refl _), s2.off_ge (Nat.le_refl _)⟩
      · have hi3 : i = ds.length := by simp at hi; omega
        subst hi3
        have e2 : ((cs.take (ds.length * 56) ++ deedM d v1 v2).drop (ds.length * 56)).take 56 = deedM d v1 v2 := by
          rw [List.drop_left' ht, List.take_of_length_le (by rw [deedM_len]; omega)]
        have e3 : (ds ++ [d])[ds.length] = d := by simp
        rw [e2, e3]
        exact ⟨v1, v2, rfl, r1.keep (hno v1 hoc.1), r2.keep (hno v2 hoc.2), r1.off_ge (Nat.le_refl _), r2.off_ge (Nat.le_refl _)⟩
    · refine get_app (get_set hz fun e => ?_)
      subst e
      exact ho 0 _ _ rfl
    · have hpc : P.length ≤ c := by
        rcases Nat.lt_or_ge c P.length with q | q
        · exact absurd rfl (ho c q 0 ds.length 56)
        · exact q
      refine ⟨Y.set (c - P.length) .dead ++ [ABlk.cells true (cs.take (ds.length * 56) ++ deedM d v1 v2)], ?_⟩
      rw [e, List.set_append_right _ _ hpc, List.append_assoc]
end
end Go.Proofs.YtflgfiieaoeknaaGreatA

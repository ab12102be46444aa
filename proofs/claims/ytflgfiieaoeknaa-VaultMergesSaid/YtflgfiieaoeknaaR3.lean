/- Rows of bags. No statement about the program is proved here. -/
import Derived.Test.YtflgfiieaoeknaaR2
namespace Go.Proofs.YtflgfiieaoeknaaA
open Go
set_option linter.unusedSimpArgs false
set_option linter.unusedVariables false
set_option maxRecDepth 1000000

def bagM (d : Bag) (v1 : AV) : List AV := bagV d.known v1
theorem bagM_len {d : Bag} {v1 : AV} : (bagM d v1).length = 9 := hard rfl
theorem bagM_one {d : Bag} {v1 : AV} (h1 : AV.one v1 = true) : (bagM d v1).all AV.one = true := by simp [bagM, h1]
def BCell (lim c : Nat) (H : Heap) (cs : List AV) (d : Bag) : Prop := ∃ v1, cs = bagM d v1 ∧ Row lim H 3 valC d.vals v1 ∧ Off v1 c
/-- v is a row of bags of ours. -/
def BRow (lim : Nat) (H : Heap) (ds : List Bag) (v : AV) : Prop :=
  (ds = [] ∧ v = .nilsl) ∨ ∃ c cs, lim ≤ c ∧ v = .sl c 0 ds.length 9 ∧ H[c]? = some (.cells true cs) ∧ cs.length = ds.length * 9 ∧ ∀ i (hi : i < ds.length), BCell lim c H ((cs.drop (i * 9)).take 9) ds[i]
section
variable {lim : Nat} {H X : Heap} {ds : List Bag} {v : AV}
theorem BRow.nil : BRow lim H [] .nilsl := .inl ⟨rfl, rfl⟩
theorem BRow.len (h : BRow lim H ds v) : lenSlAV v = some (.int .i64 ds.length) := by
  rcases h with ⟨rfl, rfl⟩ | ⟨c, cs, h0, rfl, h1, h2, h3⟩ <;> rfl
theorem BRow.one (h : BRow lim H ds v) : AV.one v = true := by
  rcases h with ⟨rfl, rfl⟩ | ⟨c, cs, h0, rfl, h1, h2, h3⟩ <;> rfl
theorem BRow.cells (h : BRow lim H ds v) : AV.cells v = [v] := by
  rcases h with ⟨rfl, rfl⟩ | ⟨c, cs, h0, rfl, h1, h2, h3⟩ <;> rfl
theorem BCell.app {c : Nat} {cs : List AV} {d : Bag} (h : BCell lim c H cs d) : BCell lim c (H ++ X) cs d := by
  obtain ⟨v1, e, r1, o1⟩ := h
  exact ⟨v1, e, r1.app, o1⟩
theorem BRow.app (h : BRow lim H ds v) : BRow lim (H ++ X) ds v := by
  rcases h with h | ⟨c, cs, h0, h1, h2, h3, h4⟩
  · exact .inl h
  · exact .inr ⟨c, cs, h0, h1, get_app h2, h3, fun i hi => (h4 i hi).app⟩
theorem BRow.mono {lim' : Nat} (h : BRow lim H ds v) (hl : lim' ≤ lim) : BRow lim' H ds v := by
  rcases h with h | ⟨c, cs, h0, h1, h2, h3, h4⟩
  · exact .inl h
  · refine .inr ⟨c, cs, by omega, h1, h2, h3, fun i hi => ?_⟩
    obtain ⟨v1, e, r1, o1⟩ := h4 i hi
    exact ⟨v1, e, r1.mono hl, o1⟩
/-- Where the blocks that bear rows stay, the deeds stay. -/
theorem BRow.keep {H' : Heap} (h : BRow lim H ds v) (hk : ∀ (b : Nat) (y : List AV), lim ≤ b → H[b]? = some (.cells true y) → H'[b]? = some (.cells true y)) : BRow lim H' ds v := by
  rcases h with h | ⟨c, cs, h0, h1, h2, h3, h4⟩
  · exact .inl h
  · refine .inr ⟨c, cs, h0, h1, hk _ _ h0 h2, h3, fun i hi => ?_⟩
    obtain ⟨v1, e, r1, o1⟩ := h4 i hi
    exact ⟨v1, e, r1.keep fun b y q ho => hk b y (r1.ge ho) q, o1⟩
theorem BRow.setF {b : Nat} {y : List AV} {z : ABlk} (h : BRow lim H ds v) (hb : H[b]? = some (.cells false y)) : BRow lim (H.set b z) ds v := by
  refine h.keep fun k y2 _ q => get_set q fun e => ?_
  subst e
  rw [hb] at q
  cases q
theorem BRow.off (h : BRow lim H ds v) {b : Nat} {y : List AV} (hb : H[b]? = some (.cells false y)) : Off v b := by
  rcases h with ⟨rfl, rfl⟩ | ⟨c, cs, h0, rfl, h1, h2, h3⟩
  · exact Off.nil
  · refine Off.sl fun e => ?_
    subst e
    rw [hb] at h1
    cases h1
theorem BRow.off_ge {b : Nat} (h : BRow lim H ds v) (hb : H.length ≤ b) : Off v b := by
  rcases h with ⟨rfl, rfl⟩ | ⟨c, cs, h0, rfl, h1, h2, h3⟩
  · exact Off.nil
  · have := lt_of h1
    exact Off.sl (by omega)
theorem BRow.off_lt {b : Nat} (h : BRow lim H ds v) (hb : b < lim) : Off v b := by
  rcases h with ⟨rfl, rfl⟩ | ⟨c, cs, h0, rfl, h1, h2, h3⟩
  · exact Off.nil
  · exact Off.sl (by omega)
theorem BRow.at {i : Nat} {k : IntKind} (h : BRow lim H ds v) (hi : i < ds.length) : idxSlAV 9 (.int k (i : Int)) v = some (ptrAt v i 9) := by
  rcases h with ⟨rfl, rfl⟩ | ⟨c, cs, h0, rfl, h1, h2, h3⟩
  · exact absurd hi (by simp)
  · exact idxSl_sl hi
theorem BRow.load {i : Nat} (h : BRow lim H ds v) (hi : i < ds.length) : ∃ v1, loadAt H (some 9) (ptrAt v i 9) = some (.agg (bagM ds[i] v1)) ∧ Row lim H 3 valC ds[i].vals v1 := by
  rcases h with ⟨rfl, rfl⟩ | ⟨c, cs, h0, rfl, h1, h2, h3⟩
  · exact absurd hi (by simp)
  · obtain ⟨v1, e, r1, _⟩ := h3 i hi
    refine ⟨v1, ?_, r1⟩
    have : (i + 1) * 9 ≤ ds.length * 9 := Nat.mul_le_mul_right _ hi
    simp only [ptrAt, loadAt, cells_of h1, Option.bind_some, Option.getD_some, Nat.zero_add]
    rw [cut_at (by omega), e]
    rfl
theorem BRow.push {lim2 k : Nat} {d : Bag} {v1 : AV} (h : BRow lim H ds v) (hk : H[k]? = some (.cells true (bagM d v1))) (r1 : Row lim H 3 valC d.vals v1) (o1 : ∀ c, ¬ Off v c → Off v1 c)
    (hlim : lim ≤ H.length) (hb : (ds.length + 1) * 88 ≤ most) (hlim2 : lim2 ≤ lim) :
    ∃ v' H', appendAV lim2 H 9 88 v (.sl k 0 1 9) = some (v', H') ∧ BRow lim H' (ds ++ [d]) v' ∧ H.length ≤ H'.length ∧ (∀ (b : Nat) (z : ABlk), H[b]? = some z → Off v b → H'[b]? = some z) ∧ (∀ c, c < H.length → Off v' c) ∧ ∀ P Y, H = P ++ Y → (∀ c, c < P.length → Off v c) → ∃ Y', H' = P ++ Y' := by
  have hel : elems H 9 (.sl k 0 1 9) = some (1, bagM d v1) := by
    simp only [elems, if_true, cells_of hk, Option.bind_some, Nat.one_mul]
    rw [cut_all bagM_len]
    rfl
  have hone : (bagM d v1).all AV.one = true := bagM_one r1.one
  have hb2 : ds.length + 1 ≤ most := by omega
  rcases h with ⟨rfl, rfl⟩ | ⟨c, cs, h0, rfl, h1, h2, h3⟩
  · refine ⟨.sl H.length 0 1 9, H ++ [ABlk.cells true (bagM d v1)], ?_, .inr ⟨H.length, bagM d v1, hlim, rfl, by simp, by simp [bagM_len], fun i hi => ?_⟩, by simp, fun b z hz _ => get_app hz, fun c hc => Off.sl (by omega), fun P Y e _ => ⟨Y ++ [ABlk.cells true (bagM d v1)], by rw [e, List.append_assoc]⟩⟩
    · simp only [List.length_nil, Nat.zero_add] at hb hb2
      simp only [appendAV, hel, Option.bind_some, Nat.one_ne_zero, if_false]
      rw [if_pos ⟨hb, hb2, by omega, hone⟩]
    · obtain rfl : i = 0 := by simp at hi; omega
      refine ⟨v1, ?_, r1.app, r1.off_ge (Nat.le_refl _)⟩
      rw [Nat.zero_mul, List.drop_zero, List.take_of_length_le (by rw [bagM_len]; omega)]
      rfl
  · have hcl := lt_of h1
    have hno : ∀ w, Off w c → ∀ (b : Nat) (y : List AV), H[b]? = some (.cells true y) → ¬ Off w b → (H.set c .dead ++ [ABlk.cells true (cs.take (ds.length * 9) ++ bagM d v1)])[b]? = some (.cells true y) := fun w hw b y q hb => by
      refine get_app (get_set q fun e => ?_)
      subst e
      exact hb hw
    have hoc := o1 c (fun q => q 0 _ _ rfl)
    refine ⟨.sl H.length 0 (ds.length + 1) 9, H.set c .dead ++ [ABlk.cells true (cs.take (ds.length * 9) ++ bagM d v1)], ?_, .inr ⟨H.length, cs.take (ds.length * 9) ++ bagM d v1, hlim, by simp, ?_, by simp [bagM_len]; omega, fun i hi => ?_⟩, by simp, fun b z hz ho => ?_, fun c hc => Off.sl (by omega), fun P Y e ho => ?_⟩
    · simp only [appendAV, hel, Option.bind_some, Nat.one_ne_zero, if_false, h1]
      rw [if_pos ⟨trivial, by omega, Nat.le_trans hlim2 h0, hb, hb2, hone⟩, cut_at (by omega), List.drop_zero]
      rfl
    · have e : H.length = (H.set c ABlk.dead).length := by simp
      rw [e, List.getElem?_append_right (Nat.le_refl _)]
      simp
    · have ht : (cs.take (ds.length * 9)).length = ds.length * 9 := by rw [List.length_take]; omega
      rcases Nat.lt_or_ge i ds.length with q | q
      · obtain ⟨w1, e, s1, p1⟩ := h3 i q
        have hi2 : (i + 1) * 9 ≤ ds.length * 9 := Nat.mul_le_mul_right _ q
        have e2 : ((cs.take (ds.length * 9) ++ bagM d v1).drop (i * 9)).take 9 = (cs.drop (i * 9)).take 9 := by
          rw [List.drop_append_of_le_length (by omega), List.take_append_of_le_length (by rw [List.length_drop]; omega), List.drop_take, List.take_take, Nat.min_eq_left (by omega)]
        rw [e2, List.getElem_append_left q]
        exact ⟨w1, e, s1.keep (hno w1 p1), s1.off_ge (Nat.le_refl _)⟩
      · have hi3 : i = ds.length := by simp at hi; omega
        subst hi3
        have e2 : ((cs.take (ds.length * 9) ++ bagM d v1).drop (ds.length * 9)).take 9 = bagM d v1 := by
          rw [List.drop_left' ht, List.take_of_length_le (by rw [bagM_len]; omega)]
        have e3 : (ds ++ [d])[ds.length] = d := by simp
        rw [e2, e3]
        exact ⟨v1, rfl, r1.keep (hno v1 hoc), r1.off_ge (Nat.le_refl _)⟩
    · refine get_app (get_set hz fun e => ?_)
      subst e
      exact ho 0 _ _ rfl
    · have hpc : P.length ≤ c := by
        rcases Nat.lt_or_ge c P.length with q | q
        · exact absurd rfl (ho c q 0 ds.length 9)
        · exact q
      refine ⟨Y.set (c - P.length) .dead ++ [ABlk.cells true (cs.take (ds.length * 9) ++ bagM d v1)], ?_⟩
      rw [e, List.set_append_right _ _ hpc, List.append_assoc]
end
end Go.Proofs.YtflgfiieaoeknaaA

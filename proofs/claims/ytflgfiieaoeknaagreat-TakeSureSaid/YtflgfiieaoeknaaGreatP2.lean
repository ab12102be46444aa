/- A bag that is taken twice. No program is in sight here. -/
import Derived.Test.YtflgfiieaoeknaaGreatP1
import Derived.Test.YtflgfiieaoeknaaGreatU1
namespace Go.Proofs.YtflgfiieaoeknaaGreatA
open Go
set_option linter.unusedSimpArgs false
set_option linter.unusedVariables false

theorem asc_uniq : ∀ {l : List Val}, Asc l → ∀ {u v : Val}, u ∈ l → v ∈ l → u.node = v.node → u.n = v.n → u = v
  | a :: l, h, u, v, hu, hv, h1, h2 => by
    unfold Asc at h
    rw [List.pairwise_cons] at h
    rcases List.mem_cons.1 hu with e | pu <;> rcases List.mem_cons.1 hv with e' | pv
    · rw [e, e']
    · have := h.1 v pv
      rw [dlt_iff, ← e] at this
      omega
    · have := h.1 u pu
      rw [dlt_iff, ← e'] at this
      omega
    · exact asc_uniq h.2 pu pv h1 h2
/-- What the writes of two bags say. -/
def dataOf (l : List Val) (a c : Int) : Option (List UInt8) := (l.find? fun v => decide (v.node = a ∧ v.n = c)).map Val.data
theorem dataOf_mem {l : List Val} (h : Asc l) {v : Val} (hv : v ∈ l) : dataOf l v.node v.n = some v.data := by
  unfold dataOf
  cases e : l.find? fun u => decide (u.node = v.node ∧ u.n = v.n) with
  | none =>
    have := List.find?_eq_none.1 e v hv
    simp at this
  | some u =>
    have h1 := List.mem_of_find?_eq_some e
    have h2 := List.find?_some e
    simp only [decide_eq_true_eq] at h2
    rw [asc_uniq h h1 hv h2.1 h2.2]
    rfl
theorem dataOf_some {l : List Val} {a c : Int} {d : List UInt8} (h : dataOf l a c = some d) : ∃ u ∈ l, u.node = a ∧ u.n = c ∧ u.data = d := by
  unfold dataOf at h
  rw [Option.map_eq_some_iff] at h
  obtain ⟨u, h1, h2⟩ := h
  have h3 := List.find?_some h1
  simp only [decide_eq_true_eq] at h3
  exact ⟨u, List.mem_of_find?_eq_some h1, h3.1, h3.2, h2⟩
def dataD (l r : List Val) (a c : Int) : List UInt8 := (dataOf l a c).getD ((dataOf r a c).getD [])
theorem dataD_l {l r : List Val} (h : Asc l) {v : Val} (hv : v ∈ l) : v.data = dataD l r v.node v.n := by
  unfold dataD
  rw [dataOf_mem h hv]
  rfl
theorem dataD_r {l r : List Val} (h : Asc r) (g : ∀ x ∈ l, ∀ y ∈ r, x.node = y.node → x.n = y.n → x.data = y.data) {v : Val} (hv : v ∈ r) : v.data = dataD l r v.node v.n := by
  unfold dataD
  cases e : dataOf l v.node v.n with
  | none => rw [dataOf_mem h hv]; rfl
  | some d =>
    obtain ⟨u, h1, h2, h3, h4⟩ := dataOf_some e
    have := g u h1 v hv h2 h3
    simp only [Option.getD_some]
    rw [← h4, this]

/-! ## Merges -/
def Bk (D : Int → Int → List UInt8) (s : VSt) : Prop := ∀ key, BagOk D (bagOf s key).known (bagOf s key).vals
section
variable {D : Int → Int → List UInt8} {s : VSt} {key : List UInt8} {b : Bag}
theorem empty_bk {room : Int} : Bk D (emptyS room) := fun _ => zero_ok
theorem ring_bk {d : Deed} (h : Bk D s) (hd : d.kind = 2) : Bk D (wroteS s d) := by
  unfold wroteS
  split
  · intro key
    have : bagOf (countS { s with ds := s.ds ++ [d] } d) key = bagOf s key := by simp [countS, hd, bagOf]
    rw [this]
    exact h key
  · exact h
theorem merge_bad (h : bagMay b.known b.vals = false) : mergeO s key b = ⟨1, s⟩ := by
  unfold mergeO
  rw [if_pos (.inr h)]
theorem merge_last {D : Int → Int → List UInt8} (h : Bk D s) (hb : BagOk D b.known b.vals) (hE : joinE (bagOf s key).known (bagOf s key).vals b.known b.vals = 0) :
    mergeD s key b = bagD s.dots key ⟨joinV (bagOf s key).known b.known, joinL (bagOf s key).known (bagOf s key).vals b.known b.vals⟩ ∧ BagOk D (joinV (bagOf s key).known b.known) (joinL (bagOf s key).known (bagOf s key).vals b.known b.vals) := by
  rcases joinE_cases (h key) hb with ⟨q, _⟩ | ⟨_, q2, q3, q4⟩
  · omega
  · exact ⟨by rw [mergeD, q3, q4], join_ok (h key) hb q2⟩
theorem wrote_bag {n : Int} {x : Bag} (hw : writeE (bagD n key x) s.ds s.room = 0) (key' : List UInt8) : bagOf (wroteS s (bagD n key x)) key' = if key' = key then x else bagOf s key' := by
  rw [wroteS, if_pos hw]
  by_cases h : key' = key
  · subst h; simp [countS, bagD, bagOf, lookB_set]
  · have : (key' == key) = false := by simpa using h
    simp [countS, bagD, bagOf, lookB_set, h]
theorem wrote_full {n : Int} {x : Bag} (hw : writeE (bagD n key x) s.ds s.room = 0) : fullS (wroteS s (bagD n key x)) key = false := by
  rw [wroteS, if_pos hw]
  simp [countS, bagD, fullS, lookB_set]
theorem wrote_ring {n : Int} {x : Bag} : (wroteS s (bagD n key x)).ring = s.ring ∧ (wroteS s (bagD n key x)).rings = s.rings := by
  unfold wroteS
  split
  · simp [countS, bagD]
  · exact ⟨rfl, rfl⟩
theorem merge_ring : (mergeO s key b).s.ring = s.ring ∧ (mergeO s key b).s.rings = s.rings := by
  unfold mergeO
  split
  · exact ⟨rfl, rfl⟩
  · split
    · exact ⟨rfl, rfl⟩
    · split
      · exact ⟨rfl, rfl⟩
      · exact wrote_ring
theorem merge_bk (h : Bk D s) (hb : bagMay b.known b.vals = true → BagOk D b.known b.vals) : Bk D (mergeO s key b).s := by
  unfold mergeO
  split
  · exact h
  · rename_i h1
    have hm : bagMay b.known b.vals = true := by
      cases e : bagMay b.known b.vals
      · exact absurd (.inr e) h1
      · rfl
    split
    · exact h
    · split
      · exact h
      · rename_i h2 h3
        have hE : joinE (bagOf s key).known (bagOf s key).vals b.known b.vals = 0 := by
          by_cases e : joinE (bagOf s key).known (bagOf s key).vals b.known b.vals = 0
          · exact e
          · exact absurd (.inl e) h3
        obtain ⟨e1, e2⟩ := merge_last h (hb hm) hE
        simp only
        by_cases hw : writeE (mergeD s key b) s.ds s.room = 0
        · rw [e1] at hw ⊢
          intro key'
          rw [wrote_bag hw]
          split
          · exact e2
          · exact h key'
        · rw [wroteS, if_neg hw]
          exact h
theorem merge_ok (ok : VOk s) : VOk (mergeO s key b).s := by
  unfold mergeO
  split
  · exact ok
  · split
    · exact ok
    · split
      · exact ok
      · exact ok.wrote ⟨joinR_fit, Nat.zero_le _⟩
theorem merge_inv (h : Inv s) : Inv (mergeO s key b).s := by
  unfold mergeO
  split
  · exact h
  · split
    · exact h
    · split
      · exact h
      · exact h.wrote (.inr (.inr rfl))
theorem merge_e : (mergeO s key b).e = 0 ∨ (mergeO s key b).e = 1 ∨ (mergeO s key b).e = 5 := by
  have hj : ∀ {ka kb : Nat → Int} {la lb : List Val}, joinE ka la kb lb = 0 ∨ joinE ka la kb lb = 1 ∨ joinE ka la kb lb = 5 := by
    intro ka kb la lb
    unfold joinE
    split
    · split <;> omega
    · omega
  have hw : ∀ {d : Deed} {ds : List Deed} {r : Int}, writeE d ds r = 0 ∨ writeE d ds r = 1 ∨ writeE d ds r = 5 := by
    intro d ds r
    unfold writeE
    split
    · split <;> omega
    · omega
  unfold mergeO
  split
  · exact .inr (.inl rfl)
  · split
    · exact .inr (.inr rfl)
    · split
      · exact hj
      · exact hw
/-- Once more: nothing is written. -/
theorem merge_twice (h : Bk D s) (hb : bagMay b.known b.vals = true → BagOk D b.known b.vals) (he : (mergeO s key b).e = 0) :
    bagMay b.known b.vals = true ∧ keyOk key = true ∧ fullS (mergeO s key b).s key = false ∧ joinE (bagOf (mergeO s key b).s key).known (bagOf (mergeO s key b).s key).vals b.known b.vals = 0 ∧ belowB b.known b.vals (bagOf (mergeO s key b).s key).known (bagOf (mergeO s key b).s key).vals = true := by
  unfold mergeO at he ⊢
  split
  · rename_i h1
    rw [if_pos h1] at he
    exact absurd he (by show (1 : Int) ≠ 0; omega)
  · rename_i h1
    rw [if_neg h1] at he
    have hm : bagMay b.known b.vals = true := by
      cases e : bagMay b.known b.vals
      · exact absurd (.inr e) h1
      · rfl
    have hk : keyOk key = true := by
      cases e : keyOk key
      · exact absurd (.inl e) h1
      · rfl
    refine ⟨hm, hk, ?_⟩
    split
    · rename_i h2
      rw [if_pos h2] at he
      exact absurd he (by show (5 : Int) ≠ 0; omega)
    · rename_i h2
      rw [if_neg h2] at he
      have hf : fullS s key = false := by
        cases e : fullS s key
        · rfl
        · exact absurd e h2
      split
      · rename_i h3
        rw [if_pos h3] at he
        simp only at he ⊢
        refine ⟨hf, he, ?_⟩
        rcases h3 with q | q
        · exact absurd he q
        · exact q
      · rename_i h3
        rw [if_neg h3] at he
        simp only at he ⊢
        have hE : joinE (bagOf s key).known (bagOf s key).vals b.known b.vals = 0 := by
          by_cases e : joinE (bagOf s key).known (bagOf s key).vals b.known b.vals = 0
          · exact e
          · exact absurd (.inl e) h3
        obtain ⟨e1, e2⟩ := merge_last h (hb hm) hE
        rw [e1] at he ⊢
        have u := upon_join2 (h key) (hb hm)
        refine ⟨wrote_full he, ?_, ?_⟩
        · rw [wrote_bag he, if_pos rfl]
          exact (joinE_upon (hb hm) e2 u).2
        · rw [wrote_bag he, if_pos rfl]
          exact below_upon (hb hm) e2 u
theorem merge_none (h1 : bagMay b.known b.vals = true) (h2 : keyOk key = true) (h3 : fullS s key = false) (h4 : joinE (bagOf s key).known (bagOf s key).vals b.known b.vals = 0) (h5 : belowB b.known b.vals (bagOf s key).known (bagOf s key).vals = true) : mergeO s key b = ⟨0, s⟩ := by
  unfold mergeO
  rw [if_neg (by rw [h1, h2]; simp), if_neg (by rw [h3]; simp), if_pos (.inr h5), h4]
end
end Go.Proofs.YtflgfiieaoeknaaGreatA

/- Three who write one key, and what was told of it. No program is in sight here. -/
import Derived.Test.YtkmikfhfjjmobaaP1g
import Derived.Test.YtkmikfhfjjmobaaQ0
import Derived.Test.YtkmikfhfjjmobaaW3
namespace Go.Proofs.YtkmikfhfjjmobaaA.G
open Go
set_option linter.unusedSimpArgs false
set_option linter.unusedVariables false

abbrev D1 : Int → Int → List UInt8 := fun _ _ => [118]
def cnt (n : Nat → Nat) (i : Nat) : Int := if i < 3 then (n i : Int) else 0
theorem cnt_lt {n : Nat → Nat} {w : Nat} (h : w < 3) : cnt n w = n w := if_pos h
/-- What a bag shows: what it knows of, but for what was known to what it knows of. -/
def Sees (W : List Wr) (k : Nat → Int) (l : List Val) : Prop := ∀ v, v ∈ l ↔ ∃ x ∈ W, x.v = v ∧ has k v.node v.n = true ∧ ∀ y ∈ W, has k y.v.node y.v.n = true → knows y x = false
structure Kn (W : List Wr) (n : Nat → Nat) (k : Nat → Int) (l : List Val) : Prop where
  ok : BagOk D1 k l
  le : ∀ i, i < 8 → k i ≤ cnt n i
  sees : Sees W k l
  shut : ∀ y ∈ W, has k y.v.node y.v.n = true → ∀ i, i < 8 → y.k i ≤ k i
structure Tw (W : List Wr) (n : Nat → Nat) : Prop where
  asc : Asc (W.map Wr.v)
  dot : ∀ x ∈ W, ∃ w, w < 3 ∧ x.v.node = ((w : Nat) : Int) ∧ 1 ≤ x.v.n ∧ x.v.n ≤ ((n w : Nat) : Int)
  data : ∀ x ∈ W, x.v.data = [118]
  all : ∀ w, w < 3 → ∀ j : Nat, 1 ≤ j → j ≤ n w → ∃ x ∈ W, x.v.node = ((w : Nat) : Int) ∧ x.v.n = (j : Int)
  know : ∀ x ∈ W, ∀ i, i < 8 → x.k i ≤ cnt n i
section
variable {W : List Wr} {n : Nat → Nat} {k ka kb known : Nat → Int} {l la lb : List Val} {w : Nat}
theorem knows_v {y x x' : Wr} (h : x.v = x'.v) : knows y x = knows y x' := by unfold knows; rw [h]
theorem knows_f {y x : Wr} : knows y x = false ↔ (y.v.node = x.v.node ∧ y.v.n = x.v.n) ∨ has y.k x.v.node x.v.n = false := by
  unfold knows
  by_cases h1 : y.v.node = x.v.node <;> by_cases h2 : y.v.n = x.v.n <;> simp [h1, h2]
theorem sees_len (h : Sees W k l) (hl : Asc l) (hw : Asc (W.map Wr.v)) : l.length ≤ W.length := by
  have e : l = (W.map Wr.v).filter fun v => decide (v ∈ l) := by
    refine asc_ext hl (List.Pairwise.filter _ hw) fun v => ?_
    rw [List.mem_filter]
    constructor
    · intro hv
      obtain ⟨x, hx, rfl, _⟩ := (h v).1 hv
      exact ⟨List.mem_map_of_mem hx, by simpa using hv⟩
    · rintro ⟨_, q⟩
      simpa using q
  rw [e]
  exact Nat.le_trans (List.length_filter_le _ _) (by simp)
theorem zero_kn (t : Tw W n) : Kn W n zeroV [] where
  ok := zero_ok
  le := fun i _ => by unfold cnt zeroV; split <;> omega
  sees := fun v => by
    constructor
    · intro h; simp at h
    · rintro ⟨x, _, _, h, _⟩
      rw [has_iff] at h
      unfold zeroV at h
      omega
  shut := fun y _ h => by
    rw [has_iff] at h
    unfold zeroV at h
    omega
theorem join_kn (t : Tw W n) (hW : W.length ≤ 32) (ha : Kn W n ka la) (hb : Kn W n kb lb) : joinE ka la kb lb = 0 ∧ joinK ka la kb lb = joinV ka kb ∧ joinR ka la kb lb = joinL ka la kb lb ∧ Kn W n (joinV ka kb) (joinL ka la kb lb) := by
  have hs : Sees W (joinV ka kb) (joinL ka la kb lb) := fun v => by
    rw [mem_join ha.ok hb.ok]
    constructor
    · rintro ⟨h1, h2, h3⟩
      have key : ∀ {k1 k2 : Nat → Int} {l1 l2 : List Val}, Kn W n k1 l1 → Kn W n k2 l2 → v ∈ l1 → (v ∈ l2 ∨ has k2 v.node v.n = false) → ∃ x ∈ W, x.v = v ∧ has k1 v.node v.n = true ∧ ∀ y ∈ W, has k1 y.v.node y.v.n = true ∨ has k2 y.v.node y.v.n = true → knows y x = false := fun {k1 k2 l1 l2} g1 g2 hv hv2 => by
        obtain ⟨x, hx, ex, hk, hy⟩ := (g1.sees v).1 hv
        refine ⟨x, hx, ex, hk, fun y hyW q => ?_⟩
        rcases q with q | q
        · exact hy y hyW q
        · rcases hv2 with p | p
          · obtain ⟨x', _, ex', _, hy'⟩ := (g2.sees v).1 p
            rw [knows_v (ex.trans ex'.symm)]
            exact hy' y hyW q
          · rw [knows_f]
            refine .inr ?_
            rw [Bool.eq_false_iff]
            intro r
            have := has_mono (g2.shut y hyW q) r
            rw [ex, p] at this
            cases this
      rcases h1 with q | q
      · obtain ⟨x, a, b, c, d⟩ := key ha hb q h3
        exact ⟨x, a, b, has_join.2 (.inl c), fun y hy r => d y hy (has_join.1 r)⟩
      · obtain ⟨x, a, b, c, d⟩ := key hb ha q h2
        exact ⟨x, a, b, has_join.2 (.inr c), fun y hy r => d y hy (has_join.1 r).symm⟩
    · rintro ⟨x, hx, ex, hk, hy⟩
      have key : ∀ {k1 : Nat → Int} {l1 : List Val}, Kn W n k1 l1 → (∀ y ∈ W, has k1 y.v.node y.v.n = true → knows y x = false) → v ∈ l1 ∨ has k1 v.node v.n = false := fun {k1 l1} g hy => by
        cases q : has k1 v.node v.n
        · exact .inr rfl
        · exact .inl ((g.sees v).2 ⟨x, hx, ex, q, hy⟩)
      have q1 := key ha fun y hyW r => hy y hyW (has_join.2 (.inl r))
      have q2 := key hb fun y hyW r => hy y hyW (has_join.2 (.inr r))
      refine ⟨?_, q1, q2⟩
      rcases q1 with q | q
      · exact .inl q
      · rcases q2 with p | p
        · exact .inr p
        · have := has_join_f.2 ⟨q, p⟩
          rw [hk] at this
          cases this
  have hlen := Nat.le_trans (sees_len hs (join_asc ha.ok) t.asc) hW
  rcases joinE_cases ha.ok hb.ok with ⟨_, q⟩ | ⟨q1, q2, q3, q4⟩
  · omega
  refine ⟨q1, q3, q4, join_ok ha.ok hb.ok q2, fun i hi => ?_, hs, fun y hy h i hi => ?_⟩
  · have := ha.le i hi
    have := hb.le i hi
    unfold joinV
    omega
  · rcases has_join.1 h with p | p
    · exact Int.le_trans (ha.shut y hy p i hi) joinV_le.1
    · exact Int.le_trans (hb.shut y hy p i hi) joinV_le.2

/-! ## A write -/
theorem told_map {a c : Int} {d : List UInt8} : (toldL W known a c d).map Wr.v = insV (W.map Wr.v) ⟨a, c, d⟩ := by
  simp only [toldL, posW, insV, List.map_append, List.map_cons, List.map_take, List.map_drop]
theorem mem_told {a c : Int} {d : List UInt8} {x : Wr} : x ∈ toldL W known a c d ↔ x = ⟨⟨a, c, d⟩, known⟩ ∨ x ∈ W := by
  unfold toldL
  rw [List.mem_append, List.mem_cons]
  constructor
  · rintro (h | h | h)
    · exact .inr (List.mem_of_mem_take h)
    · exact .inl h
    · exact .inr (List.mem_of_mem_drop h)
  · rintro (h | h)
    · exact .inr (.inl h)
    · rw [← List.take_append_drop (posW W a c) W, List.mem_append] at h
      rcases h with h | h
      · exact .inl h
      · exact .inr (.inr h)
theorem told_len {a c : Int} {d : List UInt8} : (toldL W known a c d).length = W.length + 1 := by
  have := congrArg List.length (told_map (W := W) (known := known) (a := a) (c := c) (d := d))
  rw [List.length_map, insV_len, List.length_map] at this
  exact this
theorem new_dot (t : Tw W n) (hw : w < 3) : isAt (W.map Wr.v) w ((n w + 1 : Nat) : Int) = false := by
  rw [Bool.eq_false_iff]
  intro h
  obtain ⟨v, hv, h1, h2⟩ := isAt_iff.1 h
  obtain ⟨x, hx, rfl⟩ := List.mem_map.1 hv
  obtain ⟨w', h3, h4, h5, h6⟩ := t.dot x hx
  have : w' = w := by omega
  subst this
  omega
theorem cnt_upd {i : Nat} : cnt n i ≤ cnt (updF n w (n w + 1)) i := by
  unfold cnt updF
  by_cases h : i = w
  · subst h; split <;> simp <;> omega
  · simp [h]
theorem told_tw (t : Tw W n) (hw : w < 3) (hk : ∀ i, i < 8 → known i ≤ cnt n i) : Tw (toldL W known w ((n w + 1 : Nat) : Int) [118]) (updF n w (n w + 1)) where
  asc := by rw [told_map]; exact insV_asc t.asc (new_dot t hw)
  dot := fun x hx => by
    rcases mem_told.1 hx with rfl | hx
    · exact ⟨w, hw, rfl, by simp only; omega, by simp [updF]⟩
    · obtain ⟨w', h1, h2, h3, h4⟩ := t.dot x hx
      refine ⟨w', h1, h2, h3, Int.le_trans h4 ?_⟩
      unfold updF
      split
      · rename_i e; subst e; omega
      · exact Int.le_refl _
  data := fun x hx => by
    rcases mem_told.1 hx with rfl | hx
    · rfl
    · exact t.data x hx
  all := fun w' hw' j h1 h2 => by
    by_cases e : w' = w
    · subst e
      simp only [updF, if_true] at h2
      by_cases e2 : j = n w' + 1
      · exact ⟨_, mem_told.2 (.inl rfl), rfl, by simp only; omega⟩
      · obtain ⟨x, hx, g⟩ := t.all w' hw' j h1 (by omega)
        exact ⟨x, mem_told.2 (.inr hx), g⟩
    · simp only [updF, e, if_false] at h2
      obtain ⟨x, hx, g⟩ := t.all w' hw' j h1 h2
      exact ⟨x, mem_told.2 (.inr hx), g⟩
  know := fun x hx i hi => by
    rcases mem_told.1 hx with rfl | hx
    · exact Int.le_trans (hk i hi) cnt_upd
    · exact Int.le_trans (t.know x hx i hi) cnt_upd
/-- Who did not write sees what it saw. -/
theorem other_kn (t : Tw W n) (hw : w < 3) (h : Kn W n k l) : Kn (toldL W known w ((n w + 1 : Nat) : Int) [118]) (updF n w (n w + 1)) k l where
  ok := h.ok
  le := fun i hi => Int.le_trans (h.le i hi) cnt_upd
  sees := fun v => by
    have hno : ¬ has k (w : Int) ((n w + 1 : Nat) : Int) = true := fun q => by
      rw [has_iff] at q
      have := h.le w (by omega)
      rw [cnt_lt hw] at this
      have e : ((w : Nat) : Int).toNat = w := by omega
      rw [e] at q
      omega
    rw [h.sees v]
    constructor
    · rintro ⟨x, hx, ex, hk, hy⟩
      refine ⟨x, mem_told.2 (.inr hx), ex, hk, fun y hy' q => ?_⟩
      rcases mem_told.1 hy' with rfl | hy'
      · exact absurd q hno
      · exact hy y hy' q
    · rintro ⟨x, hx, ex, hk, hy⟩
      rcases mem_told.1 hx with rfl | hx
      · subst ex
        exact absurd hk hno
      · exact ⟨x, hx, ex, hk, fun y hy' q => hy y (mem_told.2 (.inr hy')) q⟩
  shut := fun y hy q => by
    rcases mem_told.1 hy with rfl | hy
    · exfalso
      rw [has_iff] at q
      have := h.le w (by omega)
      rw [cnt_lt hw] at this
      have e : ((w : Nat) : Int).toNat = w := by omega
      simp only at q
      rw [e] at q
      omega
    · exact h.shut y hy q
/-- Who writes. -/
theorem put_kn (t : Tw W n) (hw : w < 3) (h : Kn W n k l) (hown : k w = n w) (hn : n w < 1000000) (hW : W.length < 32) (hkm : vecMay known = true) (hk : ∀ i, i < 8 → known i ≤ k i) :
    putE k l known w ((n w + 1 : Nat) : Int) [118] = 0 ∧ Kn (toldL W known w ((n w + 1 : Nat) : Int) [118]) (updF n w (n w + 1)) (putK k l known w ((n w + 1 : Nat) : Int) [118]) (putR k l known w ((n w + 1 : Nat) : Int) [118]) ∧ putK k l known w ((n w + 1 : Nat) : Int) [118] w = ((n w + 1 : Nat) : Int) := by
  have e0 : ((w : Nat) : Int).toNat = w := by omega
  have hdot : dotOk w ((n w + 1 : Nat) : Int) = true := by rw [dotOk_iff]; omega
  have hnot : has k w ((n w + 1 : Nat) : Int) = false := by
    rw [Bool.eq_false_iff]
    intro q
    rw [has_iff, e0, hown] at q
    omega
  have hpm : putMay k l known w ((n w + 1 : Nat) : Int) [118] = true := putMay_iff.2 ⟨h.ok.may, hkm, hdot, hnot, by simp⟩
  have hlen : (putL l known w ((n w + 1 : Nat) : Int) [118]).length ≤ 32 := by
    have h1 := sees_len h.sees h.ok.asc t.asc
    have h2 : (keptL known l).length ≤ l.length := List.length_filter_le _ _
    unfold putL
    rw [insV_len]
    omega
  have hE : putE k l known w ((n w + 1 : Nat) : Int) [118] = 0 := by
    rcases putE_cases (k := k) (known := known) (l := l) (a := w) (c := ((n w + 1 : Nat) : Int)) (data := [118]) with ⟨q, _⟩ | ⟨_, q, _⟩ | ⟨_, _, q⟩
    · rw [hpm] at q; cases q
    · omega
    · exact q
  obtain ⟨_, p2, p3, p4⟩ := put_ok hE
  have hK : ∀ i, i < 8 → putK k l known w ((n w + 1 : Nat) : Int) [118] i = if i = w then ((n w + 1 : Nat) : Int) else k i := fun i hi => by
    rw [p2]
    have := hk i hi
    have hno : nodeOk ((w : Nat) : Int) = true := by
      unfold dotOk at hdot
      rw [Bool.and_eq_true] at hdot
      exact hdot.1
    unfold withV joinV
    simp only [e0, hno, if_true, upd]
    by_cases e : i = w
    · subst e
      rw [if_pos rfl, if_pos rfl]
      omega
    · rw [if_neg e, if_neg e]
      omega
  have hhas : ∀ x ∈ W, has (putK k l known w ((n w + 1 : Nat) : Int) [118]) x.v.node x.v.n = has k x.v.node x.v.n := fun x hx => by
    obtain ⟨w', h1, h2, h3, h4⟩ := t.dot x hx
    have e1 : x.v.node.toNat = w' := by omega
    rw [Bool.eq_iff_iff, has_iff, has_iff, e1, hK w' (by omega)]
    by_cases e : w' = w
    · subst e
      rw [if_pos rfl, hown]
      omega
    · rw [if_neg e]
  have hnew : has (putK k l known w ((n w + 1 : Nat) : Int) [118]) w ((n w + 1 : Nat) : Int) = true := by
    rw [has_iff, e0, hK w (by omega), if_pos rfl]
    omega
  refine ⟨hE, ⟨⟨p4, fun v hv => ?_⟩, fun i hi => ?_, fun v => ?_, fun y hy q i hi => ?_⟩, by rw [hK w (by omega), if_pos rfl]⟩
  · rw [p3] at hv
    rcases mem_insV.1 hv with rfl | q
    · rfl
    · exact h.ok.data v (mem_kept.1 q).1
  · rw [hK i hi]
    by_cases e : i = w
    · subst e
      rw [if_pos rfl, cnt_lt hw]
      simp [updF]
    · rw [if_neg e]
      exact Int.le_trans (h.le i hi) cnt_upd
  · rw [p3]
    unfold putL
    rw [mem_insV, mem_kept]
    constructor
    · rintro (rfl | ⟨hv, hkn⟩)
      · refine ⟨_, mem_told.2 (.inl rfl), rfl, hnew, fun y hy q => ?_⟩
        rcases mem_told.1 hy with rfl | hy
        · rw [knows_f]; exact .inl ⟨rfl, rfl⟩
        · rw [knows_f]
          refine .inr ?_
          rw [Bool.eq_false_iff]
          intro r
          rw [has_iff] at r
          simp only [e0] at r
          have := t.know y hy w (by omega)
          rw [cnt_lt hw] at this
          omega
      · obtain ⟨x, hx, rfl, hkx, hy⟩ := (h.sees v).1 hv
        refine ⟨x, mem_told.2 (.inr hx), rfl, by rw [hhas x hx]; exact hkx, fun y hy' q => ?_⟩
        rcases mem_told.1 hy' with rfl | hy'
        · rw [knows_f]
          exact .inr hkn
        · exact hy y hy' (by rw [← hhas y hy']; exact q)
    · rintro ⟨x, hx, rfl, hkx, hy⟩
      rcases mem_told.1 hx with rfl | hx
      · exact .inl rfl
      · refine .inr ⟨(h.sees _).2 ⟨x, hx, rfl, by rw [← hhas x hx]; exact hkx, fun y hy' q => hy y (mem_told.2 (.inr hy')) (by rw [hhas y hy']; exact q)⟩, ?_⟩
        have := hy _ (mem_told.2 (.inl rfl)) hnew
        rw [knows_f] at this
        rcases this with ⟨q1, q2⟩ | q
        · exfalso
          obtain ⟨w', g1, g2, g3, g4⟩ := t.dot x hx
          simp only at q1 q2
          have : w' = w := by omega
          subst this
          omega
        · exact q
  · rw [hK i hi]
    rcases mem_told.1 hy with rfl | hy
    · have := hk i hi
      simp only
      split
      · rename_i e
        subst e
        rw [hown] at this
        omega
      · exact this
    · have := h.shut y hy (by rw [← hhas y hy]; exact q) i hi
      split
      · rename_i e
        subst e
        rw [hown] at this
        omega
      · exact this
theorem told_may (t : Tw W n) (hw : w < 3) (hn : n w < 1000000) (hkm : vecMay known = true) : toldMay [107] W known w ((n w + 1 : Nat) : Int) [118] = true ∧ toldMay [107] (toldL W known w ((n w + 1 : Nat) : Int) [118]) known w ((n w + 1 : Nat) : Int) [118] = false := by
  have hdot : dotOk w ((n w + 1 : Nat) : Int) = true := by rw [dotOk_iff]; omega
  constructor
  · have : atW W w ((n w + 1 : Nat) : Int) = false := new_dot t hw
    unfold toldMay toldOk
    rw [hkm, hdot, this]
    rfl
  · have : atW (toldL W known w ((n w + 1 : Nat) : Int) [118]) w ((n w + 1 : Nat) : Int) = true := by
      unfold atW
      rw [isAt_iff]
      exact ⟨⟨w, ((n w + 1 : Nat) : Int), [118]⟩, List.mem_map.2 ⟨_, mem_told.2 (.inl rfl), rfl⟩, rfl, rfl⟩
    unfold toldMay
    rw [this]
    simp

/-! ## In the end -/
theorem all_iff (t : Tw W n) : (∀ x ∈ W, has k x.v.node x.v.n = true) ↔ ∀ w, w < 3 → n w ≠ 0 → (n w : Int) ≤ k w := by
  constructor
  · intro h w hw h0
    obtain ⟨x, hx, h1, h2⟩ := t.all w hw (n w) (by omega) (Nat.le_refl _)
    have := h x hx
    rw [has_iff, h1, h2] at this
    have e0 : ((w : Nat) : Int).toNat = w := by omega
    rw [e0] at this
    exact this.2.2.2
  · intro h x hx
    obtain ⟨w', h1, h2, h3, h4⟩ := t.dot x hx
    have e1 : x.v.node.toNat = w' := by omega
    have := h w' h1 (by omega)
    rw [has_iff, e1]
    omega
theorem newest_mem (t : Tw W n) {v : Val} : v ∈ newestL W ↔ ∃ x ∈ W, x.v = v ∧ ∀ y ∈ W, knows y x = false := by
  unfold newestL
  rw [List.mem_map]
  constructor
  · rintro ⟨x, hx, rfl⟩
    rw [List.mem_filter] at hx
    refine ⟨x, hx.1, rfl, fun y hy => ?_⟩
    have := hx.2
    unfold freshW at this
    simp only [Bool.not_eq_true', List.any_eq_false] at this
    simpa using this y hy
  · rintro ⟨x, hx, rfl, h⟩
    refine ⟨x, List.mem_filter.2 ⟨hx, ?_⟩, rfl⟩
    unfold freshW
    simp only [Bool.not_eq_true', List.any_eq_false]
    exact fun y hy => by rw [h y hy]; simp
theorem newest_asc (t : Tw W n) : Asc (newestL W) := by
  unfold newestL Asc
  have h := t.asc
  unfold Asc at h
  rw [List.pairwise_map] at h ⊢
  exact List.Pairwise.filter _ h
theorem newest_eq (t : Tw W n) (h : Kn W n k l) (hall : ∀ x ∈ W, has k x.v.node x.v.n = true) : newestL W = l := by
  refine asc_ext (newest_asc t) h.ok.asc fun v => ?_
  rw [newest_mem t, h.sees v]
  constructor
  · rintro ⟨x, hx, rfl, hy⟩
    exact ⟨x, hx, rfl, hall x hx, fun y hy' _ => hy y hy'⟩
  · rintro ⟨x, hx, rfl, _, hy⟩
    exact ⟨x, hx, rfl, fun y hy' => hy y hy' (hall y hy')⟩
theorem covers_eq (t : Tw W n) (h : Kn W n k l) : coversB W k l = decide (∀ x ∈ W, has k x.v.node x.v.n = true) := by
  unfold coversB
  rw [h.ok.may, Bool.true_and]
  by_cases hall : ∀ x ∈ W, has k x.v.node x.v.n = true
  · rw [newest_eq t h hall]
    have : (W.all fun w => has k w.v.node w.v.n) = true := List.all_eq_true.2 hall
    have h2 : (l.all fun v => decide (v ∈ l)) = true := List.all_eq_true.2 fun v hv => by simpa using hv
    rw [this, h2, Bool.true_and]
    exact (decide_eq_true hall).symm
  · have : (W.all fun w => has k w.v.node w.v.n) = false := by
      rw [Bool.eq_false_iff]
      intro q
      exact hall (List.all_eq_true.1 q)
    rw [this, Bool.false_and]
    exact (decide_eq_false hall).symm
theorem below_eq {ky : Nat → Int} (t : Tw W n) (h : Kn W n k l) (hy : ∀ i, i < 8 → ky i ≤ cnt n i) (hy3 : ∀ w, w < 3 → ky w = n w) : belowV ky k = coversB W k l := by
  rw [covers_eq t h, Bool.eq_iff_iff, decide_eq_true_iff, all_iff t, belowV_iff]
  have h0 := vecMay_iff.1 (bagMay_iff.1 h.ok.may).1
  constructor
  · intro q w hw _
    have := q w (by omega)
    rw [hy3 w hw] at this
    exact this
  · intro q i hi
    by_cases h3 : i < 3
    · rw [hy3 i h3]
      by_cases hz : n i = 0
      · have := h0 i hi; omega
      · exact q i h3 hz
    · have := hy i hi
      unfold cnt at this
      rw [if_neg h3] at this
      have := h0 i hi
      omega
end
end Go.Proofs.YtkmikfhfjjmobaaA.G

/- The ref bag: With, JoinVector, put. No statement about the program is proved here. -/
import Derived.Test.YtflgfiieaoeknaaGreatV6
import Derived.Test.YtflgfiieaoeknaaGreatL8
namespace Go.Proofs.YtflgfiieaoeknaaGreatA
open Go
set_option linter.unusedSimpArgs false
set_option linter.unusedVariables false
set_option maxRecDepth 1000000
attribute [local simp] vec_zero

theorem c101 (k : Nat → Int) (a c : Int) : Pu envE 101 [.agg (vecC k), .agg [I a, I c]] (.agg (vecC (withV k a c))) := by
  refine pu_is e101 rfl ?_
  by_cases h : nodeOk a = true
  · obtain ⟨h1, h2⟩ := nodeOk_iff.1 h
    have h3 : a.toNat < 8 := by omega
    have h4 : a.toNat ≤ 7 := by omega
    rw [fr_init (by simp [fd101])]
    simp [fd101, b101, h, h1, h2, h3, h4, withV]
  · rw [fr_init (by simp [fd101])]
    simp [fd101, b101, h, withV]
@[simp] theorem k101 {k : Nat → Int} {a c : Int} {H : Heap} {K : AV → Heap → Prop} : wPu envE 101 (some [.agg (vecC k), .agg [I a, I c]]) H K = K (.agg (vecC (withV k a c))) H := (wPu_eq (c101 k a c)).trans (by simp)
theorem c102 (a c : Nat → Int) : Pu envE 102 [.agg (vecC a), .agg (vecC c)] (.agg (vecC (joinV a c))) := by
  refine pu_is e102 rfl ?_
  rw [fr_init (by simp [fd102])]
  simp [fd102, b102]
  refine loop_go [2, 3, 4, 6] rfl (fun m vs H => ∃ i, m + i = 8 ∧ H = [.cells false (vecC fun j => if j < i then max (a j) (c j) else a j), .cells false (vecC c), .cells false (vecC zeroV)] ∧ vs = [.ptr (some (0, 0)), .ptr (some (1, 0)), .ptr (some (2, 0)), I i]) ?_ 8 ⟨0, rfl, by simp, rfl⟩
  rintro J hJ m vs H b ⟨i, hm, rfl, rfl⟩
  by_cases hi : i < 8
  · have hw := wrap_succ (i := i) (by omega)
    have hi' : (i : Int) < 8 := by omega
    have hi2 : i ≤ 7 := by omega
    simp [lp102_0, hi, hi', hi2, hw]
    refine nxt hJ (m - 1) (by omega) ⟨i + 1, by omega, ?_, rfl⟩
    congr 2
    refine vec_ext fun j hj => ?_
    simp only [upd]
    by_cases q : j = i
    · subst q; simp
    · by_cases q2 : j < i
      · simp [q, q2, Nat.lt_succ_of_lt q2]
      · have q3 : ¬ j < i + 1 := by omega
        simp [q, q2, q3]
  · have hi' : ¬ (i : Int) < 8 := by omega
    have e : vecC (fun j => if j < i then max (a j) (c j) else a j) = vecC (joinV a c) := vec_ext fun j hj => by
      have : j < i := by omega
      simp [this, joinV]
    simp [lp102_0, hi', e]
@[simp] theorem k102 {a c : Nat → Int} {H : Heap} {K : AV → Heap → Prop} : wPu envE 102 (some [.agg (vecC a), .agg (vecC c)]) H K = K (.agg (vecC (joinV a c))) H := (wPu_eq (c102 a c)).trans (by simp)
theorem dot_load {l : List Val} {i : Nat} (hi : i < l.length) {H : Heap} : loadAt H (some 2) (.tp ((l.flatMap valC).drop (i * 3))) = some (.agg [I l[i].node, I l[i].n]) := by
  have e := flatMap_cut valC_len l i hi
  have e2 : cut ((l.flatMap valC).drop (i * 3)) 0 2 = some [I l[i].node, I l[i].n] := by
    unfold Go.Proofs.YtflgfiieaoeknaaGreatA.cut at e ⊢
    split at e
    · rename_i h
      rw [if_pos (by omega)]
      simp only [Option.some.injEq, List.drop_zero] at e ⊢
      have : ((l.flatMap valC).drop (i * 3)).take 2 = ((((l.flatMap valC).drop (i * 3)).take 3).take 2) := by rw [List.take_take]; rfl
      rw [this, e]
      rfl
    · cases e
  simp only [loadAt, Option.getD_some, e2, Option.bind_some, shapeOf]
theorem Row.appendR {α : Type} {lim es bytes : Nat} {f : α → List AV} {H : Heap} {l r : List α} {v x : AV} (hl : ∀ x, (f x).length = es) (hes : 0 < es) (h1 : ∀ x, (f x).all AV.one = true) (h : Row lim H es f l v) (hx : Go.Proofs.YtflgfiieaoeknaaGreatA.elems H es x = some (r.length, r.flatMap f)) (hb : (l.length + r.length) * bytes ≤ most) (hb2 : l.length + r.length ≤ most) (hlim : lim ≤ H.length) :
    ∃ v' H', appendAV lim H es bytes v x = some (v', H') ∧ Row lim H' es f (l ++ r) v' ∧ H.length ≤ H'.length := by
  by_cases e : r = []
  · subst e
    refine ⟨v, H, ?_, by simpa using h, Nat.le_refl _⟩
    simp only [appendAV, hx, Option.bind_some, List.length_nil, if_true]
    rcases h with ⟨_, rfl⟩ | ⟨_, b, _, rfl, _⟩ <;> rfl
  · obtain ⟨v', H', a1, a2, a3, _⟩ := h.append (bytes := bytes) hl hes h1 hx rfl e hb hb2
    exact ⟨v', H', a1, a2 hlim, a3⟩
theorem nil_append {α : Type} {lim es bytes : Nat} {f : α → List AV} {H : Heap} {r : List α} {x : AV} (hes : 0 < es) (h1 : ∀ x, (f x).all AV.one = true) (hx : elems H es x = some (r.length, r.flatMap f)) (hb : r.length * bytes ≤ most) (hb2 : r.length ≤ most) :
    ∃ v X, appendAV lim H es bytes .nilsl x = some (v, H ++ X) ∧ Row 0 (H ++ X) es f r v := by
  by_cases e : r = []
  · subst e
    exact ⟨.nilsl, [], by simp [appendAV, hx], .inl ⟨rfl, rfl⟩⟩
  · have hm : r.length ≠ 0 := fun q => e (List.length_eq_zero_iff.1 q)
    have hone : (r.flatMap f).all AV.one = true := by
      rw [List.all_flatMap]
      exact List.all_eq_true.2 fun x _ => h1 x
    refine ⟨.sl H.length 0 r.length es, [.cells true (r.flatMap f)], ?_, .inr ⟨e, _, Nat.zero_le _, rfl, by simp⟩⟩
    simp only [appendAV, hx, Option.bind_some, hm, if_false]
    rw [if_pos ⟨hb, hb2, hes, hone⟩]
theorem put_row {l : List Val} {v : Val} (hl : l.length < 4398046511104) {i : Nat} (hi : i ≤ l.length) (H1 : Heap) :
    ∃ v1 X1 v2 H4 v3 H5, cutSl 3 (roL valC l) none (some (I i)) none = some (.ro i ((l.take i).flatMap valC)) ∧ cutSl 3 (roL valC l) (some (I i)) none none = some (.ro (l.length - i) ((l.drop i).flatMap valC)) ∧
      appendAV H1.length H1 3 32 .nilsl (.ro i ((l.take i).flatMap valC)) = some (v1, H1 ++ X1) ∧
      appendAV 0 (H1 ++ (X1 ++ [.cells true (valC v)])) 3 32 v1 (.sl (H1.length + X1.length) 0 1 3) = some (v2, H4) ∧ H1.length + (X1.length + 1) ≤ H4.length ∧
      appendAV 0 H4 3 32 v2 (.ro (l.length - i) ((l.drop i).flatMap valC)) = some (v3, H5) ∧ H4.length ≤ H5.length ∧ Row 0 H5 3 valC (l.take i ++ v :: l.drop i) v3 := by
  have hti : (l.take i).length = i := by rw [List.length_take]; omega
  have hdi : (l.drop i).length = l.length - i := List.length_drop ..
  have x1 : elems H1 3 (.ro i ((l.take i).flatMap valC)) = some ((l.take i).length, (l.take i).flatMap valC) := by
    simp only [elems, flatMap_len valC_len, hti, if_true]
  obtain ⟨v1, X1, a1, r1⟩ := nil_append (lim := H1.length) (bytes := 32) (by omega) valC_one x1 (by rw [hti]; simp only [most]; omega) (by rw [hti]; simp only [most]; omega)
  have r1' : Row 0 (H1 ++ (X1 ++ [ABlk.cells true (valC v)])) 3 valC (l.take i) v1 := by
    rw [← List.append_assoc]; exact r1.app
  have x2 : elems (H1 ++ (X1 ++ [ABlk.cells true (valC v)])) 3 (.sl (H1.length + X1.length) 0 1 3) = some ([v].length, [v].flatMap valC) := by
    have e : (H1 ++ (X1 ++ [ABlk.cells true (valC v)]))[H1.length + X1.length]? = some (.cells true (valC v)) := by
      rw [← List.append_assoc, ← List.length_append]; exact get_new
    simp [elems, Heap.cells?, e]
  obtain ⟨v2, H4, a2, r2, l2⟩ := r1'.appendR (bytes := 32) valC_len (by omega) valC_one x2 (by rw [hti]; simp only [most, List.length_singleton]; omega) (by rw [hti]; simp only [most, List.length_singleton]; omega) (Nat.zero_le _)
  have x3 : elems H4 3 (.ro (l.length - i) ((l.drop i).flatMap valC)) = some ((l.drop i).length, (l.drop i).flatMap valC) := by
    simp only [elems, flatMap_len valC_len, hdi, if_true]
  obtain ⟨v3, H5, a3, r3, l3⟩ := r2.appendR (bytes := 32) valC_len (by omega) valC_one x3 (by rw [List.length_append, hti, hdi]; simp only [most, List.length_singleton]; omega) (by rw [List.length_append, hti, hdi]; simp only [most, List.length_singleton]; omega) (Nat.zero_le _)
  refine ⟨v1, X1, v2, H4, v3, H5, ?_, ?_, a1, a2, ?_, a3, l3, ?_⟩
  · simp only [roL, cutSl, bnd_nat hi, Option.bind_some]
    simp [bnd, AV.isInt, flatMap_take valC_len]
  · have := flatMap_drop valC_len l i
    simp only [roL, cutSl]
    simp [bnd, AV.isInt, bnd_nat hi]
    rw [if_pos hi, Option.bind_some, List.take_of_length_le (by rw [List.length_drop, flatMap_len valC_len]; omega), this]
  · simpa using l2
  · simpa using r3
theorem c103 (l : List Val) (v : Val) (hl : l.length < 4398046511104) : Pu envE 103 [roL valC l, .agg (valC v)] (owL 3 valC (insV l v)) := by
  refine pu_is e103 rfl ?_
  rw [fr_init (by simp [fd103])]
  simp [fd103, b103]
  refine loop_go [0, 3, 5] rfl (fun m vs H => ∃ i X, m + i = l.length ∧ (∀ j (hj : j < l.length), j < i → below v.node v.n l[j] = true) ∧ H = .cells false (valC v) :: X ∧ vs = [roL valC l, .ptr (some (0, 0)), I i]) ?_ l.length ⟨0, [], rfl, by omega, rfl, rfl⟩
  rintro J hJ m vs H b ⟨i, X, hm, hall, rfl, rfl⟩
  have fin : (∀ (hi : i < l.length), below v.node v.n l[i] = false) → pos l v.node v.n = i := fun h => pos_eq (by omega) hall h
  obtain ⟨H1, hH1⟩ : ∃ H1, H1 = ABlk.cells false (valC v) :: X := ⟨_, rfl⟩
  have hc : Heap.cells? H1 0 = some (valC v) := by rw [hH1]; rfl
  obtain ⟨v1, X1, v2, H4, v3, H5, s1, s2, a1, a2, l2, a3, l3, r3⟩ := put_row (v := v) hl (i := i) (by omega) H1
  have hc2 : Heap.cells? (H1 ++ X1) 0 = some (valC v) := cells_app hc
  obtain ⟨u, hu, hn, _⟩ := r3.own (d := 10) valC_len (by omega) val_plain
  rw [← hH1]
  by_cases hi : i < l.length
  · have hw := wrap_succ (i := i) (by omega)
    have hld := dot_load hi (H := H1)
    have hld3 : Heap.cells? H1 0 = some (valC v) := hc
    by_cases hb : dotCmp l[i].node l[i].n v.node v.n < 0
    · simp [lp103_0, hi, idxSl_roL hi, hld, hc, hb, hw, -load_tp]
      exact nxt hJ (m - 1) (by omega) ⟨i + 1, X, by omega, fun j hj hji => by
        rcases Nat.lt_or_ge j i with q | q
        · exact hall j hj q
        · obtain rfl : j = i := by omega
          simpa [below] using hb, hH1, rfl⟩
    · have hp := fin fun _ => by simpa [below] using hb
      have e : insV l v = l.take i ++ v :: l.drop i := by rw [insV, hp]
      rw [e]
      simp [lp103_0, hi, idxSl_roL hi, hld, hc, hb, hw, -load_tp, s1, s2, a1, hc2, a2, l2, a3, l3, hu, hn]
  · have hp := fin fun h => absurd h hi
    have e : insV l v = l.take i ++ v :: l.drop i := by rw [insV, hp]
    rw [e]
    simp [lp103_0, hi, hc, s1, s2, a1, hc2, a2, l2, a3, l3, hu, hn]
end Go.Proofs.YtflgfiieaoeknaaGreatA

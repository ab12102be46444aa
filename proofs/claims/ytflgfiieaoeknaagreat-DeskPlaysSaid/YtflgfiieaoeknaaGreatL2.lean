/- Ledgers in memory: what New, Len, Sure, Room, Sync, Write, Crash and All do. No statement about the program is proved here. -/
import Derived.Test.YtflgfiieaoeknaaGreatL1
namespace Go.Proofs.YtflgfiieaoeknaaGreatA
open Go
set_option linter.unusedSimpArgs false
set_option maxRecDepth 1000000
attribute [local simp] deed_zero

theorem e73 : envE.fn 73 = some (.prim (cloneG 3 32)) := rfl
theorem e129 : envE.fn 129 = some (.prim (cloneG 1 8)) := rfl
theorem clone_ro {α : Type} {es bytes lim : Nat} {f : α → List AV} {H : Heap} {l : List α} (hl : ∀ x, (f x).length = es) (hes : 0 < es) (h1 : ∀ x, (f x).all AV.one = true) (hb : l.length * bytes ≤ most) (hb2 : l.length ≤ most) (hlim : lim ≤ H.length) :
    ∃ v X, cloneG es bytes [roL f l] lim H = some (v, H ++ X) ∧ Row H.length (H ++ X) es f l v := by
  have hel : elems H es (roL f l) = some (l.length, l.flatMap f) := by
    simp only [elems, roL, flatMap_len hl, if_true]
  by_cases e : l = []
  · subst e
    refine ⟨.nilsl, [], ?_, .inl ⟨rfl, rfl⟩⟩
    simp only [cloneG, appendAV, hel, Option.bind_some, List.length_nil, if_true, List.append_nil]
  · have hm : l.length ≠ 0 := fun q => e (List.length_eq_zero_iff.1 q)
    have hone : (l.flatMap f).all AV.one = true := by
      rw [List.all_flatMap]
      exact List.all_eq_true.2 fun x _ => h1 x
    refine ⟨.sl H.length 0 l.length es, [.cells true (l.flatMap f)], ?_, .inr ⟨e, _, Nat.le_refl _, rfl, by simp⟩⟩
    simp only [cloneG, appendAV, hel, Option.bind_some, hm, if_false]
    rw [if_pos ⟨hb, hb2, hes, hone⟩]
theorem noTwo_of : ∀ {u w : List Nat}, noTwo u = true → noTwo w = true → (∀ b ∈ u, ¬ b ∈ w) → noTwo (u ++ w) = true
  | [], w, _, h, _ => by simpa using h
  | x :: u, w, h, k, q => by
    simp only [noTwo, Bool.and_eq_true, Bool.not_eq_true', List.cons_append] at h ⊢
    refine ⟨?_, noTwo_of h.2 k fun b hb => q b (.tail _ hb)⟩
    have h1 := h.1
    rw [Bool.eq_false_iff] at h1 ⊢
    simp only [Ne, List.contains_iff_mem, List.mem_append, not_or] at h1 ⊢
    exact ⟨h1, q x (.head _)⟩
/-- A deed as it is handed back. -/
def deedO (d : Deed) : List AV := deedV d.kind d.n d.key d.bag.known (owL 3 valC d.bag.vals) d.ring.status d.ring.plan.version d.ring.plan.by' (owL 1 intC d.ring.plan.targets) d.ring.epoch d.ring.owner d.part
theorem intC_one (n : Int) : (intC n).all AV.one = true := hard rfl
def deedFits (d : Deed) : Prop := d.bag.vals.length * 32 ≤ reachBytes ∧ d.ring.plan.targets.length * 8 ≤ reachBytes
theorem c91 (d : Deed) (hf : deedFits d) : Pu envE 91 [.agg (deedC d)] (.agg (deedO d)) := by
  have hr : reachBytes = 140737488351232 := rfl
  obtain ⟨f1, f2⟩ := hf
  refine pu_is e91 rfl ?_
  rw [fr_init (by simp [fd91])]
  obtain ⟨v1, X1, q1, r1⟩ := clone_ro (lim := 0) (bytes := 32) (H := [.cells false (deedC d), .cells false (deedV 0 0 [] zeroV .nilsl zeroV 0 0 .nilsl zeroV zeroV 0)]) (l := d.bag.vals) valC_len (by omega) valC_one (by simp only [most]; omega) (by simp only [most]; omega) (by simp)
  have hc1 : ∀ K, WCl envE 73 [roL valC d.bag.vals] 0 [.cells false (deedC d), .cells false (deedV 0 0 [] zeroV .nilsl zeroV 0 0 .nilsl zeroV zeroV 0)] K = K v1 ([.cells false (deedC d), .cells false (deedV 0 0 [] zeroV .nilsl zeroV 0 0 .nilsl zeroV zeroV 0)] ++ X1) := fun K => WCl_eq (cl_prim e73 q1)
  have hset : (deedV d.kind d.n d.key d.bag.known v1 d.ring.status d.ring.plan.version d.ring.plan.by' (roL intC d.ring.plan.targets) d.ring.epoch d.ring.owner d.part).all AV.one = true := by simp [r1.one]
  obtain ⟨v2, X2, q2, r2⟩ := clone_ro (lim := 0) (bytes := 8) (H := .cells false (deedV d.kind d.n d.key d.bag.known v1 d.ring.status d.ring.plan.version d.ring.plan.by' (roL intC d.ring.plan.targets) d.ring.epoch d.ring.owner d.part) :: .cells false (deedV 0 0 [] zeroV .nilsl zeroV 0 0 .nilsl zeroV zeroV 0) :: X1) (l := d.ring.plan.targets) (es := 1) intC_len (by omega) intC_one (by simp only [most]; omega) (by simp only [most]; omega) (by simp)
  have hc2 : ∀ K, WCl envE 129 [roL intC d.ring.plan.targets] 0 (.cells false (deedV d.kind d.n d.key d.bag.known v1 d.ring.status d.ring.plan.version d.ring.plan.by' (roL intC d.ring.plan.targets) d.ring.epoch d.ring.owner d.part) :: .cells false (deedV 0 0 [] zeroV .nilsl zeroV 0 0 .nilsl zeroV zeroV 0) :: X1) K = K v2 (.cells false (deedV d.kind d.n d.key d.bag.known v1 d.ring.status d.ring.plan.version d.ring.plan.by' (roL intC d.ring.plan.targets) d.ring.epoch d.ring.owner d.part) :: .cells false (deedV 0 0 [] zeroV .nilsl zeroV 0 0 .nilsl zeroV zeroV 0) :: (X1 ++ X2)) := fun K => WCl_eq (cl_prim e129 q2)
  have r1' : Row 2 (.cells false (deedV d.kind d.n d.key d.bag.known v1 d.ring.status d.ring.plan.version d.ring.plan.by' v2 d.ring.epoch d.ring.owner d.part) :: .cells false (deedV d.kind d.n d.key d.bag.known v1 d.ring.status d.ring.plan.version d.ring.plan.by' v2 d.ring.epoch d.ring.owner d.part) :: (X1 ++ X2)) 3 valC d.bag.vals v1 := by
    have a := ((r1.set (b := 0) (z := .cells false (deedV d.kind d.n d.key d.bag.known v1 d.ring.status d.ring.plan.version d.ring.plan.by' v2 d.ring.epoch d.ring.owner d.part)) (r1.off (by simp))).set (b := 1) (z := .cells false (deedV d.kind d.n d.key d.bag.known v1 d.ring.status d.ring.plan.version d.ring.plan.by' v2 d.ring.epoch d.ring.owner d.part)) (r1.off (by simp))).app (X := X2)
    exact a
  have r2' : Row (X1.length + 2) (.cells false (deedV d.kind d.n d.key d.bag.known v1 d.ring.status d.ring.plan.version d.ring.plan.by' v2 d.ring.epoch d.ring.owner d.part) :: .cells false (deedV d.kind d.n d.key d.bag.known v1 d.ring.status d.ring.plan.version d.ring.plan.by' v2 d.ring.epoch d.ring.owner d.part) :: (X1 ++ X2)) 1 intC d.ring.plan.targets v2 := by
    have a := (r2.set (b := 0) (z := .cells false (deedV d.kind d.n d.key d.bag.known v1 d.ring.status d.ring.plan.version d.ring.plan.by' v2 d.ring.epoch d.ring.owner d.part)) (r2.off (by simp))).set (b := 1) (z := .cells false (deedV d.kind d.n d.key d.bag.known v1 d.ring.status d.ring.plan.version d.ring.plan.by' v2 d.ring.epoch d.ring.owner d.part)) (r2.off (by simp))
    exact a
  obtain ⟨u1, o1, n1, m1⟩ := r1'.own (d := 9) valC_len (by omega) val_plain
  obtain ⟨u2, o2, n2, m2⟩ := r2'.own (d := 9) intC_len (by omega) int_plain
  have hdis : noTwo (u1 ++ u2) = true := noTwo_of n1 n2 fun b hb hb2 => by
    obtain ⟨_, o, n, s, e⟩ := m1 b hb
    exact (r1.off_ge (c := b) (by simpa using (m2 b hb2).1)) o n s e
  have hown := deedV_own (kd := d.kind) (n := d.n) (key := d.key) (k := d.bag.known) (st := d.ring.status) (ver := d.ring.plan.version) (by' := d.ring.plan.by') (ep := d.ring.epoch) (ow := d.ring.owner) (part := d.part) o1 o2
  simp only [deedC_eq] at hc1
  simp only [List.cons_append, List.nil_append] at hc1
  simp [fd91, b91, hc1, hc2, r1.cells, r1.one, r2.cells, r2.one, hown, hdis, deedO]
end Go.Proofs.YtflgfiieaoeknaaGreatA

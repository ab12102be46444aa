/- What Same and May of plans, rings, entries and deeds answer. No statement about the program is proved here. -/
import Derived.Test.YtflgfiieaoeknaaGreatP0
import Derived.Test.YtflgfiieaoeknaaGreatV0
namespace Go.Proofs.YtflgfiieaoeknaaGreatA
open Go
set_option linter.unusedSimpArgs false
set_option maxRecDepth 1000000
attribute [local simp] deed_zero ring_zero bagV_zero

/-! ## In plain words -/
def planSame (p q : Plan) : Bool := decide (p.version = q.version ∧ p.by' = q.by' ∧ p.targets = q.targets)
def ringSame (r s : Ring) : Bool := vecEq r.status s.status && (prtEq r.epoch r.owner s.epoch s.owner && planSame r.plan s.plan)
def bagSameB (a b : Bag) : Bool := bagSame a.known a.vals b.known b.vals
def deedSame (a b : Deed) : Bool := decide (a.kind = b.kind) && (decide (a.n = b.n) && (decide (a.key = b.key) && (decide (a.part = b.part) && (bagSameB a.bag b.bag && ringSame a.ring b.ring))))
def entMay (e o : Int) : Bool := decide (e = 0 ∧ o = 0) || (decide (1 ≤ e) && (decide (e ≤ 1000000) && nodeOk o))
def fullT (l : List Int) : Bool := decide (l.length = 16) && l.all nodeOk
def planMay (p : Plan) : Bool := if p.targets = [] then decide (p.version = 0 ∧ p.by' = 0) else decide (1 ≤ p.version) && (decide (p.version ≤ 1000000) && (nodeOk p.by' && fullT p.targets))
def statMay (k : Nat → Int) : Bool := (List.range 8).all fun i => decide (0 ≤ k i) && decide (k i ≤ 4)
def partsMay (ep ow : Nat → Int) : Bool := (List.range 16).all fun i => entMay (ep i) (ow i)
def ringMay (r : Ring) : Bool := statMay r.status && (planMay r.plan && partsMay r.epoch r.owner)
def zBagS : Bag := ⟨zeroV, []⟩
def zRingS : Ring := ⟨zeroV, ⟨0, 0, []⟩, zeroV, zeroV⟩
def withinB (n m : Int) : Bool := decide (0 ≤ n) && decide (n ≤ m)
def keyOk (s : List UInt8) : Bool := decide (1 ≤ s.length) && decide (s.length ≤ 32)

/-! ## Same -/
theorem int_load {l : List Int} {i : Nat} (hi : i < l.length) {H : Heap} : loadAt H none (.tp ((l.flatMap intC).drop i)) = some (I l[i]) := by
  have := load_roL1 (f := intC) (g := I) (fun _ => rfl) hi (H := H)
  rwa [Nat.mul_one] at this
theorem c178 (a b : List Int) (hl : a.length < 4611686018427387904) : ∃ n : Int, Pu envE 178 [roL intC a, roL intC b] (I n) ∧ (n = 0 ↔ a = b) := by
  suffices h : ∃ d, Pu envE 178 [roL intC a, roL intC b] d ∧ ∃ n : Int, d = I n ∧ (n = 0 ↔ a = b) by
    obtain ⟨d, h1, n, rfl, h2⟩ := h
    exact ⟨n, h1, h2⟩
  refine pu_ex e178 rfl ?_
  rw [fr_init (by simp [fd178])]
  simp [fd178, b178]
  refine loop_go [0, 1, 9, 10, 11] rfl (fun m vs H => ∃ i, m + i = a.length ∧ (∀ j (hj : j < a.length) (hj2 : j < b.length), j < i → a[j] = b[j]) ∧ i ≤ b.length ∧ vs = [roL intC a, roL intC b, roL intC a, I a.length, I i]) ?_ a.length ⟨0, rfl, by omega, by omega, rfl⟩
  rintro J hJ m vs H f ⟨i, hm, hall, hib, rfl⟩
  by_cases hi : i < a.length
  · have hw := wrap_succ (i := i) (by omega)
    have h1 := int_load hi (H := H)
    by_cases hb : b.length ≤ i
    · have hne : ¬ a = b := fun e => by rw [e] at hi; omega
      have hb' : (b.length : Int) ≤ i := by omega
      simp [lp178_0, hi, hw, idxSl_roL hi, h1, hb, hne, -load_tp]
    · have hb2 : i < b.length := by omega
      have hb' : ¬ (b.length : Int) ≤ i := by omega
      have h2 := int_load hb2 (H := H)
      by_cases hq : cmpI a[i] b[i] = 0
      · have hq2 := cmpI_zero.1 hq
        simp [lp178_0, hi, hw, idxSl_roL hi, idxSl_roL hb2, h1, h2, hb, hq, -load_tp]
        exact nxt hJ (m - 1) (by omega) ⟨i + 1, by omega, fun j hj hj2 hji => by
          rcases Nat.lt_or_ge j i with q | q
          · exact hall j hj hj2 q
          · obtain rfl : j = i := by omega
            exact hq2, by omega, rfl⟩
      · have hne : ¬ a = b := fun e => hq (cmpI_zero.2 (by subst e; rfl))
        simp [lp178_0, hi, hw, idxSl_roL hi, idxSl_roL hb2, h1, h2, hb, hq, hne, -load_tp]
  · by_cases hlt : a.length < b.length
    · have hne : ¬ a = b := fun e => by rw [e] at hlt; omega
      simp [lp178_0, hi, hlt, hne]
    · have heq : a = b := List.ext_getElem (by omega) fun j h1 h2 => hall j h1 h2 (by omega)
      simp [lp178_0, hi, hlt, heq]
      simp [← heq, hi]
theorem orL_zero : ∀ {l : List Int}, orL l = 0 ↔ ∀ x ∈ l, x = 0
  | [] => by simp [orL]
  | a :: l => by
    unfold orL
    by_cases h : a = 0
    · simp [h, orL_zero]
    · simp [h]
theorem c158 (p q : Plan) (hl : p.targets.length < 4611686018427387904) : ∃ n : Int, Pu envE 158 [.agg (planV p.version p.by' (roL intC p.targets)), .agg (planV q.version q.by' (roL intC q.targets))] (I n) ∧ (n = 0 ↔ planSame p q = true) := by
  obtain ⟨n, h1, h2⟩ := c178 p.targets q.targets hl
  refine ⟨orL [cmpI p.version q.version, cmpI p.by' q.by', cmpI p.targets.length q.targets.length, n], ?_, ?_⟩
  · refine pu_is e158 rfl ?_
    rw [fr_init (by simp [fd158])]
    simp [fd158, b158, wPu_eq h1, frz_sl]
  · rw [orL_zero]
    simp only [List.mem_cons, List.not_mem_nil, or_false, forall_eq_or_imp, forall_eq, cmpI_zero, h2, planSame, decide_eq_true_eq]
    constructor
    · rintro ⟨a, b, _, d⟩; exact ⟨a, b, d⟩
    · rintro ⟨a, b, d⟩; exact ⟨a, b, by rw [d], d⟩
theorem c186 (p q : Plan) (hl : p.targets.length < 4611686018427387904) : Pu envE 186 [.agg (planV p.version p.by' (roL intC p.targets)), .agg (planV q.version q.by' (roL intC q.targets))] (.bool (planSame p q)) := by
  obtain ⟨n, h1, h2⟩ := c158 p q hl
  refine pu_is e186 rfl ?_
  rw [fr_init (by simp [fd186])]
  have e : (n == 0) = planSame p q := by
    rw [Bool.eq_iff_iff, beq_iff_eq]
    exact h2
  simp [fd186, b186, wPu_eq h1, e]
@[simp] theorem k186 {v1 b1 v2 b2 : Int} {t1 t2 : List Int} {H : Heap} {K : AV → Heap → Prop} (hl : t1.length < 4611686018427387904) : wPu envE 186 (some [.agg (planV v1 b1 (roL intC t1)), .agg (planV v2 b2 (roL intC t2))]) H K = K (.bool (planSame ⟨v1, b1, t1⟩ ⟨v2, b2, t2⟩)) H := (wPu_eq (c186 ⟨v1, b1, t1⟩ ⟨v2, b2, t2⟩ hl)).trans (by simp)
theorem c179 (r s : Ring) (hl : r.plan.targets.length < 4611686018427387904) : Pu envE 179 [.agg (ringC r), .agg (ringC s)] (.bool (ringSame r s)) := by
  refine pu_is e179 rfl ?_
  rw [fr_init (by simp [fd179])]
  by_cases h1 : vecEq r.status s.status = true
  · by_cases h2 : prtEq r.epoch r.owner s.epoch s.owner = true
    · simp [fd179, b179, h1, h2, hl, ringSame]
    · simp [fd179, b179, h1, h2, ringSame]
  · simp [fd179, b179, h1, ringSame]
@[simp] theorem k179 {s1 e1 o1 s2 e2 o2 : Nat → Int} {v1 b1 v2 b2 : Int} {t1 t2 : List Int} {H : Heap} {K : AV → Heap → Prop} (hl : t1.length < 4611686018427387904) : wPu envE 179 (some [.agg (ringV s1 v1 b1 (roL intC t1) e1 o1), .agg (ringV s2 v2 b2 (roL intC t2) e2 o2)]) H K = K (.bool (ringSame ⟨s1, ⟨v1, b1, t1⟩, e1, o1⟩ ⟨s2, ⟨v2, b2, t2⟩, e2, o2⟩)) H := (wPu_eq (c179 ⟨s1, ⟨v1, b1, t1⟩, e1, o1⟩ ⟨s2, ⟨v2, b2, t2⟩, e2, o2⟩ hl)).trans (by simp)
theorem c162 (a b : Deed) (hl : a.bag.vals.length < 4611686018427387904) (hl2 : a.ring.plan.targets.length < 4611686018427387904) : Pu envE 162 [.agg (deedC a), .agg (deedC b)] (.bool (deedSame a b)) := by
  refine pu_is e162 rfl ?_
  rw [fr_init (by simp [fd162])]
  by_cases h1 : a.kind = b.kind
  case neg => simp [fd162, b162, h1, deedSame]
  by_cases h2 : a.n = b.n
  case neg => simp [fd162, b162, h1, h2, deedSame]
  by_cases h3 : a.key = b.key
  case neg => simp [fd162, b162, h1, h2, h3, deedSame]
  by_cases h4 : a.part = b.part
  case neg => simp [fd162, b162, h1, h2, h3, h4, deedSame]
  have h5 : bagSame a.bag.known a.bag.vals b.bag.known b.bag.vals = bagSameB a.bag b.bag := rfl
  by_cases h6 : bagSameB a.bag b.bag = true
  · simp [fd162, b162, h1, h2, h3, h4, hl, hl2, h5, h6, deedSame]
  · simp [fd162, b162, h1, h2, h3, h4, hl, hl2, h5, h6, deedSame]
theorem deedV_c (kd n : Int) (key : List UInt8) (k st ep ow : Nat → Int) (l : List Val) (ver by' part : Int) (t : List Int) : deedV kd n key k (roL valC l) st ver by' (roL intC t) ep ow part = deedC ⟨kd, n, key, ⟨k, l⟩, ⟨st, ⟨ver, by', t⟩, ep, ow⟩, part⟩ := rfl
@[simp] theorem k162 {kd n kd2 n2 : Int} {key key2 : List UInt8} {k st ep ow k2 st2 ep2 ow2 : Nat → Int} {l l2 : List Val} {ver by' part ver2 by2 part2 : Int} {t t2 : List Int} {H : Heap} {K : AV → Heap → Prop} (hl : l.length < 4611686018427387904) (hl2 : t.length < 4611686018427387904) :
    wPu envE 162 (some [.agg (deedV kd n key k (roL valC l) st ver by' (roL intC t) ep ow part), .agg (deedV kd2 n2 key2 k2 (roL valC l2) st2 ver2 by2 (roL intC t2) ep2 ow2 part2)]) H K = K (.bool (deedSame ⟨kd, n, key, ⟨k, l⟩, ⟨st, ⟨ver, by', t⟩, ep, ow⟩, part⟩ ⟨kd2, n2, key2, ⟨k2, l2⟩, ⟨st2, ⟨ver2, by2, t2⟩, ep2, ow2⟩, part2⟩)) H :=
  (wPu_eq (c162 ⟨kd, n, key, ⟨k, l⟩, ⟨st, ⟨ver, by', t⟩, ep, ow⟩, part⟩ ⟨kd2, n2, key2, ⟨k2, l2⟩, ⟨st2, ⟨ver2, by2, t2⟩, ep2, ow2⟩, part2⟩ hl hl2)).trans (by simp)

/-! ## May -/
theorem c161 (n : Int) : Pu envE 161 [I n] (.bool (nodeOk n)) := by
  refine pu_is e161 rfl ?_
  rw [fr_init (by simp [fd161])]
  by_cases h : 0 ≤ n <;> simp [fd161, b161, h, nodeOk]
@[simp] theorem k161 {n : Int} {H : Heap} {K : AV → Heap → Prop} : wPu envE 161 (some [I n]) H K = K (.bool (nodeOk n)) H := (wPu_eq (c161 n)).trans (by simp)
theorem c182 (n : Int) : Pu envE 182 [I n] (.bool (nodeOk n)) := by
  refine pu_is e182 rfl ?_
  rw [fr_init (by simp [fd182])]
  by_cases h : 0 ≤ n <;> simp [fd182, b182, h, nodeOk]
@[simp] theorem k182 {n : Int} {H : Heap} {K : AV → Heap → Prop} : wPu envE 182 (some [I n]) H K = K (.bool (nodeOk n)) H := (wPu_eq (c182 n)).trans (by simp)
theorem c164 (n m : Int) : Pu envE 164 [I n, I m] (.bool (withinB n m)) := by
  refine pu_is e164 rfl ?_
  rw [fr_init (by simp [fd164])]
  by_cases h : 0 ≤ n <;> simp [fd164, b164, h, withinB]
@[simp] theorem k164 {n m : Int} {H : Heap} {K : AV → Heap → Prop} : wPu envE 164 (some [I n, I m]) H K = K (.bool (withinB n m)) H := (wPu_eq (c164 n m)).trans (by simp)
theorem eq_row2 {a b c d : Int} : eqRow [.i, .i] [I a, I b] [I c, I d] = some (decide (a = c ∧ b = d)) := by
  simp only [eqRow, eqCell, if_true, Option.bind_some]
  by_cases h : a = c <;> by_cases h2 : b = d <;> simp [h, h2]
theorem c131 (e o : Int) : Pu envE 131 [.agg [I e, I o]] (.bool (entMay e o)) := by
  refine pu_is e131 rfl ?_
  rw [fr_init (by simp [fd131])]
  by_cases h0 : e = 0 ∧ o = 0
  · obtain ⟨rfl, rfl⟩ := h0
    simp [fd131, b131, eq_row2, entMay]
  by_cases h1 : 1 ≤ e
  case neg => simp [fd131, b131, eq_row2, entMay, h0, h1]
  by_cases h2 : e ≤ 1000000 <;> simp [fd131, b131, eq_row2, entMay, h0, h1, h2]
@[simp] theorem k131 {e o : Int} {H : Heap} {K : AV → Heap → Prop} : wPu envE 131 (some [.agg [I e, I o]]) H K = K (.bool (entMay e o)) H := (wPu_eq (c131 e o)).trans (by simp)

theorem c190 (x : Int) (lim : Nat) (H : Heap) : Cl envE 190 [I x] lim H (.bool (!nodeOk x)) H := by
  refine cl_is e190 rfl ?_
  rw [fr_init (by simp [fd190])]
  simp [fd190, b190]
@[simp] theorem k190 {x : Int} {lim : Nat} {H : Heap} {K : AV → Heap → Prop} : WCl envE 190 [I x] lim H K = K (.bool (!nodeOk x)) H := WCl_eq (c190 x lim H)
theorem c192 (l : List Int) (hl : l.length < 4611686018427387904) (lim : Nat) (H : Heap) : WCl envE 192 [roL intC l, .fn (.func 190) [] []] lim H fun r H' => H' = H ∧ ∃ n : Int, r = I n ∧ (decide (0 ≤ n) = !l.all nodeOk) := by
  refine cl_of e192 rfl ?_
  rw [fr_init (by simp [fd192])]
  simp [fd192, b192]
  refine loop_go [0, 1, 7, 8] rfl (fun m vs H' => ∃ i, m + i = l.length ∧ (∀ j (hj : j < l.length), j < i → nodeOk l[j] = true) ∧ H' = H ∧ vs = [roL intC l, .fn (.func 190) [] [], I l.length, I i]) ?_ l.length ⟨0, rfl, by omega, rfl, rfl⟩
  rintro J hJ m vs H' b ⟨i, hm, hall, rfl, rfl⟩
  by_cases hi : i < l.length
  · have hw := wrap_succ (i := i) (by omega)
    have hld := int_load hi (H := H')
    by_cases hn : nodeOk l[i] = true
    · simp [lp192_0, hi, idxSl_roL hi, hld, hw, hn, -load_tp]
      exact nxt hJ (m - 1) (by omega) ⟨i + 1, by omega, fun j hj hji => by
        rcases Nat.lt_or_ge j i with q | q
        · exact hall j hj q
        · obtain rfl : j = i := by omega
          exact hn, rfl, rfl⟩
    · have e : l.all nodeOk = false := by
        rw [List.all_eq_false]
        exact ⟨l[i], List.getElem_mem _, hn⟩
      simp [lp192_0, hi, idxSl_roL hi, hld, hw, hn, e, -load_tp]
  · have e : l.all nodeOk = true := by
      rw [List.all_eq_true]
      intro x hx
      obtain ⟨j, hj, rfl⟩ := List.mem_iff_getElem.1 hx
      exact hall j hj (by omega)
    simp [lp192_0, hi, e]
theorem c189 (l : List Int) (hl : l.length < 4611686018427387904) (lim : Nat) (H : Heap) : Cl envE 189 [roL intC l, .fn (.func 190) [] []] lim H (.bool (!l.all nodeOk)) H := by
  refine cl_is e189 rfl ?_
  rw [fr_init (by simp [fd189])]
  simp [fd189, b189]
  refine WCl.mono (c192 l hl _ _) ?_
  rintro _ _ ⟨rfl, n, rfl, e⟩
  simp [e]
@[simp] theorem k189 {l : List Int} {lim : Nat} {H : Heap} {K : AV → Heap → Prop} (hl : l.length < 4611686018427387904) : WCl envE 189 [roL intC l, .fn (.func 190) [] []] lim H K = K (.bool (!l.all nodeOk)) H := WCl_eq (c189 l hl lim H)
theorem c183 (l : List Int) (hl : l.length < 4611686018427387904) : Pu envE 183 [roL intC l] (.bool (fullT l)) := by
  refine pu_is e183 rfl ?_
  rw [fr_init (by simp [fd183])]
  by_cases h : (l.length : Int) = 16
  · have h' : l.length = 16 := by omega
    simp [fd183, b183, h, h', hl, fullT]
  · have h' : ¬ l.length = 16 := by omega
    simp [fd183, b183, h, h', hl, fullT]
@[simp] theorem k183 {l : List Int} {H : Heap} {K : AV → Heap → Prop} (hl : l.length < 4611686018427387904) : wPu envE 183 (some [roL intC l]) H K = K (.bool (fullT l)) H := (wPu_eq (c183 l hl)).trans (by simp)
theorem c169 (p : Plan) (hl : p.targets.length < 4611686018427387904) : Pu envE 169 [.agg (planC p)] (.bool (planMay p)) := by
  refine pu_is e169 rfl ?_
  rw [fr_init (by simp [fd169])]
  by_cases h0 : p.targets = []
  · by_cases h1 : p.version = 0 <;> simp [fd169, b169, h0, h1, planMay]
    by_cases h2 : p.by' = 0 <;> simp [h2]
  have h0' : ¬ (p.targets.length : Int) = 0 := by
    have := List.length_pos_iff.2 h0
    omega
  by_cases h1 : 1 ≤ p.version
  case neg => simp [fd169, b169, h0, h0', h1, planMay]
  by_cases h2 : p.version ≤ 1000000
  case neg => simp [fd169, b169, h0, h0', h1, h2, planMay]
  by_cases h3 : nodeOk p.by' = true <;> simp [fd169, b169, h0, h0', h1, h2, h3, hl, planMay]
@[simp] theorem k169 {v b : Int} {t : List Int} {H : Heap} {K : AV → Heap → Prop} (hl : t.length < 4611686018427387904) : wPu envE 169 (some [.agg (planV v b (roL intC t))]) H K = K (.bool (planMay ⟨v, b, t⟩)) H := (wPu_eq (c169 ⟨v, b, t⟩ hl)).trans (by simp)
end Go.Proofs.YtflgfiieaoeknaaGreatA

/- A ring joined with itself: a ring that shares nothing with it. No statement about the program is proved here. -/
import Derived.Test.YtflgfiieaoeknaaGreatS0
namespace Go.Proofs.YtflgfiieaoeknaaGreatA
open Go
set_option linter.unusedSimpArgs false
set_option linter.unusedVariables false
set_option maxRecDepth 1000000
attribute [local simp] ring_zero

theorem dot_refl (a c : Int) : dotCmp a c a c = 0 := dot_zero.2 ⟨rfl, rfl⟩
theorem c160 (a c a' c' : Int) : Pu envE 160 [.agg [I a, I c], .agg [I a', I c']] (I (dotCmp a c a' c')) := by
  refine pu_is e160 rfl ?_
  rw [fr_init (by simp [fd160])]
  have e : orL [cmpI a a', cmpI c c'] = dotCmp a c a' c' := by
    simp only [orL, dotCmp]
    split
    · rfl
    · split
      · rfl
      · rename_i h; simp at h; exact h.symm
  simp [fd160, b160, frz_sl, e]
@[simp] theorem k160 {a c a' c' : Int} {H : Heap} {K : AV → Heap → Prop} : wPu envE 160 (some [.agg [I a, I c], .agg [I a', I c']]) H K = K (I (dotCmp a c a' c')) H := (wPu_eq (c160 a c a' c')).trans (by simp)
theorem c98s (a c : Int) : Pu envE 128 [.agg [I a, I c], .agg [I a, I c]] (.agg [I a, I c]) := by
  refine pu_is e128 rfl ?_
  rw [fr_init (by simp [fd128])]
  simp [fd128, b128, dot_refl]
@[simp] theorem k98s {a c : Int} {H : Heap} {K : AV → Heap → Prop} : wPu envE 128 (some [.agg [I a, I c], .agg [I a, I c]]) H K = K (.agg [I a, I c]) H := (wPu_eq (c98s a c)).trans (by simp)
theorem c159 (v b : Int) (t : List Int) (hf : t.length * 8 ≤ reachBytes) : Pu envE 159 [.agg (planV v b (roL intC t))] (.agg (planV v b (owL 1 intC t))) := by
  have hr : reachBytes = 140737488351232 := rfl
  refine pu_is e159 rfl ?_
  rw [fr_init (by simp [fd159])]
  obtain ⟨v1, X1, q1, r1⟩ := clone_ro (lim := 0) (bytes := 8) (H := [.cells false (planV v b (roL intC t)), .cells false [I 0, I 0, .nilsl]]) (l := t) (es := 1) intC_len (by omega) intC_one (by simp only [most]; omega) (by simp only [most]; omega) (by simp)
  have hc1 : ∀ K, WCl envE 129 [roL intC t] 0 [.cells false (planV v b (roL intC t)), .cells false [I 0, I 0, .nilsl]] K = K v1 ([.cells false (planV v b (roL intC t)), .cells false [I 0, I 0, .nilsl]] ++ X1) := fun K => WCl_eq (cl_prim e129 q1)
  have hset : (planV v b v1).all AV.one = true := by simp [r1.one]
  have hover : setFrom [I 0, I 0, AV.nilsl] 0 (planV v b v1) = planV v b v1 := rfl
  obtain ⟨u1, o1, n1, m1⟩ := (r1.set (b := 0) (z := .cells false (planV v b v1)) (r1.off (by simp))).own (d := 9) intC_len (by omega) int_plain
  obtain ⟨u2, o2, n2, m2⟩ := ((r1.set (b := 0) (z := .cells false (planV v b v1)) (r1.off (by simp))).set (b := 1) (z := .cells false (planV v b v1)) (r1.off (by simp))).own (d := 9) intC_len (by omega) int_plain
  simp only [List.cons_append, List.nil_append] at hc1 o1 o2
  simp at o1 o2
  simp [fd159, b159, hc1, r1.cells, r1.one, hover, o1, o2, n1, n2]
theorem k159 {v b : Int} {t : List Int} {H : Heap} {K : AV → Heap → Prop} (hf : t.length * 8 ≤ reachBytes) : wPu envE 159 (some [.agg (planV v b (roL intC t))]) H K = K (.agg (planV v b (thaw (owL 1 intC t) H).1)) (thaw (owL 1 intC t) H).2 := (wPu_eq (c159 v b t hf)).trans (by simp)
theorem c97s (p : Plan) (hf : p.targets.length * 8 ≤ reachBytes) : Pu envE 127 [.agg (planC p), .agg (planC p)] (.agg (planV p.version p.by' (owL 1 intC p.targets))) := by
  have hr : reachBytes = 140737488351232 := rfl
  refine pu_is e127 rfl ?_
  obtain ⟨n, h1, h2⟩ := c158 p p (by omega)
  have hn : n = 0 := h2.2 (by simp [planSame])
  subst hn
  have hz : ∀ H K, wPu envE 158 (some [.agg (planV p.version p.by' (roL intC p.targets)), .agg (planV p.version p.by' (roL intC p.targets))]) H K = K (I 0) H := fun H K => (wPu_eq h1).trans (by simp)
  obtain ⟨v1, X1, t1, r1⟩ := thaw_owL (H := [.cells false (planV p.version p.by' (roL intC p.targets)), .cells false (planV p.version p.by' (roL intC p.targets)), .cells false [I 0, I 0, .nilsl]]) (lim := 3) (es := 1) int_still (by simp) p.targets
  have hk := fun H K => k159 (v := p.version) (b := p.by') (t := p.targets) (H := H) (K := K) hf
  have hover : setFrom [I 0, I 0, AV.nilsl] 0 (planV p.version p.by' v1) = planV p.version p.by' v1 := rfl
  obtain ⟨u1, o1, n1, m1⟩ := (r1.set (b := 2) (z := .cells false (planV p.version p.by' v1)) (r1.off (by simp))).own (d := 9) intC_len (by omega) int_plain
  simp at o1
  rw [fr_init (by simp [fd127])]
  simp [fd127, b127, hz, hk, t1, hover, r1.one, o1, n1]
theorem k97s {v b : Int} {t : List Int} {H : Heap} {K : AV → Heap → Prop} (hf : t.length * 8 ≤ reachBytes) : wPu envE 127 (some [.agg (planV v b (roL intC t)), .agg (planV v b (roL intC t))]) H K = K (.agg (planV v b (thaw (owL 1 intC t) H).1)) (thaw (owL 1 intC t) H).2 := by
  have := c97s ⟨v, b, t⟩ hf
  simp only [planC_eq] at this
  exact (wPu_eq this).trans (by simp)
def ringO (r : Ring) : List AV := ringV r.status r.plan.version r.plan.by' (owL 1 intC r.plan.targets) r.epoch r.owner
def upTo (i : Nat) (f : Nat → Int) : Nat → Int := fun j => if j < i then f j else 0
theorem upTo_step {i : Nat} {f : Nat → Int} : upd (upTo i f) i (f i) = upTo (i + 1) f := by
  funext j
  simp only [upd, upTo]
  by_cases h : j = i
  · subst h; simp
  · by_cases h2 : j < i
    · have : j < i + 1 := by omega
      simp [h, h2, this]
    · have : ¬ j < i + 1 := by omega
      simp [h, h2, this]
theorem ringV_setS {st ep ow : Nat → Int} {ver by' x : Int} {r : AV} {i : Nat} (h : i < 8) : (ringV st ver by' r ep ow).set i (I x) = ringV (upd st i x) ver by' r ep ow := by
  unfold ringV
  rw [List.set_append_left _ _ (by simp; omega), vec_set h]
theorem ringV_getS {st ep ow : Nat → Int} {ver by' : Int} {r : AV} {i : Nat} (h : i < 8) : cut (ringV st ver by' r ep ow) i 1 = some [I (st i)] := by
  match i, h with
  | 0, _ => rfl | 1, _ => rfl | 2, _ => rfl | 3, _ => rfl | 4, _ => rfl | 5, _ => rfl | 6, _ => rfl | 7, _ => rfl
theorem ringV_setP {st ep ow : Nat → Int} {ver by' x y : Int} {r : AV} {i : Nat} (h : i < 16) : setFrom (ringV st ver by' r ep ow) (11 + i * 2) [I x, I y] = ringV st ver by' r (upd ep i x) (upd ow i y) := by
  have : i = 0 ∨ i = 1 ∨ i = 2 ∨ i = 3 ∨ i = 4 ∨ i = 5 ∨ i = 6 ∨ i = 7 ∨ i = 8 ∨ i = 9 ∨ i = 10 ∨ i = 11 ∨ i = 12 ∨ i = 13 ∨ i = 14 ∨ i = 15 := by omega
  rcases this with rfl | rfl | rfl | rfl | rfl | rfl | rfl | rfl | rfl | rfl | rfl | rfl | rfl | rfl | rfl | rfl <;> rfl
theorem upTo_ext {st st' ep ep' ow ow' : Nat → Int} {ver by' : Int} {r : AV} (h1 : ∀ i, i < 8 → st i = st' i) (h2 : ∀ i, i < 16 → ep i = ep' i ∧ ow i = ow' i) : ringV st ver by' r ep ow = ringV st' ver by' r ep' ow' := by
  have e1 := vec_ext h1
  have e2 : prtC ep ow = prtC ep' ow' := by
    simp only [prtC, h2 0 (by omega), h2 1 (by omega), h2 2 (by omega), h2 3 (by omega), h2 4 (by omega), h2 5 (by omega), h2 6 (by omega), h2 7 (by omega), h2 8 (by omega), h2 9 (by omega), h2 10 (by omega), h2 11 (by omega), h2 12 (by omega), h2 13 (by omega), h2 14 (by omega), h2 15 (by omega)]
  unfold ringV
  rw [e1, e2]
set_option maxHeartbeats 1000000 in
theorem c74s (r : Ring) (hf : r.plan.targets.length * 8 ≤ reachBytes) : Pu envE 88 [.agg (ringC r), .agg (ringC r)] (.agg (ringO r)) := by
  have hrb : reachBytes = 140737488351232 := rfl
  refine pu_is e88 rfl ?_
  have hk := fun H K => k97s (v := r.plan.version) (b := r.plan.by') (t := r.plan.targets) (H := H) (K := K) hf
  obtain ⟨v1, X1, t1, r1⟩ := thaw_owL (H := [.cells false (ringV r.status r.plan.version r.plan.by' (roL intC r.plan.targets) r.epoch r.owner), .cells false (ringV r.status r.plan.version r.plan.by' (roL intC r.plan.targets) r.epoch r.owner), .cells false (ringV zeroV 0 0 .nilsl zeroV zeroV)]) (lim := 3) (es := 1) int_still (by simp) r.plan.targets
  have hb : ∀ q, setFrom (ringV zeroV 0 0 .nilsl zeroV zeroV) 8 (planV r.plan.version r.plan.by' q) = ringV zeroV r.plan.version r.plan.by' q zeroV zeroV := fun q => rfl
  have hover : ∀ {st ep ow : Nat → Int} {ver by' : Int} {q : AV} (l : List AV), l.length = 43 → setFrom l 0 (ringV st ver by' q ep ow) = ringV st ver by' q ep ow := fun l hl => setFrom_all _ _ (by rw [hl, ringV_len])
  have u0 : zeroV = upTo 0 r.status := by funext j; simp [zeroV, upTo]
  have o1 := r1.one
  rw [fr_init (by simp [fd88])]
  simp [fd88, b88, hk, t1, hb, hover, o1]
  refine loop_go [2, 3, 4, 5, 14] rfl (fun m vs H => ∃ i, m + i = 8 ∧ i ≤ 8 ∧ H = .cells false (ringV r.status r.plan.version r.plan.by' (roL intC r.plan.targets) r.epoch r.owner) :: .cells false (ringV r.status r.plan.version r.plan.by' (roL intC r.plan.targets) r.epoch r.owner) :: .cells false (ringV zeroV 0 0 .nilsl zeroV zeroV) :: (X1 ++ [.cells false (ringV (upTo i r.status) r.plan.version r.plan.by' v1 zeroV zeroV)]) ∧ vs = [.ptr (some (0, 0)), .ptr (some (1, 0)), .ptr (some (2, 0)), .ptr (some (X1.length + 3, 0)), I i]) ?_ 8 ⟨0, rfl, by omega, by rw [← u0], rfl⟩
  rintro J hJ m vs H f ⟨i, hm, hi8, rfl, rfl⟩
  by_cases hi : i < 8
  · have hi' : (i : Int) < 8 := by omega
    have hw := wrap_succ (i := i) (by omega)
    have hmx : max (r.status i) (r.status i) = r.status i := by omega
    have h42 : i ≤ 42 := by omega
    have hg : ∀ {st ep ow : Nat → Int} {ver by' : Int} {q : AV}, ((ringV st ver by' q ep ow).drop i).take 1 = [I (st i)] := fun {st ep ow ver by' q} => by
      have := ringV_getS (st := st) (ver := ver) (by' := by') (r := q) (ep := ep) (ow := ow) hi
      rw [cut_at (by rw [ringV_len]; omega)] at this
      exact Option.some.inj this
    simp [lp88_0, hi, hi', hg, ringV_setS, hw, hmx, o1, h42]
    refine nxt hJ (m - 1) (by omega) ⟨i + 1, by omega, by omega, ?_, rfl⟩
    rw [← upTo_step]
  have hi' : ¬ (i : Int) < 8 := by omega
  obtain rfl : i = 8 := by omega
  have e1 : zeroV = upTo 0 r.epoch := by funext j; simp [zeroV, upTo]
  have e2 : zeroV = upTo 0 r.owner := by funext j; simp [zeroV, upTo]
  simp [lp88_0]
  refine loop_go [2, 3, 4, 5, 30] rfl (fun m vs H => ∃ i X, m + i = 16 ∧ i ≤ 16 ∧ H = .cells false (ringV r.status r.plan.version r.plan.by' (roL intC r.plan.targets) r.epoch r.owner) :: .cells false (ringV r.status r.plan.version r.plan.by' (roL intC r.plan.targets) r.epoch r.owner) :: .cells false (ringV zeroV 0 0 .nilsl zeroV zeroV) :: (X1 ++ .cells false (ringV (upTo 8 r.status) r.plan.version r.plan.by' v1 (upTo i r.epoch) (upTo i r.owner)) :: X) ∧ vs = [.ptr (some (0, 0)), .ptr (some (1, 0)), .ptr (some (2, 0)), .ptr (some (X1.length + 3, 0)), I i]) ?_ 16 ⟨0, [], rfl, by omega, by rw [← e1, ← e2], rfl⟩
  rintro J2 hJ2 m2 vs H f2 ⟨i, X, hm2, hi16, rfl, rfl⟩
  by_cases hi : i < 16
  · have hi' : (i : Int) < 16 := by omega
    have hw := wrap_succ (i := i) (by omega)
    have hp : ∀ {st ep ow : Nat → Int} {ver by' : Int} {q : AV}, ((ringV st ver by' q ep ow).drop (11 + i * 2)).take 2 = [I (ep i), I (ow i)] := fun {st ep ow ver by' q} => by
      have := ringV_part (st := st) (ver := ver) (by' := by') (r := q) (ep := ep) (ow := ow) hi
      rw [cut_at (by rw [ringV_len]; omega)] at this
      exact Option.some.inj this
    have hs := fun {st ep ow : Nat → Int} {ver by' x y : Int} {q : AV} => ringV_setP (st := st) (ver := ver) (by' := by') (r := q) (ep := ep) (ow := ow) (x := x) (y := y) hi
    have hle : 11 + (i * 2 + 2) ≤ 43 := by omega
    have hle2 : 11 + i * 2 + 2 ≤ 43 := by omega
    simp [lp88_1, hi, hi', hp, hs, hw, hle, hle2, o1]
    refine nxt hJ2 (m2 - 1) (by omega) ⟨i + 1, X, by omega, by omega, ?_, rfl⟩
    rw [← upTo_step (f := r.epoch), ← upTo_step (f := r.owner)]
  have hi' : ¬ (i : Int) < 16 := by omega
  obtain rfl : i = 16 := by omega
  have ex : ∀ q, ringV (upTo 8 r.status) r.plan.version r.plan.by' q (upTo 16 r.epoch) (upTo 16 r.owner) = ringV r.status r.plan.version r.plan.by' q r.epoch r.owner := fun q => upTo_ext (fun j hj => by simp [upTo, hj]) (fun j hj => by simp [upTo, hj])
  have r2 : Row 3 (.cells false (ringV r.status r.plan.version r.plan.by' (roL intC r.plan.targets) r.epoch r.owner) :: .cells false (ringV r.status r.plan.version r.plan.by' (roL intC r.plan.targets) r.epoch r.owner) :: .cells false (ringV r.status r.plan.version r.plan.by' v1 r.epoch r.owner) :: (X1 ++ .cells false (ringV r.status r.plan.version r.plan.by' v1 r.epoch r.owner) :: X)) 1 intC r.plan.targets v1 := by
    have := (r1.set (b := 2) (z := .cells false (ringV r.status r.plan.version r.plan.by' v1 r.epoch r.owner)) (r1.off (by simp))).app (X := .cells false (ringV r.status r.plan.version r.plan.by' v1 r.epoch r.owner) :: X)
    simpa using this
  obtain ⟨u1, w1, n1, m1⟩ := r2.own (d := 9) intC_len (by omega) int_plain
  have hown := ringV_own (st := r.status) (ver := r.plan.version) (by' := r.plan.by') (ep := r.epoch) (ow := r.owner) w1
  simp [lp88_1, ex, hover, o1, hown, n1, ringO]
theorem k74s {r : Ring} {H : Heap} {K : AV → Heap → Prop} (hf : r.plan.targets.length * 8 ≤ reachBytes) : wPu envE 88 (some [.agg (ringV r.status r.plan.version r.plan.by' (roL intC r.plan.targets) r.epoch r.owner), .agg (ringV r.status r.plan.version r.plan.by' (roL intC r.plan.targets) r.epoch r.owner)]) H K = K (.agg (ringV r.status r.plan.version r.plan.by' (thaw (owL 1 intC r.plan.targets) H).1 r.epoch r.owner)) (thaw (owL 1 intC r.plan.targets) H).2 := by
  have := c74s r hf
  simp only [ringC_eq] at this
  exact (wPu_eq this).trans (by simp [ringO])
end Go.Proofs.YtflgfiieaoeknaaGreatA

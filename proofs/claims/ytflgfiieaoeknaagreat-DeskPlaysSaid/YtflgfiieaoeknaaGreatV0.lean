/- Plans, rings and deeds as cells. No statement about the program is proved here. -/
import Derived.Test.YtflgfiieaoeknaaGreatA32
import Derived.KernelRfl
namespace Go.Proofs.YtflgfiieaoeknaaGreatA
open Go Go.RowKit
set_option linter.unusedVariables false
set_option linter.unusedSimpArgs false
set_option maxRecDepth 100000

def prtC (ep ow : Nat → Int) : List AV :=
  [I (ep 0), I (ow 0), I (ep 1), I (ow 1), I (ep 2), I (ow 2), I (ep 3), I (ow 3), I (ep 4), I (ow 4), I (ep 5), I (ow 5), I (ep 6), I (ow 6), I (ep 7), I (ow 7),
   I (ep 8), I (ow 8), I (ep 9), I (ow 9), I (ep 10), I (ow 10), I (ep 11), I (ow 11), I (ep 12), I (ow 12), I (ep 13), I (ow 13), I (ep 14), I (ow 14), I (ep 15), I (ow 15)]
def planV (ver by' : Int) (r : AV) : List AV := [I ver, I by', r]
def ringV (st : Nat → Int) (ver by' : Int) (r : AV) (ep ow : Nat → Int) : List AV := vecC st ++ (planV ver by' r ++ prtC ep ow)
def deedV (kd n : Int) (key : List UInt8) (k : Nat → Int) (q : AV) (st : Nat → Int) (ver by' : Int) (r : AV) (ep ow : Nat → Int) (part : Int) : List AV :=
  [I kd, I n, .str key] ++ (bagV k q ++ (ringV st ver by' r ep ow ++ [I part]))
@[simp] theorem planC_eq (p : Plan) : planC p = planV p.version p.by' (roL intC p.targets) := hard rfl
@[simp] theorem ringC_eq (r : Ring) : ringC r = ringV r.status r.plan.version r.plan.by' (roL intC r.plan.targets) r.epoch r.owner := hard rfl
@[simp] theorem deedC_eq (d : Deed) : deedC d = deedV d.kind d.n d.key d.bag.known (roL valC d.bag.vals) d.ring.status d.ring.plan.version d.ring.plan.by' (roL intC d.ring.plan.targets) d.ring.epoch d.ring.owner d.part := hard rfl

section
variable {st ep ow ep2 ow2 : Nat → Int} {ver by' : Int} {r q r2 : AV} {H : Heap} {d : Nat}
@[simp] theorem prt_len : (prtC ep ow).length = 32 := hard rfl
@[simp] theorem prt_one : (prtC ep ow).all AV.one = true := hard rfl
@[simp] theorem prt_take : (prtC ep ow).take 32 = prtC ep ow := hard rfl
@[simp] theorem prt_frz : mapO (frz H (d + 1)) (prtC ep ow) = some (prtC ep ow) := hard rfl
@[simp] theorem prt_own : ownL (own H (d + 1)) (prtC ep ow) = some (prtC ep ow, []) := hard rfl
@[simp] theorem prt_thaws : thaws (prtC ep ow) H = (prtC ep ow, H) := by simp [prtC]
theorem prt_get {i : Nat} (h : i < 16) : ((prtC ep ow).drop (i * 2)).take 2 = [I (ep i), I (ow i)] := by
  obtain rfl | rfl | rfl | rfl | rfl | rfl | rfl | rfl | rfl | rfl | rfl | rfl | rfl | rfl | rfl | rfl : i = 0 ∨ i = 1 ∨ i = 2 ∨ i = 3 ∨ i = 4 ∨ i = 5 ∨ i = 6 ∨ i = 7 ∨ i = 8 ∨ i = 9 ∨ i = 10 ∨ i = 11 ∨ i = 12 ∨ i = 13 ∨ i = 14 ∨ i = 15 := by omega
  all_goals rfl
theorem eq_ints : ∀ {ks : List CK} {a b : List Int}, (∀ k ∈ ks, k = .i) → ks.length = a.length → a.length = b.length → eqRow ks (a.map I) (b.map I) = some (decide (a = b))
  | [], [], [], _, _, _ => rfl
  | k :: ks, x :: a, y :: b, h, h1, h2 => by
    have hk : k = .i := h k (.head _)
    subst hk
    have ih := eq_ints (ks := ks) (a := a) (b := b) (fun k hk => h k (.tail _ hk)) (by simpa using h1) (by simpa using h2)
    simp only [List.map_cons, eqRow, eqCell, if_true, Option.bind_some]
    by_cases e : x = y
    · subst e; simp [ih]
    · have h3 : a.length = ks.length := by simp at h1; omega
      have h4 : b.length = ks.length := by simp at h2; omega
      simp [e, h3, h4]
def prtL (ep ow : Nat → Int) : List Int :=
  [ep 0, ow 0, ep 1, ow 1, ep 2, ow 2, ep 3, ow 3, ep 4, ow 4, ep 5, ow 5, ep 6, ow 6, ep 7, ow 7, ep 8, ow 8, ep 9, ow 9, ep 10, ow 10, ep 11, ow 11, ep 12, ow 12, ep 13, ow 13, ep 14, ow 14, ep 15, ow 15]
def prtEq (ep ow ep2 ow2 : Nat → Int) : Bool := decide (prtL ep ow = prtL ep2 ow2)
@[simp] theorem prt_eq : eqRow [.i, .i, .i, .i, .i, .i, .i, .i, .i, .i, .i, .i, .i, .i, .i, .i, .i, .i, .i, .i, .i, .i, .i, .i, .i, .i, .i, .i, .i, .i, .i, .i] (prtC ep ow) (prtC ep2 ow2) = some (prtEq ep ow ep2 ow2) :=
  eq_ints (a := prtL ep ow) (b := prtL ep2 ow2) (by simp) rfl rfl

@[simp] theorem planV_len : (planV ver by' r).length = 3 := hard rfl
@[simp] theorem planV_one : (planV ver by' r).all AV.one = AV.one r := by simp [planV]
@[simp] theorem planV_take : (planV ver by' r).take 3 = planV ver by' r := hard rfl
@[simp] theorem planV_f0 : (planV ver by' r).take 1 = [I ver] := hard rfl
@[simp] theorem planV_f1 : ((planV ver by' r).drop 1).take 1 = [I by'] := hard rfl
@[simp] theorem planV_t1 : ((planV ver by' r).tail).take 1 = [I by'] := hard rfl
@[simp] theorem planV_f2 : ((planV ver by' r).drop 2).take 1 = [r] := hard rfl
@[simp] theorem planV_frz : mapO (frz H (d + 1)) (planV ver by' r) = (frz H (d + 1) r).map (planV ver by') := by
  cases e : frz H (d + 1) r <;> simp [planV, e]
@[simp] theorem planV_own : ownL (own H (d + 1)) (planV ver by' r) = (own H (d + 1) r).map fun p => (planV ver by' p.1, p.2) := by
  cases e : own H (d + 1) r <;> simp [planV, e]
@[simp] theorem planV_thaws : thaws (planV ver by' r) H = (planV ver by' (thaw r H).1, (thaw r H).2) := by simp [planV]
@[simp] theorem planV_set2 : (planV ver by' r).set 2 q = planV ver by' q := hard rfl

@[simp] theorem ringV_len : (ringV st ver by' r ep ow).length = 43 := hard rfl
@[simp] theorem ringV_one : (ringV st ver by' r ep ow).all AV.one = AV.one r := by
  unfold ringV
  rw [List.all_append, List.all_append, vec_one, planV_one, prt_one]
  simp
@[simp] theorem ringV_take : (ringV st ver by' r ep ow).take 43 = ringV st ver by' r ep ow := hard rfl
@[simp] theorem ringV_f0 : (ringV st ver by' r ep ow).take 8 = vecC st := hard rfl
@[simp] theorem ringV_f8 : ((ringV st ver by' r ep ow).drop 8).take 3 = planV ver by' r := hard rfl
@[simp] theorem ringV_f8a : ((ringV st ver by' r ep ow).drop 8).take 1 = [I ver] := hard rfl
@[simp] theorem ringV_f9 : ((ringV st ver by' r ep ow).drop 9).take 1 = [I by'] := hard rfl
@[simp] theorem ringV_f10 : ((ringV st ver by' r ep ow).drop 10).take 1 = [r] := hard rfl
@[simp] theorem ringV_f11 : ((ringV st ver by' r ep ow).drop 11).take 32 = prtC ep ow := hard rfl
@[simp] theorem ringV_set10 : (ringV st ver by' r ep ow).set 10 q = ringV st ver by' q ep ow := hard rfl
theorem ringV_part {i : Nat} (h : i < 16) : cut (ringV st ver by' r ep ow) (11 + i * 2) 2 = some [I (ep i), I (ow i)] := by
  rw [cut_at (by simp; omega)]
  have : (ringV st ver by' r ep ow).drop (11 + i * 2) = (prtC ep ow).drop (i * 2) := by
    rw [← List.drop_drop]
    rfl
  rw [this, prt_get h]
@[simp] theorem ringV_frz : mapO (frz H (d + 1)) (ringV st ver by' r ep ow) = (frz H (d + 1) r).map fun r => ringV st ver by' r ep ow := by
  unfold ringV
  cases e : frz H (d + 1) r with
  | none => simp [vecC, planV, e]
  | some r' => simp only [Option.map_some]; exact mapO_app (frz_vec st) (mapO_app (by simp [e]) prt_frz)
theorem ownL_app2 {g : AV → Option (AV × List Nat)} : ∀ {a b a' b' : List AV} {u w : List Nat}, ownL g a = some (a', u) → ownL g b = some (b', w) → ownL g (a ++ b) = some (a' ++ b', u ++ w)
  | [], b, a', b', u, w, h, k => by simp only [ownL, Option.some.injEq, Prod.mk.injEq] at h; obtain ⟨rfl, rfl⟩ := h; simpa using k
  | v :: vs, b, a', b', u, w, h, k => by
    simp only [ownL, Option.bind_eq_some_iff, Option.map_eq_some_iff, Prod.mk.injEq] at h
    obtain ⟨⟨v', u1⟩, h1, ⟨vs', u2⟩, h2, rfl, rfl⟩ := h
    simp only [List.cons_append, ownL, h1, Option.bind_some, ownL_app2 h2 k, Option.map_some, List.append_assoc]
theorem ringV_own {u : List Nat} {r' : AV} (h : own H (d + 1) r = some (r', u)) : ownL (own H (d + 1)) (ringV st ver by' r ep ow) = some (ringV st ver by' r' ep ow, u) := by
  have := ownL_app2 (vec_own (H := H) (d := d) (k := st)) (ownL_app2 (a := planV ver by' r) (a' := planV ver by' r') (u := u) (by simp [h]) (prt_own (H := H) (d := d) (ep := ep) (ow := ow)))
  simpa [ringV] using this
theorem thaws_app2 : ∀ {a b : List AV} {H : Heap}, thaws (a ++ b) H = ((thaws a H).1 ++ (thaws b (thaws a H).2).1, (thaws b (thaws a H).2).2)
  | [], b, H => by simp
  | v :: vs, b, H => by simp [thaws_app2 (a := vs)]
@[simp] theorem ringV_thaws : thaws (ringV st ver by' r ep ow) H = (ringV st ver by' (thaw r H).1 ep ow, (thaw r H).2) := by
  unfold ringV
  simp [thaws_app2]
end
section
variable {kd n : Int} {key : List UInt8} {k st ep ow : Nat → Int} {q r q' r' : AV} {ver by' part : Int} {H : Heap} {d : Nat}
@[simp] theorem deedV_len : (deedV kd n key k q st ver by' r ep ow part).length = 56 := hard rfl
@[simp] theorem deedV_one : (deedV kd n key k q st ver by' r ep ow part).all AV.one = (AV.one q && AV.one r) := by
  unfold deedV
  rw [List.all_append, List.all_append, List.all_append, bagV_one, ringV_one]
  simp
@[simp] theorem deedV_take : (deedV kd n key k q st ver by' r ep ow part).take 56 = deedV kd n key k q st ver by' r ep ow part := hard rfl
@[simp] theorem deedV_f0 : (deedV kd n key k q st ver by' r ep ow part).take 1 = [I kd] := hard rfl
@[simp] theorem deedV_f1 : ((deedV kd n key k q st ver by' r ep ow part).drop 1).take 1 = [I n] := hard rfl
@[simp] theorem deedV_t1 : ((deedV kd n key k q st ver by' r ep ow part).tail).take 1 = [I n] := hard rfl
@[simp] theorem deedV_f2 : ((deedV kd n key k q st ver by' r ep ow part).drop 2).take 1 = [.str key] := hard rfl
@[simp] theorem deedV_f3 : ((deedV kd n key k q st ver by' r ep ow part).drop 3).take 9 = bagV k q := hard rfl
@[simp] theorem deedV_f11 : ((deedV kd n key k q st ver by' r ep ow part).drop 11).take 1 = [q] := hard rfl
@[simp] theorem deedV_f12 : ((deedV kd n key k q st ver by' r ep ow part).drop 12).take 43 = ringV st ver by' r ep ow := hard rfl
@[simp] theorem deedV_f22 : ((deedV kd n key k q st ver by' r ep ow part).drop 22).take 1 = [r] := hard rfl
@[simp] theorem deedV_f55 : ((deedV kd n key k q st ver by' r ep ow part).drop 55).take 1 = [I part] := hard rfl
@[simp] theorem deedV_s0 {x : Int} : (deedV kd n key k q st ver by' r ep ow part).set 0 (I x) = deedV x n key k q st ver by' r ep ow part := hard rfl
@[simp] theorem deedV_s1 {x : Int} : (deedV kd n key k q st ver by' r ep ow part).set 1 (I x) = deedV kd x key k q st ver by' r ep ow part := hard rfl
@[simp] theorem deedV_s2 {x : List UInt8} : (deedV kd n key k q st ver by' r ep ow part).set 2 (.str x) = deedV kd n x k q st ver by' r ep ow part := hard rfl
@[simp] theorem deedV_s11 : (deedV kd n key k q st ver by' r ep ow part).set 11 q' = deedV kd n key k q' st ver by' r ep ow part := hard rfl
@[simp] theorem deedV_s22 : (deedV kd n key k q st ver by' r ep ow part).set 22 r' = deedV kd n key k q st ver by' r' ep ow part := hard rfl
@[simp] theorem deedV_s55 {x : Int} : (deedV kd n key k q st ver by' r ep ow part).set 55 (I x) = deedV kd n key k q st ver by' r ep ow x := hard rfl
@[simp] theorem deedV_s3 {k' : Nat → Int} : setFrom (deedV kd n key k q st ver by' r ep ow part) 3 (bagV k' q') = deedV kd n key k' q' st ver by' r ep ow part := hard rfl
@[simp] theorem deedV_s12 {st' ep' ow' : Nat → Int} {ver2 by2 : Int} : setFrom (deedV kd n key k q st ver by' r ep ow part) 12 (ringV st' ver2 by2 r' ep' ow') = deedV kd n key k q st' ver2 by2 r' ep' ow' part := by kernel_rfl
@[simp] theorem deedV_over {l : List AV} (h : l.length = 56) : setFrom l 0 (deedV kd n key k q st ver by' r ep ow part) = deedV kd n key k q st ver by' r ep ow part := setFrom_all _ _ (by simp [h])
theorem deedV_frz {q2 r2 : AV} (h1 : frz H (d + 1) q = some q2) (h2 : frz H (d + 1) r = some r2) : mapO (frz H (d + 1)) (deedV kd n key k q st ver by' r ep ow part) = some (deedV kd n key k q2 st ver by' r2 ep ow part) :=
  mapO_app (a := [I kd, I n, .str key]) (by simp) (mapO_app (by simp [h1]) (mapO_app (by simp [h2]) (by simp)))
theorem deedV_own {q2 r2 : AV} {u w : List Nat} (h1 : own H (d + 1) q = some (q2, u)) (h2 : own H (d + 1) r = some (r2, w)) : ownL (own H (d + 1)) (deedV kd n key k q st ver by' r ep ow part) = some (deedV kd n key k q2 st ver by' r2 ep ow part, u ++ w) := by
  have := ownL_app2 (g := own H (d + 1)) (a := [I kd, I n, .str key]) (a' := [I kd, I n, .str key]) (u := []) (by simp) (ownL_app2 (a := bagV k q) (a' := bagV k q2) (u := u) (by simp [h1]) (ownL_app2 (ringV_own (st := st) (ver := ver) (by' := by') (ep := ep) (ow := ow) h2) (b := [I part]) (b' := [I part]) (w := []) (by simp)))
  rw [List.append_nil, List.nil_append] at this
  exact this
@[simp] theorem deedV_thaws : thaws (deedV kd n key k q st ver by' r ep ow part) H = (deedV kd n key k (thaw q H).1 st ver by' (thaw r (thaw q H).2).1 ep ow part, (thaw r (thaw q H).2).2) := by
  unfold deedV
  simp [thaws_app2]
end
/-- No deed. -/
def zDeed : List AV := deedV 0 0 [] zeroV .nilsl zeroV 0 0 .nilsl zeroV zeroV 0
theorem deed_zero {q r : AV} : [I 0, I 0, .str [], I 0, I 0, I 0, I 0, I 0, I 0, I 0, I 0, q, I 0, I 0, I 0, I 0, I 0, I 0, I 0, I 0, I 0, I 0, r, I 0, I 0, I 0, I 0, I 0, I 0, I 0, I 0, I 0, I 0, I 0, I 0, I 0, I 0, I 0, I 0, I 0, I 0, I 0, I 0, I 0, I 0, I 0, I 0, I 0, I 0, I 0, I 0, I 0, I 0, I 0, I 0, I 0] = deedV 0 0 [] zeroV q zeroV 0 0 r zeroV zeroV 0 := hard rfl
theorem ring_zero {r : AV} : [I 0, I 0, I 0, I 0, I 0, I 0, I 0, I 0, I 0, I 0, r, I 0, I 0, I 0, I 0, I 0, I 0, I 0, I 0, I 0, I 0, I 0, I 0, I 0, I 0, I 0, I 0, I 0, I 0, I 0, I 0, I 0, I 0, I 0, I 0, I 0, I 0, I 0, I 0, I 0, I 0, I 0, I 0] = ringV zeroV 0 0 r zeroV zeroV := hard rfl
end Go.Proofs.YtflgfiieaoeknaaGreatA

/- What wakes the model. No statement about the program is proved here. -/
import Derived.Test.YtkmikfhfjjmobaaW3
import Derived.Test.YtkmikfhfjjmobaaD0
namespace Go.Proofs.YtkmikfhfjjmobaaA
open Go
set_option linter.unusedSimpArgs false
set_option linter.unusedVariables false
set_option maxRecDepth 1000000
attribute [local simp] vec_zero bagV_zero

theorem Mod.mv {lim p mi : Nat} {H : Heap} {key : List UInt8} {v : AV} {ws : List Wr} (h : Mod lim H p mi key v ws) : MV lim H p key v ws := by
  refine ⟨⟨mi, _, _, h.box, h.map, ?_⟩, h.row⟩
  cases ws with
  | nil =>
    refine .inl ⟨by simp [ents, findKey], ?_⟩
    rcases h.row with ⟨_, q⟩ | ⟨q, _⟩
    · exact q
    · exact absurd rfl q
  | cons w ws => exact .inr ⟨0, by simp [ents, findKey, eqCell]⟩
/-- Of another key the model knows nothing. -/
theorem Mod.other {lim p mi : Nat} {H : Heap} {key key' : List UInt8} {v : AV} {ws : List Wr} (h : Mod lim H p mi key v ws) (hne : (key' == key) = false) : MV lim H p key' .nilsl [] := by
  refine ⟨⟨mi, _, _, h.box, h.map, .inl ⟨?_, rfl⟩⟩, .nil⟩
  cases ws with
  | nil => simp [ents, findKey]
  | cons w ws => simp [ents, findKey, eqCell, hne]
theorem awake52 : Pu envE 52 [] (.bool true) := by
  refine pu_is e52 rfl ?_
  rw [fr_init (by simp [fd52])]
  have hm0 := new_mod 0 [] [107]
  simp only [List.nil_append, List.length_nil, Nat.zero_add] at hm0
  simp [fd52, b52]
  refine WCl.mono (c50 hm0 zeroV 0 1 [120] .nil (by simp)) ?_
  rintro r H' (⟨q, _⟩ | ⟨_, rfl, v', h1, h2, h3, h4⟩)
  · exact absurd q (by decide)
  have k17z : ∀ H K, wPu envE 17 (some [.agg (bagV zeroV (.ro 0 [])), .agg (vecC zeroV), .agg [I 0, I 1], .str [120]]) H K = K (.tup [.agg (bagV (putK zeroV [] zeroV 0 1 [120]) (thaw (owL 3 valC [⟨0, 1, [120]⟩]) H).1), I 0]) (thaw (owL 3 valC [⟨0, 1, [120]⟩]) H).2 := fun H K => by
    have := k17 (k := zeroV) (known := zeroV) (l := []) (a := 0) (c := 1) (data := [120]) (H := H) (K := K) (by simp)
    have e1 : putR zeroV [] zeroV 0 1 [120] = [⟨0, 1, [120]⟩] := by decide +kernel
    have e2 : putE zeroV [] zeroV 0 1 [120] = 0 := by decide +kernel
    rw [e1, e2] at this
    exact this
  obtain ⟨v1, X1, t1, r1⟩ := thaw_owL (H := H') (lim := 0) (es := 3) val_still (by simp) [(⟨0, 1, [120]⟩ : Val)]
  have o1 := r1.one
  have hws : toldL [] zeroV 0 1 [120] = [⟨⟨0, 1, [120]⟩, zeroV⟩] := rfl
  rw [hws] at h1
  have f1 : ∀ Z, frz (H' ++ (X1 ++ [.cells false (bagV (putK zeroV [] zeroV 0 1 [120]) v1)]) ++ Z) 12 v1 = some (roL valC [⟨0, 1, [120]⟩]) := fun Z => by
    have := (r1.app (X := .cells false (bagV (putK zeroV [] zeroV 0 1 [120]) v1) :: Z)).frz (d := 10) valC_len val_flat
    simpa using this
  have f1' : ∀ Z, frz (H' ++ (X1 ++ [.cells false (bagV (putK zeroV [] zeroV 0 1 [120]) v1)]) ++ Z) 11 v1 = some (roL valC [⟨0, 1, [120]⟩]) := fun Z => by
    have := (r1.app (X := .cells false (bagV (putK zeroV [] zeroV 0 1 [120]) v1) :: Z)).frz (d := 9) valC_len val_flat
    simpa using this
  simp [k17z, t1, o1]
  refine WCl.mono (c51 (k := putK zeroV [] zeroV 0 1 [120]) (h1.app (X1 ++ [.cells false (bagV (putK zeroV [] zeroV 0 1 [120]) v1)])).mv (by simp) f1 f1' o1 (by simp) 0 (by simp)) ?_
  rintro _ _ ⟨rfl, X2, rfl⟩
  have e1 : coversB [⟨⟨0, 1, [120]⟩, zeroV⟩] (putK zeroV [] zeroV 0 1 [120]) [⟨0, 1, [120]⟩] = true := by decide +kernel
  have e2 : coversB [⟨⟨0, 1, [120]⟩, zeroV⟩] zeroV [] = false := by decide +kernel
  have e3 : coversB [] zeroV [] = true := by decide +kernel
  have hm2 := (h1.app (X1 ++ [.cells false (bagV (putK zeroV [] zeroV 0 1 [120]) v1)])).app X2
  simp [e1]
  refine WCl.mono (c51 (k := zeroV) (l := []) (q := .nilsl) (by simpa using hm2.mv) (by simp) (fun _ => rfl) (fun _ => rfl) rfl (by simp) 0 (by simp)) ?_
  rintro _ _ ⟨rfl, X3, rfl⟩
  simp [e2]
  refine WCl.mono (c51 (k := zeroV) (l := []) (q := .nilsl) (v := .nilsl) (ws := []) (by simpa using (hm2.app X3).other (key' := [122]) (by decide)) (by simp) (fun _ => rfl) (fun _ => rfl) rfl (by simp) 0 (by simp)) ?_
  rintro _ _ ⟨rfl, X4, rfl⟩
  simp [e3]
@[simp] theorem k52 {H : Heap} {K : AV → Heap → Prop} : wPu envE 52 (some []) H K = K (.bool true) H := (wPu_eq awake52).trans (by simp)
end Go.Proofs.YtkmikfhfjjmobaaA

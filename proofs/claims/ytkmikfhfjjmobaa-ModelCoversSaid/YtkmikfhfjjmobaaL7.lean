/- Calls of ledgers; rows that are held while a ledger goes on. No statement about the program is proved here. -/
import Derived.Test.YtkmikfhfjjmobaaL6
namespace Go.Proofs.YtkmikfhfjjmobaaA
open Go
set_option linter.unusedSimpArgs false
set_option linter.unusedVariables false
set_option maxRecDepth 1000000
attribute [local simp] deed_zero

structure Call17 where
  what : Int
  n : Int
  d : Deed
def call17C (c : Call17) : List AV := [I c.what, I c.n] ++ deedC c.d
theorem call17_len (c : Call17) : (call17C c).length = 58 := hard rfl
theorem call17_one (c : Call17) : (call17C c).all AV.one = true := hard rfl
theorem call17_all (c : Call17) : (call17C c).take 58 = call17C c := hard rfl
theorem call17_f0 (c : Call17) : (call17C c).take 1 = [I c.what] := hard rfl
theorem call17_t1 (c : Call17) : (call17C c).tail.take 1 = [I c.n] := hard rfl
theorem call17_f2 (c : Call17) : ((call17C c).drop 2).take 56 = deedC c.d := hard rfl
theorem call17_over (c : Call17) (l : List AV) (h : l.length = 58) : setFrom l 0 (call17C c) = call17C c := setFrom_all _ _ (by rw [h, call17_len])
theorem call17_frz {H : Heap} {d : Nat} (c : Call17) : mapO (frz H (d + 1)) (call17C c) = some (call17C c) := mapO_app (a := [I c.what, I c.n]) (by simp) (frz_deed _)
def shCall17 : Sh := .cat [iS, iS, (56, shDeed)]
theorem of_call17 {cs : List AV} (h : Fits shCall17 cs) : ∃ c, cs = call17C c ∧ deedFits c.d ∧ c.d.key.length ≤ reachBytes := by
  obtain ⟨a, r, rfl, h1⟩ := of_cat_int h
  obtain ⟨b, r, rfl, h2⟩ := of_cat_int h1
  obtain ⟨r, rest, rfl, _, h3, h4⟩ := fits_cons h2
  obtain ⟨d, rfl, f1, f2, f3⟩ := of_deed2 h3
  cases fits_nil h4
  exact ⟨⟨a, b, d⟩, by simp [call17C], ⟨f1, f2⟩, f3⟩
theorem fits_rows2 {α : Type} {f : α → List AV} {es : Nat} {e : Sh} {Q : α → Prop} (hf : ∀ r, Fits e r → ∃ x, r = f x ∧ Q x) : ∀ {rows : List (List AV)}, FitsRows es e rows → ∃ l : List α, rows.length = l.length ∧ rows.flatten = l.flatMap f ∧ ∀ x ∈ l, Q x
  | _, .nil _ _ => ⟨[], rfl, rfl, by simp⟩
  | _, .snoc h hl hr => by
    obtain ⟨l, h1, h2, h3⟩ := fits_rows2 hf h
    obtain ⟨x, rfl, hq⟩ := hf _ hr
    exact ⟨l ++ [x], by simp [h1], by simp [h2], fun y hy => by
      rcases List.mem_append.1 hy with q | q
      · exact h3 y q
      · rw [List.mem_singleton.1 q]; exact hq⟩
theorem fits_sl2 {α : Type} {f : α → List AV} {es bs : Nat} {e : Sh} {cs : List AV} {Q : α → Prop} (hf : ∀ r, Fits e r → ∃ x, r = f x ∧ Q x) (h : Fits (.sl es bs e) cs) : ∃ l : List α, cs = [roL f l] ∧ l.length ≤ maxLen ∧ l.length * bs ≤ reachBytes ∧ ∀ x ∈ l, Q x := by
  cases h with
  | sl h hm hb =>
    obtain ⟨l, h1, h2, h3⟩ := fits_rows2 hf h
    refine ⟨l, ?_, by omega, by rw [← h1]; exact hb, h3⟩
    unfold roL
    rw [h1, h2]
theorem heavy68 (d : Deed) (hf : deedFits d) : ∃ n, Pu envE 68 [.ro 1 (deedC d)] (I n) := by
  have := c68 [d] (by simp) (by simpa using hf)
  simpa [roL] using this
theorem c23 (l : List Call17) (hl : l.length < 4611686018427387904) (hb : ∀ c ∈ l, deedFits c.d) : ∃ b, Pu envE 23 [roL call17C l] (.bool b) := by
  suffices h : ∃ d, Pu envE 23 [roL call17C l] d ∧ ∃ b, d = .bool b by
    obtain ⟨d, h1, b, rfl⟩ := h
    exact ⟨b, h1⟩
  refine pu_ex e23 rfl ?_
  rw [fr_init (by simp [fd23])]
  simp [fd23, b23]
  refine loop_go [5, 6, 7] rfl (fun m vs H => ∃ i, m + i = l.length ∧ vs = [roL call17C l, I l.length, I i]) ?_ l.length ⟨0, rfl, rfl⟩
  rintro J hJ m vs H b ⟨i, hm, rfl⟩
  by_cases hi : i < l.length
  · have hw := wrap_succ (i := i) (by omega)
    have hld := load_roL call17_len hi (H := H)
    obtain ⟨x, hx⟩ := heavy68 l[i].d (hb l[i] (List.getElem_mem _))
    have fz : ∀ H, mapO (frz H 11) (deedC l[i].d) = some (deedC l[i].d) := fun H => frz_deed (d := 10) _
    have dl : (deedC l[i].d).length = 56 := deedC_len _
    have dover : ∀ q : List AV, q.length = 56 → setFrom q 0 (deedC l[i].d) = deedC l[i].d := fun q hq => setFrom_all _ _ (by rw [hq, deedC_len])
    have done : (∀ y : AV, y ∈ deedC l[i].d → y.one = true) = True := eq_true (List.all_eq_true.1 (deedC_one _))
    by_cases h80 : (80 : Int) ≤ i
    · simp [-deedC_eq, lp23_0, hi, idxSl_roL hi, hld, h80, call17_len, call17_one, call17_over, -load_tp]
    · by_cases hx0 : 0 < x
      · simp [-deedC_eq, lp23_0, hi, idxSl_roL hi, hld, h80, call17_len, call17_one, call17_over, call17_f2, dl, dover, done, deedC_one, frz_sl, fz, wPu_eq hx, hx0, -load_tp]
      · simp [-deedC_eq, lp23_0, hi, idxSl_roL hi, hld, h80, call17_len, call17_one, call17_over, call17_f2, dl, dover, done, deedC_one, frz_sl, fz, wPu_eq hx, hx0, hw, -load_tp]
        exact nxt hJ (m - 1) (by omega) ⟨i + 1, by omega, rfl⟩
  · simp [lp23_0, hi]

/-- A row of deeds that nobody writes to while the ledger at b (its row is v) goes on. -/
def Held (b : Nat) (v : AV) (H : Heap) (ds : List Deed) (u : AV) : Prop := ∃ lo U, DRow lo U ds u ∧ ∀ (k : Nat) (z : ABlk), lo ≤ k → U[k]? = some z → H[k]? = some z ∧ k ≠ b ∧ Off v k
section
variable {b : Nat} {v u : AV} {H : Heap} {ds : List Deed}
theorem Held.nil : Held b v H [] .nilsl := ⟨0, [], .nil, fun k z _ h => by cases h⟩
theorem Held.row (h : Held b v H ds u) : DRow 0 H ds u := by
  obtain ⟨lo, U, h1, h2⟩ := h
  exact (h1.keep fun k y hk hy => (h2 k _ hk hy).1).mono (Nat.zero_le _)
theorem Held.app {X : Heap} (h : Held b v H ds u) : Held b v (H ++ X) ds u := by
  obtain ⟨lo, U, h1, h2⟩ := h
  exact ⟨lo, U, h1, fun k z hk hz => ⟨get_app (h2 k z hk hz).1, (h2 k z hk hz).2⟩⟩
theorem Held.setb {z : ABlk} {v' : AV} (h : Held b v H ds u) (hv : ∀ k, Off v k → Off v' k) : Held b v' (H.set b z) ds u := by
  obtain ⟨lo, U, h1, h2⟩ := h
  exact ⟨lo, U, h1, fun k z hk hz => by
    obtain ⟨g1, g2, g3⟩ := h2 k z hk hz
    exact ⟨get_set g1 (Ne.symm g2), g2, hv k g3⟩⟩
theorem Held.write {H' : Heap} {v' : AV} (h : Held b v H ds u) (hk : ∀ (k : Nat) (z : ABlk), H[k]? = some z → k ≠ b → Off v k → H'[k]? = some z) (hv : ∀ k, k < H.length → Off v k → Off v' k) : Held b v' H' ds u := by
  obtain ⟨lo, U, h1, h2⟩ := h
  exact ⟨lo, U, h1, fun k z hlo hz => by
    obtain ⟨g1, g2, g3⟩ := h2 k z hlo hz
    exact ⟨hk k z g1 g2 g3, g2, hv k (lt_of g1) g3⟩⟩
theorem Held.fresh {lo : Nat} {X : Heap} {s r : Int} {dl : List Deed} (hL : Led lo H b v dl s r) (h : DRow H.length (H ++ X) ds u) : Held b v (H ++ X) ds u :=
  ⟨H.length, H ++ X, h, fun k z hk hz => ⟨hz, by have := lt_of hL.at'; omega, hL.row.off_ge hk⟩⟩
end
end Go.Proofs.YtkmikfhfjjmobaaA

/- Guards, what is always run, Texts. No statement about the program is proved here. -/
import Derived.Test.YtflgfiieaoeknaaGreatC4
namespace Go.Proofs.YtflgfiieaoeknaaGreatA
open Go
set_option linter.unusedSimpArgs false
set_option maxRecDepth 1000000

theorem law_of {E : AEnv} {f : Nat} {xs ds : List AV} (h : Pu E f ds (.bool true)) (hd : mapO (frz [] deep) xs = some ds) : ∃ n H', callF E (exec E n) f xs 0 [] = some (.bool true, H') := by
  have h2 : Cl E f xs 0 [] (.bool true) [] := by
    have := h.cl (H := []) (lim := 0) hd
    rwa [thaw_bool] at this
  obtain ⟨n, h3⟩ := h2
  exact ⟨n, _, h3⟩
theorem fa_row {s : Sh} {ps : List (Bool × Sh)} {cs : List AV} (h : FitsArgs ((true, s) :: ps) cs) : ∃ r rest, cs = .agg r :: rest ∧ Fits s r ∧ FitsArgs ps rest := by
  cases h with
  | cons h t => cases h with
    | row h => exact ⟨_, _, rfl, h, t⟩
theorem fa_one {s : Sh} {ps : List (Bool × Sh)} {cs : List AV} (h : FitsArgs ((false, s) :: ps) cs) : ∃ a rest, cs = a :: rest ∧ Fits s [a] ∧ FitsArgs ps rest := by
  cases h with
  | cons h t => cases h with
    | one h => exact ⟨_, _, rfl, h, t⟩
theorem fa_nil {cs : List AV} (h : FitsArgs [] cs) : cs = [] := by cases h; rfl
theorem reach_val {n : Nat} (h : n * 32 ≤ reachBytes) : n ≤ 4398046511104 := by
  have : reachBytes = 140737488351232 := rfl
  omega
theorem run_pu {E : AEnv} {f : Nat} {fd : AFun} {xs ds : List AV} {r : AV} (hf : E.fn f = some (.code fd)) (hm : fd.mode = .pure) (hd : ∀ H, mapO (frz H deep) xs = some ds) (h : ∀ lim H, Cl E f xs lim H r H) {H : Heap} {K : AV → Heap → Prop} : wPu E f (some ds) H K = K r H := by
  rw [← hd H, ← WCl_pure (lim := 0) hf hm, WCl_eq (h 0 H)]
theorem zero44 (lim : Nat) (H : Heap) : Cl envE 98 [.agg [I 0, I 0, I 0, I 0, I 0, I 0, I 0, I 0, .nilsl]] lim H (.bool true) H := cl_run 300 (by kernel_rfl)
@[simp] theorem k98z {H : Heap} {K : AV → Heap → Prop} : wPu envE 98 (some [.agg [I 0, I 0, I 0, I 0, I 0, I 0, I 0, I 0, .ro 0 []]]) H K = K (.bool true) H := run_pu e98 rfl (fun _ => by simp) zero44
@[simp] theorem k98z' {H : Heap} {K : AV → Heap → Prop} : wPu envE 98 (some [.agg (bagV zeroV (.ro 0 []))]) H K = K (.bool true) H := k98z
theorem c53 (n : Int) : Pu envE 53 [I n] (.bool (nodeOk n)) := by
  refine pu_is e53 rfl ?_
  rw [fr_init (by simp [fd53])]
  by_cases h : 0 ≤ n <;> simp [fd53, b53, h, nodeOk]
@[simp] theorem k53 {n : Int} {H : Heap} {K : AV → Heap → Prop} : wPu envE 53 (some [I n]) H K = K (.bool (nodeOk n)) H := (wPu_eq (c53 n)).trans (by simp)

theorem c23 (l : List Bag) (hl : l.length < 4611686018427387904) (hb : ∀ b ∈ l, b.vals.length < 4611686018427387904) : ∃ n, Pu envE 23 [roL bagC l] (I n) := by
  suffices h : ∃ d, Pu envE 23 [roL bagC l] d ∧ ∃ n, d = I n by
    obtain ⟨d, h1, n, rfl⟩ := h
    exact ⟨n, h1⟩
  refine pu_ex e23 rfl ?_
  rw [fr_init (by simp [fd23])]
  simp [fd23, b23]
  refine loop_go [8, 9, 10] rfl (fun m vs H => ∃ i, m + i = l.length ∧ vs = [roL bagC l, I l.length, I i]) ?_ l.length ⟨0, rfl, rfl⟩
  rintro J hJ m vs H b ⟨i, hm, rfl⟩
  by_cases hi : i < l.length
  · have hbi := hb l[i] (List.getElem_mem _)
    have hw := wrap_succ (i := i) (by omega)
    have hld := load_roL bagC_len hi (H := H)
    simp [lp23_0, hi, idxSl_roL hi, hld, -load_tp]
    obtain ⟨vs, hvs⟩ : ∃ vs, vs = l[i].vals := ⟨_, rfl⟩
    rw [← hvs] at hbi ⊢
    refine loop_go [3, 5, 8, 9, 10, 16, 17, 18] rfl (fun m ws H => ∃ j n, m + j = vs.length ∧ ws = [I i, I n, roL bagC l, I l.length, I i, roL valC vs, I vs.length, I j]) ?_ vs.length ⟨0, 0, rfl, rfl⟩
    rintro J2 hJ2 m2 ws H b ⟨j, n, hm2, rfl⟩
    by_cases hj : j < vs.length
    · have hwj := wrap_succ (i := j) (by omega)
      have hld2 := valC_load hj (H := H)
      simp [lp23_1, hj, idxSl_roL hj, hld2, hwj, -load_tp]
      exact nxt hJ2 (m2 - 1) (by omega) ⟨j + 1, _, by omega, rfl⟩
    · by_cases hn : 100 < n
      · simp [lp23_1, hj, hn]
      · simp [lp23_1, hj, hn, hw]
        exact nxt hJ (m - 1) (by omega) ⟨i + 1, by omega, rfl⟩
  · simp [lp23_0, hi]
theorem heavy15 (k : Nat → Int) (l : List Val) (hl : l.length < 4611686018427387904) : ∃ n, Pu envE 23 [.ro 1 (bagV k (roL valC l))] (I n) := by
  have := c23 [⟨k, l⟩] (by simp) (by simpa using hl)
  simpa [roL] using this

/-! ## Texts -/
theorem str_load {l : List (List UInt8)} {i : Nat} (hi : i < l.length) {H : Heap} : loadAt H none (.tp ((l.flatMap strC).drop i)) = some (.str l[i]) := by
  have := load_roL1 (f := strC) (g := AV.str) (fun _ => rfl) hi (H := H)
  rwa [Nat.mul_one] at this
theorem str_flat : Flat strC := fun _ _ _ => hard rfl
theorem str_plain : Plain strC := fun _ _ _ => hard rfl
theorem str_still : Still strC := fun _ _ => by simp [strC]
theorem str_one (s : List UInt8) : (strC s).all AV.one = true := hard rfl
def addText (l : List (List UInt8)) (v : Val) : List (List UInt8) := if v.data ∈ l then l else l ++ [v.data]
def textsL (l : List Val) : List (List UInt8) := l.foldl addText []
theorem addText_len {l : List (List UInt8)} {v : Val} : (addText l v).length ≤ l.length + 1 := by
  unfold addText
  split <;> simp
theorem texts_len : ∀ {l : List Val} {t : List (List UInt8)}, (l.foldl addText t).length ≤ t.length + l.length
  | [], t => by simp
  | v :: l, t => by
    have h1 := texts_len (l := l) (t := addText t v)
    have h2 := addText_len (l := t) (v := v)
    simp only [List.foldl_cons, List.length_cons]
    omega
end Go.Proofs.YtflgfiieaoeknaaGreatA

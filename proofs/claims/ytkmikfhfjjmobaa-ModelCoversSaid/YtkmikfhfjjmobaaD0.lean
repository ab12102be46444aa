/- Guards, what is always run, Texts. No statement about the program is proved here. -/
import Derived.Test.YtkmikfhfjjmobaaC4
namespace Go.Proofs.YtkmikfhfjjmobaaA
open Go
set_option linter.unusedSimpArgs false
set_option maxRecDepth 1000000

theorem law_of {E : AEnv} {f : Nat} {xs ds : List AV} (h : Pu E f ds (.bool true)) (hd : mapO (frz [] deep) xs = some ds) : ∃ n H', callF E (exec E n) f xs 0 [] = some (.bool true, H') := by
  have h2 : Cl E f xs 0 [] (.bool true) [] := by
    have := h.cl (H := []) (lim := 0) hd
    rwa [thaw_bool] at this
  obtain ⟨n, h3⟩ := h2
  exact ⟨n, _, h3⟩
theorem fa_row {s : Sh} {ps : List (Bool × Sh)} {cs : List AV} (h : FitsArgs ((true, s) :: ps) cs) : ∃ r rest, cs = .agg r :: rest ∧ Fits s r ∧ FitsArgs ps rest := by
  cases h with
  | cons h t => cases h with
    | row h => exact ⟨_, _, rfl, h, t⟩
theorem fa_one {s : Sh} {ps : List (Bool × Sh)} {cs : List AV} (h : FitsArgs ((false, s) :: ps) cs) : ∃ a rest, cs = a :: rest ∧ Fits s [a] ∧ FitsArgs ps rest := by
  cases h with
  | cons h t => cases h with
    | one h => exact ⟨_, _, rfl, h, t⟩
theorem fa_nil {cs : List AV} (h : FitsArgs [] cs) : cs = [] := by cases h; rfl
theorem reach_val {n : Nat} (h : n * 32 ≤ reachBytes) : n ≤ 4398046511104 := by
  have : reachBytes = 140737488351232 := rfl
  omega
theorem run_pu {E : AEnv} {f : Nat} {fd : AFun} {xs ds : List AV} {r : AV} (hf : E.fn f = some (.code fd)) (hm : fd.mode = .pure) (hd : ∀ H, mapO (frz H deep) xs = some ds) (h : ∀ lim H, Cl E f xs lim H r H) {H : Heap} {K : AV → Heap → Prop} : wPu E f (some ds) H K = K r H := by
  rw [← hd H, ← WCl_pure (lim := 0) hf hm, WCl_eq (h 0 H)]
theorem awake16 (lim : Nat) (H : Heap) : Cl envE 16 [] lim H (.bool true) H := cl_run 300 (by kernel_rfl)
@[simp] theorem k16 {H : Heap} {K : AV → Heap → Prop} : wPu envE 16 (some []) H K = K (.bool true) H := run_pu e16 rfl (fun _ => rfl) awake16
theorem zero44 (lim : Nat) (H : Heap) : Cl envE 44 [.agg [I 0, I 0, I 0, I 0, I 0, I 0, I 0, I 0, .nilsl]] lim H (.bool true) H := cl_run 300 (by kernel_rfl)
@[simp] theorem k44z {H : Heap} {K : AV → Heap → Prop} : wPu envE 44 (some [.agg [I 0, I 0, I 0, I 0, I 0, I 0, I 0, I 0, .ro 0 []]]) H K = K (.bool true) H := run_pu e44 rfl (fun _ => by simp) zero44
@[simp] theorem k44z' {H : Heap} {K : AV → Heap → Prop} : wPu envE 44 (some [.agg (bagV zeroV (.ro 0 []))]) H K = K (.bool true) H := k44z
theorem c20 (n : Int) : Pu envE 20 [I n] (.bool (nodeOk n)) := by
  refine pu_is e20 rfl ?_
  rw [fr_init (by simp [fd20])]
  by_cases h : 0 ≤ n <;> simp [fd20, b20, h, nodeOk]
@[simp] theorem k20 {n : Int} {H : Heap} {K : AV → Heap → Prop} : wPu envE 20 (some [I n]) H K = K (.bool (nodeOk n)) H := (wPu_eq (c20 n)).trans (by simp)

theorem c15 (l : List Bag) (hl : l.length < 4611686018427387904) (hb : ∀ b ∈ l, b.vals.length < 4611686018427387904) : ∃ n, Pu envE 15 [roL bagC l] (I n) := by
  suffices h : ∃ d, Pu envE 15 [roL bagC l] d ∧ ∃ n, d = I n by
    obtain ⟨d, h1, n, rfl⟩ := h
    exact ⟨n, h1⟩
  refine pu_ex e15 rfl ?_
  rw [fr_init (by simp [fd15])]
  simp [fd15, b15]
  refine loop_go [8, 9, 10] rfl (fun m vs H => ∃ i, m + i = l.length ∧ vs = [roL bagC l, I l.length, I i]) ?_ l.length ⟨0, rfl, rfl⟩
  rintro J hJ m vs H b ⟨i, hm, rfl⟩
  by_cases hi : i < l.length
  · have hbi := hb l[i] (List.getElem_mem _)
    have hw := wrap_succ (i := i) (by omega)
    have hld := load_roL bagC_len hi (H := H)
    simp [lp15_0, hi, idxSl_roL hi, hld, -load_tp]
    obtain ⟨vs, hvs⟩ : ∃ vs, vs = l[i].vals := ⟨_, rfl⟩
    rw [← hvs] at hbi ⊢
    refine loop_go [3, 5, 8, 9, 10, 16, 17, 18] rfl (fun m ws H => ∃ j n, m + j = vs.length ∧ ws = [I i, I n, roL bagC l, I l.length, I i, roL valC vs, I vs.length, I j]) ?_ vs.length ⟨0, 0, rfl, rfl⟩
    rintro J2 hJ2 m2 ws H b ⟨j, n, hm2, rfl⟩
    by_cases hj : j < vs.length
    · have hwj := wrap_succ (i := j) (by omega)
      have hld2 := valC_load hj (H := H)
      simp [lp15_1, hj, idxSl_roL hj, hld2, hwj, -load_tp]
      exact nxt hJ2 (m2 - 1) (by omega) ⟨j + 1, _, by omega, rfl⟩
    · by_cases hn : 100 < n
      · simp [lp15_1, hj, hn]
      · simp [lp15_1, hj, hn, hw]
        exact nxt hJ (m - 1) (by omega) ⟨i + 1, by omega, rfl⟩
  · simp [lp15_0, hi]
theorem heavy15 (k : Nat → Int) (l : List Val) (hl : l.length < 4611686018427387904) : ∃ n, Pu envE 15 [.ro 1 (bagV k (roL valC l))] (I n) := by
  have := c15 [⟨k, l⟩] (by simp) (by simpa using hl)
  simpa [roL] using this

/-! ## Texts -/
theorem str_load {l : List (List UInt8)} {i : Nat} (hi : i < l.length) {H : Heap} : loadAt H none (.tp ((l.flatMap strC).drop i)) = some (.str l[i]) := by
  have := load_roL1 (f := strC) (g := AV.str) (fun _ => rfl) hi (H := H)
  rwa [Nat.mul_one] at this
theorem str_flat : Flat strC := fun _ _ _ => hard rfl
theorem str_plain : Plain strC := fun _ _ _ => hard rfl
theorem str_still : Still strC := fun _ _ => by simp [strC]
theorem str_one (s : List UInt8) : (strC s).all AV.one = true := hard rfl
theorem c113 (l : List (List UInt8)) (s : List UInt8) (hl : l.length < 4611686018427387904) : ∃ n : Int, Pu envE 113 [roL strC l, .str s] (I n) ∧ (0 ≤ n ↔ s ∈ l) := by
  suffices h : ∃ d, Pu envE 113 [roL strC l, .str s] d ∧ ∃ n : Int, d = I n ∧ (0 ≤ n ↔ s ∈ l) by
    obtain ⟨d, h1, n, rfl, h2⟩ := h
    exact ⟨n, h1, h2⟩
  refine pu_ex e113 rfl ?_
  rw [fr_init (by simp [fd113])]
  simp [fd113, b113]
  refine loop_go [0, 1, 7, 8] rfl (fun m vs H => ∃ i, m + i = l.length ∧ (∀ j (hj : j < l.length), j < i → ¬ s = l[j]) ∧ vs = [roL strC l, .str s, I l.length, I i]) ?_ l.length ⟨0, rfl, by omega, rfl⟩
  rintro J hJ m vs H b ⟨i, hm, hall, rfl⟩
  by_cases hi : i < l.length
  · have hw := wrap_succ (i := i) (by omega)
    have hld := str_load hi (H := H)
    by_cases hs : s = l[i]
    · have e : s ∈ l := by rw [hs]; exact List.getElem_mem _
      simp [lp113_0, hi, idxSl_roL hi, hld, hw, ← hs, e, -load_tp]
    · simp [lp113_0, hi, idxSl_roL hi, hld, hw, hs, -load_tp]
      exact nxt hJ (m - 1) (by omega) ⟨i + 1, by omega, fun j hj hji => by
        rcases Nat.lt_or_ge j i with q | q
        · exact hall j hj q
        · obtain rfl : j = i := by omega
          exact hs, rfl⟩
  · have e : ¬ s ∈ l := fun q => by
      obtain ⟨j, hj, e⟩ := List.mem_iff_getElem.1 q
      exact hall j hj (by omega) e.symm
    simp [lp113_0, hi, e]
theorem c79 (l : List (List UInt8)) (s : List UInt8) (hl : l.length < 4611686018427387904) : Pu envE 79 [roL strC l, .str s] (.bool (decide (s ∈ l))) := by
  obtain ⟨n, h1, h2⟩ := c113 l s hl
  refine pu_is e79 rfl ?_
  rw [fr_init (by simp [fd79])]
  simp [fd79, b79, wPu_eq h1, h2]
@[simp] theorem k79 {l : List (List UInt8)} {s : List UInt8} {H : Heap} {K : AV → Heap → Prop} (hl : l.length < 4611686018427387904) : wPu envE 79 (some [roL strC l, .str s]) H K = K (.bool (decide (s ∈ l))) H := (wPu_eq (c79 l s hl)).trans (by simp)

def addText (l : List (List UInt8)) (v : Val) : List (List UInt8) := if v.data ∈ l then l else l ++ [v.data]
def textsL (l : List Val) : List (List UInt8) := l.foldl addText []
theorem addText_len {l : List (List UInt8)} {v : Val} : (addText l v).length ≤ l.length + 1 := by
  unfold addText
  split <;> simp
theorem texts_len : ∀ {l : List Val} {t : List (List UInt8)}, (l.foldl addText t).length ≤ t.length + l.length
  | [], t => by simp
  | v :: l, t => by
    have h1 := texts_len (l := l) (t := addText t v)
    have h2 := addText_len (l := t) (v := v)
    simp only [List.foldl_cons, List.length_cons]
    omega
theorem c43 (k : Nat → Int) (l : List Val) (hl : l.length ≤ 4398046511104) : Pu envE 43 [.agg (bagV k (roL valC l))] (owL 1 strC (textsL l)) := by
  refine pu_is e43 rfl ?_
  rw [fr_init (by simp [fd43])]
  simp [fd43, b43]
  refine loop_go [3, 7, 8, 9] rfl (fun m vs H => ∃ i X v, m + i = l.length ∧ Row 1 (.cells false (bagV k (roL valC l)) :: X) 1 strC (textsL (l.take i)) v ∧ H = .cells false (bagV k (roL valC l)) :: X ∧ vs = [v, roL valC l, I l.length, I i]) ?_ l.length ⟨0, [], .nilsl, rfl, .nil, rfl, rfl⟩
  rintro J hJ m vs H b ⟨i, X, v, hm, hr, rfl, rfl⟩
  by_cases hi : i < l.length
  · have hw := wrap_succ (i := i) (by omega)
    have hld := valC_load hi (H := .cells false (bagV k (roL valC l)) :: X)
    have hlen := texts_len (l := l.take i) (t := [])
    have hlen2 := List.length_take_le' i l
    have hlen3 : (textsL (l.take i)).length ≤ l.length := by simpa [textsL] using Nat.le_trans hlen (by simpa using hlen2)
    have hll : (textsL (l.take i)).length < 4611686018427387904 := by omega
    have hstep : textsL (l.take (i + 1)) = addText (textsL (l.take i)) l[i] := by
      unfold textsL
      rw [List.take_succ_eq_append_getElem hi, List.foldl_append]; rfl
    have fz := (hr.app (X := [.cells false (valC l[i])])).frz (d := 10) strC_len str_flat
    simp at fz
    by_cases ht : l[i].data ∈ textsL (l.take i)
    · simp [lp43_0, hi, hw, idxSl_roL hi, hld, fz, hll, ht, -load_tp]
      refine nxt hJ (m - 1) (by omega) ⟨i + 1, _, v, by omega, ?_, rfl, rfl⟩
      rw [hstep, addText, if_pos ht]
      simpa using hr.app (X := [.cells false (valC l[i])])
    · obtain ⟨v', X', e, hr'⟩ := Row.push (bytes := 16) (P := [_]) (Z := [.cells false (valC l[i])]) strC_len (by omega) str_one hr l[i].data (by simp only [most]; omega) (by simp only [most]; omega)
      simp [strC] at e
      simp [lp43_0, hi, hw, idxSl_roL hi, hld, fz, hll, ht, e, -load_tp]
      refine nxt hJ (m - 1) (by omega) ⟨i + 1, _, v', by omega, ?_, rfl, rfl⟩
      rw [hstep, addText, if_neg ht]
      exact hr'
  · have hT : textsL (l.take i) = textsL l := by rw [List.take_of_length_le (by omega)]
    rw [hT] at hr
    obtain ⟨u, ho, hn, _⟩ := hr.own (d := 10) strC_len (by omega) str_plain
    simp [lp43_0, hi, ho, hn]
theorem k43 {k : Nat → Int} {l : List Val} {H : Heap} {K : AV → Heap → Prop} (hl : l.length ≤ 4398046511104) : wPu envE 43 (some [.agg (bagV k (roL valC l))]) H K = K (thaw (owL 1 strC (textsL l)) H).1 (thaw (owL 1 strC (textsL l)) H).2 := wPu_eq (c43 k l hl)
end Go.Proofs.YtkmikfhfjjmobaaA

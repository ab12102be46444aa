/- The model's writes, and the search for one. No statement about the program is proved here. -/
import Derived.Test.YtkmikfhfjjmobaaP1
namespace Go.Proofs.YtkmikfhfjjmobaaA
open Go
set_option linter.unusedSimpArgs false
set_option linter.unusedVariables false
set_option maxRecDepth 1000000

/-- A write that the model was told of, and what its writer knew. -/
structure Wr where
  v : Val
  k : Nat → Int
def wrC (w : Wr) : List AV := valC w.v ++ vecC w.k
theorem wrC_len (w : Wr) : (wrC w).length = 11 := hard rfl
theorem wrC_one (w : Wr) : (wrC w).all AV.one = true := hard rfl
@[simp] theorem wr_all (w : Wr) : (wrC w).take 11 = wrC w := hard rfl
@[simp] theorem wr_f2 (w : Wr) : (wrC w).take 2 = [I w.v.node, I w.v.n] := hard rfl
@[simp] theorem wr_f3 (w : Wr) : (wrC w).take 3 = valC w.v := hard rfl
@[simp] theorem wr_d3 (w : Wr) : ((wrC w).drop 3).take 8 = vecC w.k := hard rfl
@[simp] theorem wr_len (w : Wr) : (wrC w).length = 11 := hard rfl
@[simp] theorem wr_cut2 (w : Wr) : cut (wrC w) 0 2 = some [I w.v.node, I w.v.n] := hard rfl
@[simp] theorem wr_cut3 (w : Wr) : cut (wrC w) 0 3 = some (valC w.v) := hard rfl
@[simp] theorem wr_cut8 (w : Wr) : cut (wrC w) 3 8 = some (vecC w.k) := hard rfl
@[simp] theorem wr_cut11 (w : Wr) : cut (wrC w) 0 11 = some (wrC w) := hard rfl
@[simp] theorem frz_wr {H : Heap} {d : Nat} (w : Wr) : mapO (frz H (d + 1)) (wrC w) = some (wrC w) := hard rfl
theorem wr_flat : Flat wrC := fun _ _ _ => frz_wr _
@[simp] theorem wr_one2 (w : Wr) : (∀ x : AV, x ∈ wrC w → x.one = true) = True := eq_true (List.all_eq_true.1 (wrC_one w))
theorem wrC_load {l : List Wr} {i : Nat} (hi : i < l.length) {H : Heap} : loadAt H (some 11) (.tp ((l.flatMap wrC).drop (i * 11))) = some (.agg (wrC l[i])) := load_roL wrC_len hi
theorem c116 (w : Wr) (a c : Int) (lim : Nat) (H : Heap) : Cl envE 116 [.agg (wrC w), .agg [I a, I c]] lim H (I (dotCmp w.v.node w.v.n a c)) (H ++ [.cells false (wrC w), .cells false [I a, I c]]) := by
  refine cl_is e116 rfl ?_
  rw [fr_init (by simp [fd116])]
  simp [fd116, b116]
@[simp] theorem k116 {w : Wr} {a c : Int} {lim : Nat} {H : Heap} {K : AV → Heap → Prop} : WCl envE 116 [.agg (wrC w), .agg [I a, I c]] lim H K = K (I (dotCmp w.v.node w.v.n a c)) (H ++ [.cells false (wrC w), .cells false [I a, I c]]) := WCl_eq (c116 w a c lim H)
theorem asc_w {ws : List Wr} (hs : Asc (ws.map Wr.v)) : ∀ (i j : Nat) (hi : i < ws.length) (hj : j < ws.length), i < j → dlt ws[i].v ws[j].v = true := fun i j hi hj hij => by
  have := (List.pairwise_iff_getElem.1 hs) i j (by simpa using hi) (by simpa using hj) hij
  simpa using this
theorem pos_w {ws : List Wr} {a c : Int} {i : Nat} (h : i ≤ ws.length) (h1 : ∀ j (hj : j < ws.length), j < i → below a c ws[j].v = true) (h2 : ∀ (hi : i < ws.length), below a c ws[i].v = false) : pos (ws.map Wr.v) a c = i :=
  pos_eq (by simpa using h) (fun j hj q => by simpa using h1 j (by simpa using hj) q) (fun hi => by simpa using h2 (by simpa using hi))
theorem isAt_w {ws : List Wr} {a c : Int} {i : Nat} (hs : Asc (ws.map Wr.v)) (hi : i < ws.length) (h1 : ∀ j (hj : j < ws.length), j < i → below a c ws[j].v = true) (h2 : below a c ws[i].v = false) : isAt (ws.map Wr.v) a c = decide (dotCmp ws[i].v.node ws[i].v.n a c = 0) := by
  have := isAt_eq (a := a) (c := c) (i := i) hs (by simpa using hi) (fun j hj q => by simpa using h1 j (by simpa using hj) q) (by simpa using h2)
  simpa using this
theorem isAt_endw {ws : List Wr} {a c : Int} (h1 : ∀ j (hj : j < ws.length), below a c ws[j].v = true) : isAt (ws.map Wr.v) a c = false :=
  isAt_end fun j hj => by simpa using h1 j (by simpa using hj)
theorem c115 (ws : List Wr) (a c : Int) (hs : Asc (ws.map Wr.v)) (hl : ws.length < 4611686018427387904) (lim : Nat) (H : Heap) (hlim : lim ≤ H.length) : WCl envE 115 [roL wrC ws, .agg [I a, I c], .fn (.func 116) [] []] lim H fun r H' => r = .tup [I (pos (ws.map Wr.v) a c), .bool (isAt (ws.map Wr.v) a c)] ∧ ∃ X, H' = H ++ X := by
  refine cl_of e115 rfl ?_
  rw [fr_init (by simp [fd115])]
  simp [fd115, b115]
  refine loop_go [0, 2, 4, 8, 9, 10] rfl (fun m vs H' => ∃ (i j : Nat) (X : Heap), i + m = j ∧ j ≤ ws.length ∧ (∀ t (ht : t < ws.length), t < i → below a c ws[t].v = true) ∧ (∀ t (ht : t < ws.length), j ≤ t → below a c ws[t].v = false) ∧ H' = H ++ .cells false [I a, I c] :: X ∧ vs = [roL wrC ws, .fn (.func 116) [] [], .ptr (some (H.length, 0)), I ws.length, I i, I j]) ?_ ws.length ⟨0, ws.length, [], by omega, by omega, by omega, by omega, rfl, rfl⟩
  rintro J hJ m vs H' b ⟨i, j, X, hm, hj, h1, h2, rfl, rfl⟩
  by_cases hij : i < j
  · obtain ⟨s, hs1⟩ : ∃ s, s = i + j := ⟨_, rfl⟩
    obtain ⟨h, hh⟩ : ∃ h, h = s / 2 := ⟨_, rfl⟩
    have hw1 : IntKind.i64.wrap ((i : Int) + j) = (s : Int) := by rw [wrap_i64] <;> omega
    have hw2 : IntKind.u64.wrap (s : Int) = (s : Int) := by simp [IntKind.wrap, IntKind.signed, IntKind.bits]; omega
    have hw3 : (s : Int).fdiv (2 ^ min 1 IntKind.u64.bits) = (h : Int) := by
      have e : (2 : Int) ^ min 1 IntKind.u64.bits = 2 := rfl
      rw [e, Int.fdiv_eq_ediv_of_nonneg _ (by omega)]; omega
    have hw4 : IntKind.i64.wrap (h : Int) = (h : Int) := by rw [wrap_i64] <;> omega
    have hw5 := wrap_succ (i := h) (by omega)
    have hi : h < ws.length := by omega
    have hld := wrC_load hi (H := H ++ .cells false [I a, I c] :: X)
    have asc := asc_w hs
    have hlim2 : lim ≤ H.length + (X.length + 1) := by omega
    by_cases hb : dotCmp ws[h].v.node ws[h].v.n a c < 0
    · simp [lp115_0, hij, hw1, hw2, hw3, hw4, hw5, idxSl_roL hi, hld, hb, hlim2, -load_tp]
      exact nxt hJ (j - (h + 1)) (by omega) ⟨h + 1, j, X ++ [.cells false (wrC ws[h]), .cells false [I a, I c]], by omega, hj, fun t ht hti => by
        rcases Nat.lt_or_ge t h with q | q
        · have := asc t h ht hi q
          rw [dlt_iff] at this
          rw [dot_neg] at hb
          simp only [below, decide_eq_true_eq, dot_neg]
          omega
        · obtain rfl : t = h := by omega
          simpa [below] using hb, h2, by simp, rfl⟩
    · simp [lp115_0, hij, hw1, hw2, hw3, hw4, hw5, idxSl_roL hi, hld, hb, hlim2, -load_tp]
      exact nxt hJ (h - i) (by omega) ⟨i, h, X ++ [.cells false (wrC ws[h]), .cells false [I a, I c]], by omega, by omega, h1, fun t ht hti => by
        rcases Nat.lt_or_ge h t with q | q
        · have := asc h t hi ht q
          rw [dlt_iff] at this
          rw [dot_neg] at hb
          simp only [below, decide_eq_false_iff_not, dot_neg]
          omega
        · obtain rfl : t = h := by omega
          simpa [below] using hb, by simp, rfl⟩
  · obtain rfl : i = j := by omega
    have hlim2 : lim ≤ H.length + (X.length + 1) := by omega
    have hp : pos (ws.map Wr.v) a c = i := pos_w hj h1 fun hi => h2 i hi (Nat.le_refl i)
    by_cases hi : i < ws.length
    · have hld := wrC_load hi (H := H ++ .cells false [I a, I c] :: X)
      have hat := isAt_w hs hi h1 (h2 i hi (Nat.le_refl _))
      have e : (dotCmp ws[i].v.node ws[i].v.n a c == 0) = isAt (ws.map Wr.v) a c := by rw [hat]; rfl
      simp [lp115_0, hi, idxSl_roL hi, hld, hlim2, hp, e, -load_tp]
    · have hat : isAt (ws.map Wr.v) a c = false := isAt_endw fun t ht => h1 t ht (by omega)
      simp [lp115_0, hi, hlim2, hp, hat]
theorem c87 (ws : List Wr) (a c : Int) (hs : Asc (ws.map Wr.v)) (hl : ws.length < 4611686018427387904) : Pu envE 87 [roL wrC ws, .agg [I a, I c]] (.tup [I (pos (ws.map Wr.v) a c), .bool (isAt (ws.map Wr.v) a c)]) := by
  refine pu_is e87 rfl ?_
  rw [fr_init (by simp [fd87])]
  simp [fd87, b87]
  refine WCl.mono (c115 ws a c hs hl _ _ (by simp)) ?_
  rintro _ _ ⟨rfl, X, rfl⟩
  simp
@[simp] theorem k87 {ws : List Wr} {a c : Int} {H : Heap} {K : AV → Heap → Prop} (hs : Asc (ws.map Wr.v)) (hl : ws.length < 4611686018427387904) : wPu envE 87 (some [roL wrC ws, .agg [I a, I c]]) H K = K (.tup [I (pos (ws.map Wr.v) a c), .bool (isAt (ws.map Wr.v) a c)]) H := (wPu_eq (c87 ws a c hs hl)).trans (by simp)
end Go.Proofs.YtkmikfhfjjmobaaA

/- What the model tells of a key: all values, the newest ones, whether a bag covers them. No statement about the program is proved here. -/
import Derived.Test.YtkmikfhfjjmobaaW2
import Derived.Test.YtkmikfhfjjmobaaL0
namespace Go.Proofs.YtkmikfhfjjmobaaA
open Go
set_option linter.unusedSimpArgs false
set_option linter.unusedVariables false
set_option maxRecDepth 1000000

section
variable {α : Type} {es : Nat} {f : α → List AV} {l : List α} {v : AV}
/-- One more is put behind; what lies below lim is not ours. -/
theorem Row.pushL {bytes lim : Nat} {P X : Heap} (hlim : lim ≤ P.length) (hl : ∀ x, (f x).length = es) (hes : 0 < es) (h1 : ∀ x, (f x).all AV.one = true) (h : Row P.length (P ++ X) es f l v) (y : α) (hb : (l.length + 1) * bytes ≤ most) (hb2 : l.length + 1 ≤ most) :
    ∃ v' X', appendAV lim (P ++ (X ++ [ABlk.cells true (f y)])) es bytes v (.sl (P.length + X.length) 0 1 es) = some (v', P ++ X') ∧ Row P.length (P ++ X') es f (l ++ [y]) v' := by
  have hel : Go.Proofs.YtkmikfhfjjmobaaA.elems (P ++ (X ++ [ABlk.cells true (f y)])) es (.sl (P.length + X.length) 0 1 es) = some (1, f y) := by
    have e : (P ++ (X ++ [ABlk.cells true (f y)]))[P.length + X.length]? = some (.cells true (f y)) := by
      rw [← List.append_assoc, List.getElem?_append_right (by simp)]
      simp
    simp only [Go.Proofs.YtkmikfhfjjmobaaA.elems, if_true, Heap.cells?, e, Option.bind_some, Nat.one_mul]
    rw [cut_all (hl y)]
    rfl
  have hone := h1 y
  rcases h with ⟨rfl, rfl⟩ | ⟨ne, b, g1, rfl, g3⟩
  · simp only [List.length_nil, Nat.zero_add] at hb hb2
    refine ⟨.sl (P ++ (X ++ [ABlk.cells true (f y)])).length 0 1 es, X ++ [ABlk.cells true (f y)] ++ [ABlk.cells true (f y)], ?_, .inr ⟨by simp, _, ?_, rfl, ?_⟩⟩
    · simp only [appendAV, hel, Option.bind_some, Nat.one_ne_zero, if_false]
      rw [if_pos ⟨hb, hb2, hes, hone⟩, List.append_assoc]
    · simp
    · rw [← List.append_assoc P]
      simp
  · have hbl := (List.getElem?_eq_some_iff.1 g3).1
    have g3' : (P ++ (X ++ [ABlk.cells true (f y)]))[b]? = some (.cells true (l.flatMap f)) := by rw [← List.append_assoc P]; exact get_app g3
    refine ⟨.sl (P ++ (X ++ [ABlk.cells true (f y)])).length 0 (l.length + 1) es, (X ++ [ABlk.cells true (f y)]).set (b - P.length) .dead ++ [ABlk.cells true (l.flatMap f ++ f y)], ?_, .inr ⟨by simp, (P ++ (X ++ [ABlk.cells true (f y)])).length, ?_, by simp, ?_⟩⟩
    · simp only [appendAV, hel, Option.bind_some, Nat.one_ne_zero, if_false, g3', cut_all (flatMap_len hl l), Option.map_some]
      rw [if_pos ⟨trivial, hes, by omega, hb, hb2, hone⟩, List.set_append_right _ _ g1, List.append_assoc]
    · simp
    · rw [← List.append_assoc P]
      have e : (P ++ (X ++ [ABlk.cells true (f y)])).length = (P ++ ((X ++ [ABlk.cells true (f y)]).set (b - P.length) .dead)).length := by simp
      rw [e, List.getElem?_append_right (Nat.le_refl _)]
      simp
end

/-- What the model has of a key. -/
structure MV (lim : Nat) (H : Heap) (p : Nat) (key : List UInt8) (v : AV) (ws : List Wr) : Prop where
  ex : ∃ mi es ck, H[p]? = some (.cells false [.mapv (some mi)]) ∧ H[mi]? = some (.map es ck) ∧ (findKey .s (.str key) es 0 = some none ∧ v = .nilsl ∨ ∃ i, findKey .s (.str key) es 0 = some (some (i, v)))
  row : Row lim H 11 wrC ws v
theorem MV.app {lim p : Nat} {H : Heap} {key : List UInt8} {v : AV} {ws : List Wr} (h : MV lim H p key v ws) (X : Heap) : MV lim (H ++ X) p key v ws := by
  obtain ⟨⟨mi, es, ck, h1, h2, h3⟩, h4⟩ := h
  exact ⟨⟨mi, es, ck, get_app h1, get_app h2, h3⟩, h4.app⟩
def knows (x w : Wr) : Bool := !(decide (x.v.node = w.v.node) && decide (x.v.n = w.v.n)) && has x.k w.v.node w.v.n
def freshW (ws : List Wr) (w : Wr) : Bool := !(ws.any fun x => knows x w)
def newestL (ws : List Wr) : List Val := (ws.filter (freshW ws)).map Wr.v
@[simp] theorem wr_over (w : Wr) (l : List AV) (h : l.length = 11) : setFrom l 0 (wrC w) = wrC w := setFrom_all _ _ (by rw [h, wrC_len])
theorem c94 (w : Wr) (lim : Nat) (H : Heap) : Cl envE 94 [.agg (wrC w)] lim H (.bool true) (H ++ [.cells false (wrC w)]) := by
  refine cl_is e94 rfl ?_
  rw [fr_init (by simp [fd94])]
  simp [fd94, b94]
theorem c93 {H : Heap} {b : Nat} {x w : Wr} (hb : H.cells? b = some (wrC w)) (lim : Nat) : Cl envE 93 [.agg (wrC x), .ptr (some (b, 0))] lim H (.bool (knows x w)) (H ++ [.cells false (wrC x)]) := by
  refine cl_is e93 rfl ?_
  rw [fr_init (by simp [fd93])]
  have hc := cells_app (X := [.cells false (wrC x)]) hb
  by_cases h : x.v.node = w.v.node ∧ x.v.n = w.v.n
  · simp [fd93, b93, hc, eq_row2, h, knows]
  · have e : (decide (x.v.node = w.v.node) && decide (x.v.n = w.v.n)) = false := by
      rw [Bool.eq_false_iff]
      simpa using h
    simp [fd93, b93, hc, eq_row2, h, knows, e]
theorem c120 {H : Heap} {b l2 : Nat} {w : Wr} {v : AV} {ws : List Wr} (hb : H.cells? b = some (wrC w)) (hr : Row l2 H 11 wrC ws v) (hl : ws.length < 4611686018427387904) (lim : Nat) (hlim : lim ≤ H.length) :
    WCl envE 120 [v, .fn (.func 93) [] [.ptr (some (b, 0))]] lim H fun r H' => (∃ n : Int, r = I n ∧ (0 ≤ n ↔ (ws.any fun x => knows x w) = true)) ∧ ∃ X, H' = H ++ X := by
  refine cl_of e120 rfl ?_
  rw [fr_init (by simp [fd120])]
  simp [fd120, b120, hr.len]
  refine loop_go [0, 1, 7, 8] rfl (fun m vs H' => ∃ i X, m + i = ws.length ∧ (∀ j (hj : j < ws.length), j < i → knows ws[j] w = false) ∧ H' = H ++ X ∧ vs = [v, .fn (.func 93) [] [.ptr (some (b, 0))], I ws.length, I i]) ?_ ws.length ⟨0, [], rfl, by omega, by simp, rfl⟩
  rintro J hJ m vs H' f ⟨i, X, hm, hall, rfl, rfl⟩
  by_cases hi : i < ws.length
  · have hw := wrap_succ (i := i) (by omega)
    have h1 := hr.app (X := X)
    have hld := h1.load wrC_len hi
    have hcl : ∀ K, WCl envE 93 [.agg (wrC ws[i]), .ptr (some (b, 0))] lim (H ++ X) K = K (.bool (knows ws[i] w)) (H ++ X ++ [.cells false (wrC ws[i])]) := fun K => WCl_eq (c93 (cells_app hb) lim)
    cases hk : knows ws[i] w
    · simp [lp120_0, hi, hw, h1.at hi, hld, hcl, hk]
      exact nxt hJ (m - 1) (by omega) ⟨i + 1, X ++ [.cells false (wrC ws[i])], by omega, fun j hj hji => by
        rcases Nat.lt_or_ge j i with q | q
        · exact hall j hj q
        · obtain rfl : j = i := by omega
          exact hk, by simp, rfl⟩
    · have e : (ws.any fun x => knows x w) = true := by
        rw [List.any_eq_true]
        exact ⟨ws[i], List.getElem_mem _, hk⟩
      simp [lp120_0, hi, hw, h1.at hi, hld, hcl, hk]
      exact ⟨ws[i], List.getElem_mem _, hk⟩
  · have e : (ws.any fun x => knows x w) = false := by
      rw [List.any_eq_false]
      intro x hx
      obtain ⟨j, hj, rfl⟩ := List.mem_iff_getElem.1 hx
      rw [hall j hj (by omega)]
      simp
    simp [lp120_0, hi]
    intro x hx
    obtain ⟨j, hj, rfl⟩ := List.mem_iff_getElem.1 hx
    exact hall j hj (by omega)
theorem c92 {H : Heap} {b l2 : Nat} {w : Wr} {v : AV} {ws : List Wr} (hb : H.cells? b = some (wrC w)) (hr : Row l2 H 11 wrC ws v) (hl : ws.length < 4611686018427387904) (lim : Nat) (hlim : lim ≤ H.length) :
    WCl envE 92 [v, .fn (.func 93) [] [.ptr (some (b, 0))]] lim H fun r H' => r = .bool (ws.any fun x => knows x w) ∧ ∃ X, H' = H ++ X := by
  refine cl_of e92 rfl ?_
  rw [fr_init (by simp [fd92])]
  simp [fd92, b92]
  refine WCl.mono (c120 hb hr hl lim hlim) ?_
  rintro _ _ ⟨⟨n, rfl, hn⟩, X, rfl⟩
  simp
  rw [Bool.eq_iff_iff, decide_eq_true_eq, hn]
theorem c91 {H : Heap} {pm pk p l2 : Nat} {key : List UInt8} {w : Wr} {v : AV} {ws : List Wr} (h : MV l2 H p key v ws) (hm : H.cells? pm = some [.ptr (some (p, 0))]) (hk : H.cells? pk = some [.str key]) (hl : ws.length < 4611686018427387904) (lim : Nat) (hlim : lim ≤ H.length) :
    WCl envE 91 [.agg (wrC w), .ptr (some (pm, 0)), .ptr (some (pk, 0))] lim H fun r H' => r = .bool (freshW ws w) ∧ ∃ X, H' = H ++ X := by
  refine cl_of e91 rfl ?_
  rw [fr_init (by simp [fd91])]
  have h1 := h.app [.cells false (wrC w)]
  obtain ⟨⟨mi, es, ck, g1, g2, g3⟩, g4⟩ := h1
  have c1 := cells_app (X := [.cells false (wrC w)]) hm
  have c2 := cells_app (X := [.cells false (wrC w)]) hk
  have c3 := cells_of g1
  have c4 : Heap.cells? (H ++ [.cells false (wrC w)]) H.length = some (wrC w) := by simp [Heap.cells?]
  have hlim2 : lim ≤ H.length + 1 := by omega
  have hcall := fun lm hlm => c92 c4 g4 hl lm hlm
  rcases g3 with ⟨hfk, rfl⟩ | ⟨i, hfk⟩
  · simp [fd91, b91, c1, c2, c3, g2, hfk, isKey, hlim2]
    refine WCl.mono (hcall _ (by simp; omega)) ?_
    rintro _ _ ⟨rfl, X, rfl⟩
    simp [freshW]
  · simp [fd91, b91, c1, c2, c3, g2, hfk, isKey, hlim2]
    refine WCl.mono (hcall _ (by simp; omega)) ?_
    rintro _ _ ⟨rfl, X, rfl⟩
    simp [freshW]
theorem c90 {H : Heap} {p l2 g : Nat} {key : List UInt8} {v : AV} {ws : List Wr} {caps : List AV} {is' : Wr → Bool} (h : MV l2 H p key v ws) (hl : ws.length < 1000000000) (lim : Nat) (hlim : lim ≤ H.length)
    (hcl : ∀ (X : Heap) (w : Wr), WCl envE g (.agg (wrC w) :: caps) lim (H ++ X) fun r H' => r = .bool (is' w) ∧ ∃ Y, H' = H ++ X ++ Y) :
    WCl envE 90 [.ptr (some (p, 0)), .str key, .fn (.func g) [] caps] lim H fun r H' => ∃ X, H' = H ++ X ∧ Row H.length (H ++ X) 3 valC ((ws.filter is').map Wr.v) r := by
  refine cl_of e90 rfl ?_
  rw [fr_init (by simp [fd90])]
  obtain ⟨⟨mi, es, ck, g1, g2, g3⟩, g4⟩ := h
  have c3 := cells_of g1
  rcases g3 with ⟨hfk, rfl⟩ | ⟨i0, hfk⟩
  all_goals
    simp [fd90, b90, c3, g2, hfk, isKey, g4.len]
    refine loop_go [2, 7, 17, 18, 19] rfl (fun m vs H' => ∃ i X u x, m + i = ws.length ∧ H' = H ++ X ∧ Row H.length (H ++ X) 3 valC (((ws.take i).filter is').map Wr.v) u ∧ Row l2 H 11 wrC ws x ∧ vs = [.fn (.func g) [] caps, u, x, I ws.length, I i]) ?_ ws.length ⟨0, [], .nilsl, _, rfl, by simp, by simpa using Row.nil, g4, rfl⟩
    rintro J hJ m vs H' f ⟨i, X, u, x, hm, rfl, hu, hx, rfl⟩
    by_cases hi : i < ws.length
    · have hw := wrap_succ (i := i) (by omega)
      have hx1 := hx.app (X := X)
      have hld := hx1.load wrC_len hi
      obtain ⟨w, hwi⟩ : ∃ w, w = ws[i] := ⟨_, rfl⟩
      rw [← hwi] at hld
      have hstep : ((ws.take (i + 1)).filter is').map Wr.v = ((ws.take i).filter is').map Wr.v ++ (if is' w then [w.v] else []) := by
        rw [filter_take_succ hi, List.map_append, ← hwi]
        cases is' w <;> rfl
      have hlen : (((ws.take i).filter is').map Wr.v).length ≤ ws.length := by
        rw [List.length_map]
        exact filter_len_le
      have hlim2 : lim ≤ H.length + X.length := by omega
      have hc0 := hcl (X ++ [.cells false (wrC w)]) w
      simp [lp90_0, hi, hw, hx1.at hi, hld, hlim]
      refine WCl.mono hc0 ?_
      rintro _ _ ⟨rfl, Y, rfl⟩
      cases hk : is' w
      · simp [hw]
        refine nxt hJ (m - 1) (by omega) ⟨i + 1, X ++ .cells false (wrC w) :: Y, u, x, by omega, by simp, ?_, hx, rfl⟩
        rw [hstep, hk]
        have := hu.app (X := .cells false (wrC w) :: Y)
        simpa using this
      · have hu1 := hu.app (X := .cells false (wrC w) :: Y)
        rw [List.append_assoc] at hu1
        obtain ⟨v', X', e, hr'⟩ := Row.pushL (bytes := 32) (lim := lim) hlim valC_len (by omega) valC_one hu1 w.v (by simp only [most]; omega) (by simp only [most]; omega)
        simp at e
        have cw : Heap.cells? (H ++ (X ++ .cells false (wrC w) :: Y)) (H.length + X.length) = some (wrC w) := by
          simp [Heap.cells?]
        simp [cw, e, hw]
        refine nxt hJ (m - 1) (by omega) ⟨i + 1, X', v', x, by omega, rfl, ?_, hx, rfl⟩
        rw [hstep, hk]
        exact hr'
    · have e : ws.take i = ws := List.take_of_length_le (by omega)
      rw [e] at hu
      simp [lp90_0, hi]
      exact hu
theorem c57 {H : Heap} {p l2 : Nat} {key : List UInt8} {v : AV} {ws : List Wr} (h : MV l2 H p key v ws) (hl : ws.length < 1000000000) (lim : Nat) (hlim : lim ≤ H.length) :
    WCl envE 57 [.ptr (some (p, 0)), .str key] lim H fun r H' => ∃ X, H' = H ++ X ∧ Row H.length (H ++ X) 3 valC (ws.map Wr.v) r := by
  refine cl_of e57 rfl ?_
  rw [fr_init (by simp [fd57])]
  simp [fd57, b57]
  have e : ws.filter (fun _ => true) = ws := List.filter_eq_self.2 fun _ _ => rfl
  refine WCl.mono (c90 (is' := fun _ => true) (caps := []) h hl lim hlim fun X w => WCl.of (c94 w lim _) ⟨rfl, _, rfl⟩) ?_
  rintro r _ ⟨X, rfl, hr⟩
  rw [e] at hr
  simp
  exact hr
theorem c54 {H : Heap} {p l2 : Nat} {key : List UInt8} {v : AV} {ws : List Wr} (h : MV l2 H p key v ws) (hl : ws.length < 1000000000) (lim : Nat) (hlim : lim ≤ H.length) :
    WCl envE 54 [.ptr (some (p, 0)), .str key] lim H fun r H' => ∃ X, H' = H ++ X ∧ Row H.length (H ++ X) 3 valC (newestL ws) r := by
  refine cl_of e54 rfl ?_
  rw [fr_init (by simp [fd54])]
  simp [fd54, b54]
  have h1 := h.app [.cells false [.ptr (some (p, 0))], .cells false [.str key]]
  have g1 : Heap.cells? (H ++ [.cells false [.ptr (some (p, 0))], .cells false [.str key]]) H.length = some [.ptr (some (p, 0))] := by simp [Heap.cells?]
  have g2 : Heap.cells? (H ++ [.cells false [.ptr (some (p, 0))], .cells false [.str key]]) (H.length + 1) = some [.str key] := by simp [Heap.cells?]
  refine WCl.mono (c90 (is' := freshW ws) h1 hl lim (by simp; omega) fun X w => c91 (h1.app X) (cells_app g1) (cells_app g2) (by omega) lim (by simp; omega)) ?_
  rintro r _ ⟨X, rfl, hr⟩
  simp
  rw [List.append_assoc] at hr
  exact hr.mono (by simp)
/-- Does a bag have all that it must? -/
def coversB (ws : List Wr) (k : Nat → Int) (l : List Val) : Bool := bagMay k l && ((ws.all fun w => has k w.v.node w.v.n) && ((newestL ws).all fun v => decide (v ∈ l)))
theorem c119 (l : List Val) (v : Val) (hl : l.length < 4611686018427387904) : ∃ n : Int, Pu envE 119 [roL valC l, .agg (valC v)] (I n) ∧ (0 ≤ n ↔ v ∈ l) := by
  suffices h : ∃ d, Pu envE 119 [roL valC l, .agg (valC v)] d ∧ ∃ n : Int, d = I n ∧ (0 ≤ n ↔ v ∈ l) by
    obtain ⟨_, h1, n, rfl, h2⟩ := h
    exact ⟨n, h1, h2⟩
  refine pu_ex e119 rfl ?_
  rw [fr_init (by simp [fd119])]
  simp [fd119, b119]
  refine loop_go [0, 3, 7, 8] rfl (fun m vs H => ∃ i, m + i = l.length ∧ (∀ j (hj : j < l.length), j < i → ¬ v = l[j]) ∧ H = [.cells false (valC v)] ∧ vs = [roL valC l, .ptr (some (0, 0)), I l.length, I i]) ?_ l.length ⟨0, rfl, by omega, rfl, rfl⟩
  rintro J hJ m vs H b ⟨i, hm, hall, rfl, rfl⟩
  by_cases hi : i < l.length
  · have hw := wrap_succ (i := i) (by omega)
    have hld := valC_load hi (H := [.cells false (valC v)])
    by_cases hv : v = l[i]
    · have : l[i] ∈ l := List.getElem_mem _
      simp [lp119_0, hi, hw, idxSl_roL hi, hld, ← hv, -load_tp]
      rw [hv]
      exact this
    · simp [lp119_0, hi, hw, idxSl_roL hi, hld, hv, -load_tp]
      exact nxt hJ (m - 1) (by omega) ⟨i + 1, by omega, fun j hj hji => by
        rcases Nat.lt_or_ge j i with q | q
        · exact hall j hj q
        · obtain rfl : j = i := by omega
          exact hv, rfl, rfl⟩
  · have e : ¬ v ∈ l := fun hx => by
      obtain ⟨j, hj, he⟩ := List.mem_iff_getElem.1 hx
      exact hall j hj (by omega) he.symm
    simp [lp119_0, hi, e]
theorem c89 (l : List Val) (v : Val) (hl : l.length < 4611686018427387904) : Pu envE 89 [roL valC l, .agg (valC v)] (.bool (decide (v ∈ l))) := by
  refine pu_is e89 rfl ?_
  rw [fr_init (by simp [fd89])]
  obtain ⟨n, h1, h2⟩ := c119 l v hl
  simp [fd89, b89, wPu_eq h1]
  exact h2
@[simp] theorem k89 {l : List Val} {v : Val} {H : Heap} {K : AV → Heap → Prop} (hl : l.length < 4611686018427387904) : wPu envE 89 (some [roL valC l, .agg (valC v)]) H K = K (.bool (decide (v ∈ l))) H := (wPu_eq (c89 l v hl)).trans (by simp)
theorem c51 {H : Heap} {p l2 : Nat} {key : List UInt8} {v q : AV} {ws : List Wr} {k : Nat → Int} {l : List Val} (h : MV l2 H p key v ws) (hl : ws.length < 1000000000) (hq : ∀ Z, frz (H ++ Z) 12 q = some (roL valC l)) (hq1 : ∀ Z, frz (H ++ Z) 11 q = some (roL valC l)) (ho : AV.one q = true) (hll : l.length < 4611686018427387904) (lim : Nat) (hlim : lim ≤ H.length) :
    WCl envE 51 [.ptr (some (p, 0)), .str key, .agg (bagV k q)] lim H fun r H' => r = .bool (coversB ws k l) ∧ ∃ X, H' = H ++ X := by
  refine cl_of e51 rfl ?_
  rw [fr_init (by simp [fd51])]
  by_cases hm : bagMay k l = true
  case neg =>
    simp [fd51, b51, ho, hq1, hll, hm, coversB]
  simp [fd51, b51, ho, hq1, hll, hm]
  have h1 := h.app [.cells false (bagV k q)]
  refine WCl.mono (c57 h1 hl lim (by simp; omega)) ?_
  rintro r _ ⟨X, rfl, hr⟩
  obtain ⟨H1, hH1⟩ : ∃ H1, H1 = H ++ [ABlk.cells false (bagV k q)] ++ X := ⟨_, rfl⟩
  rw [← hH1] at hr ⊢
  have h2 : MV l2 H1 p key v ws := by rw [hH1]; exact h1.app X
  have cb : H1.cells? H.length = some (bagV k q) := by rw [hH1]; simp [Heap.cells?]
  have hq2 : ∀ Z, frz (H1 ++ Z) 12 q = some (roL valC l) := fun Z => by rw [hH1, List.append_assoc, List.append_assoc]; exact hq _
  have hlen := hr.len
  have hlim1 : lim ≤ H1.length := by rw [hH1]; simp; omega
  have hpre : ∃ X, H1 = H ++ X := ⟨_, by rw [hH1, List.append_assoc]⟩
  simp [hlen]
  refine loop_go [0, 1, 5, 20, 21, 22] rfl (fun m vs H' => ∃ i X, m + i = ws.length ∧ (∀ j (hj : j < ws.length), j < i → has k ws[j].v.node ws[j].v.n = true) ∧ H' = H1 ++ X ∧ vs = [.ptr (some (p, 0)), .str key, .ptr (some (H.length, 0)), r, I ws.length, I i]) ?_ ws.length ⟨0, [], rfl, by omega, by simp, rfl⟩
  rintro J hJ m vs H' f ⟨i, X2, hm2, hall, rfl, rfl⟩
  by_cases hi : i < ws.length
  · have hw := wrap_succ (i := i) (by omega)
    have hi' : i < (ws.map Wr.v).length := by simpa using hi
    have hr1 := hr.app (X := X2)
    have hld := hr1.load valC_len hi'
    have hat := hr1.at (k := .i64) hi'
    have cb1 := cells_app (X := X2 ++ [.cells false (valC ws[i].v)]) cb
    have cb2 := cells_app (X := X2) cb
    simp at hld
    by_cases hh : has k ws[i].v.node ws[i].v.n = true
    · simp [lp51_0, hi, hw, hat, hld, cb1, cb2, hlim1, hh]
      exact nxt hJ (m - 1) (by omega) ⟨i + 1, X2 ++ [.cells false (valC ws[i].v)], by omega, fun j hj hji => by
        rcases Nat.lt_or_ge j i with q | q
        · exact hall j hj q
        · obtain rfl : j = i := by omega
          exact hh, by simp, rfl⟩
    · have e : (ws.all fun w => has k w.v.node w.v.n) = false := by
        rw [List.all_eq_false]
        exact ⟨ws[i], List.getElem_mem _, hh⟩
      have e2 : coversB ws k l = false := by simp [coversB, e]
      obtain ⟨X0, hX0⟩ := hpre
      simp [lp51_0, hi, hw, hat, hld, cb1, cb2, hlim1, hh, e2]
      exact ⟨X0 ++ (X2 ++ [.cells false (valC ws[i].v)]), by rw [hX0]; simp⟩
  have hallw : (ws.all fun w => has k w.v.node w.v.n) = true := by
    rw [List.all_eq_true]
    intro x hx
    obtain ⟨j, hj, rfl⟩ := List.mem_iff_getElem.1 hx
    exact hall j hj (by omega)
  simp [lp51_0, hi]
  refine WCl.mono (c54 (h2.app X2) hl lim (by simp; omega)) ?_
  rintro r3 _ ⟨X3, rfl, hr3⟩
  obtain ⟨H3, hH3⟩ : ∃ H3, H3 = H1 ++ X2 ++ X3 := ⟨_, rfl⟩
  rw [← hH3] at hr3 ⊢
  have cb3 : H3.cells? H.length = some (bagV k q) := by rw [hH3, List.append_assoc]; exact cells_app cb
  have hq3 : ∀ Z, frz (H3 ++ Z) 12 q = some (roL valC l) := fun Z => by rw [hH3, List.append_assoc, List.append_assoc]; exact hq2 _
  have hnl : (newestL ws).length ≤ ws.length := by rw [newestL, List.length_map]; exact List.length_filter_le _ _
  have hpre3 : ∃ X, H3 = H ++ X := by
    obtain ⟨X0, hX0⟩ := hpre
    exact ⟨X0 ++ (X2 ++ X3), by rw [hH3, hX0]; simp⟩
  simp [hr3.len]
  refine loop_go [5, 35, 36, 37] rfl (fun m vs H' => ∃ i X, m + i = (newestL ws).length ∧ (∀ j (hj : j < (newestL ws).length), j < i → (newestL ws)[j] ∈ l) ∧ H' = H3 ++ X ∧ vs = [.ptr (some (H.length, 0)), r3, I (newestL ws).length, I i]) ?_ (newestL ws).length ⟨0, [], rfl, by omega, by simp, rfl⟩
  rintro J2 hJ2 m3 vs H' f2 ⟨i3, X4, hm3, hall3, rfl, rfl⟩
  by_cases hi3 : i3 < (newestL ws).length
  · have hw := wrap_succ (i := i3) (by omega)
    have hlim4 : lim ≤ H3.length := by rw [hH3]; simp; omega
    have hr4 := hr3.app (X := X4)
    have hld := hr4.load valC_len hi3
    have hat := hr4.at (k := .i64) hi3
    obtain ⟨y, hy⟩ : ∃ y, y = (newestL ws)[i3] := ⟨_, rfl⟩
    rw [← hy] at hld
    have cb4 := cells_app (X := X4 ++ [.cells false (valC y)]) cb3
    have hq4 := hq3 (X4 ++ [.cells false (valC y)])
    by_cases hh : y ∈ l
    · simp [lp51_1, hi3, hw, hat, hld, cb4, hq4, hll, hlim4, hh]
      exact nxt hJ2 (m3 - 1) (by omega) ⟨i3 + 1, X4 ++ [.cells false (valC y)], by omega, fun j hj hji => by
        rcases Nat.lt_or_ge j i3 with q | q
        · exact hall3 j hj q
        · obtain rfl : j = i3 := by omega
          exact hy ▸ hh, by simp, rfl⟩
    · have e : ((newestL ws).all fun v => decide (v ∈ l)) = false := by
        rw [List.all_eq_false]
        exact ⟨y, by rw [hy]; exact List.getElem_mem _, by simpa using hh⟩
      have e2 : coversB ws k l = false := by simp only [coversB, e, Bool.and_false]
      obtain ⟨X0, hX0⟩ := hpre3
      simp [lp51_1, hi3, hw, hat, hld, cb4, hq4, hll, hlim4, hh, e2]
      exact ⟨X0 ++ (X4 ++ [.cells false (valC y)]), by rw [hX0]; simp⟩
  · have e : ((newestL ws).all fun v => decide (v ∈ l)) = true := by
      rw [List.all_eq_true]
      intro x hx
      obtain ⟨j, hj, rfl⟩ := List.mem_iff_getElem.1 hx
      simpa using hall3 j hj (by omega)
    have e2 : coversB ws k l = true := by simp only [coversB, hm, hallw, e, Bool.and_self]
    obtain ⟨X0, hX0⟩ := hpre3
    simp [lp51_1, hi3, e2]
    exact ⟨X0 ++ X4, by rw [hX0]; simp⟩
end Go.Proofs.YtkmikfhfjjmobaaA

/- What Join, Below and Put of bags answer. No statement about the program is proved here. -/
import Derived.Test.YtflgfiieaoeknaaGreatC2
namespace Go.Proofs.YtflgfiieaoeknaaGreatA
open Go
set_option linter.unusedSimpArgs false
set_option maxRecDepth 1000000

/-- The values of a bag that another one has, too, or does not know. -/
def keeps (k : Nat → Int) (r : List Val) (v : Val) : Bool := isAt r v.node v.n || !has k v.node v.n
def staysL (l : List Val) (k : Nat → Int) (r : List Val) : List Val := l.filter (keeps k r)

theorem filter_take_succ {α : Type} {p : α → Bool} {l : List α} {i : Nat} (hi : i < l.length) : (l.take (i + 1)).filter p = (l.take i).filter p ++ (if p l[i] then [l[i]] else []) := by
  rw [List.take_succ_eq_append_getElem hi, List.filter_append]
  cases h : p l[i] <;> simp [h]
theorem filter_len_le {α : Type} {p : α → Bool} {l : List α} {i : Nat} : ((l.take i).filter p).length ≤ l.length := by
  have h1 := List.length_filter_le p (l.take i)
  have h2 := List.length_take_le' i l
  omega

theorem c110 (ka kb : Nat → Int) (la lb : List Val) (hb : Asc lb) (hla : la.length < 1000000) (hlb : lb.length < 1000000) : Pu envE 110 [.agg (bagV ka (roL valC la)), .agg (bagV kb (roL valC lb))] (owL 3 valC (staysL la kb lb)) := by
  refine pu_is e110 rfl ?_
  rw [fr_init (by simp [fd110])]
  simp [fd110, b110]
  refine loop_go [3, 5, 11, 12, 13] rfl (fun m vs H => ∃ i X v, m + i = la.length ∧ Row 2 (.cells false (bagV ka (roL valC la)) :: .cells false (bagV kb (roL valC lb)) :: X) 3 valC ((la.take i).filter (keeps kb lb)) v ∧ H = .cells false (bagV ka (roL valC la)) :: .cells false (bagV kb (roL valC lb)) :: X ∧ vs = [.ptr (some (1, 0)), v, roL valC la, I la.length, I i]) ?_ la.length ⟨0, [], .nilsl, rfl, .nil, rfl, rfl⟩
  rintro J hJ m vs H b ⟨i, X, v, hm, hr, rfl, rfl⟩
  by_cases hi : i < la.length
  · have hw := wrap_succ (i := i) (by omega)
    have hld := valC_load hi (H := .cells false (bagV ka (roL valC la)) :: .cells false (bagV kb (roL valC lb)) :: X)
    have hll : lb.length < 4611686018427387904 := by omega
    by_cases hk : keeps kb lb la[i] = true
    · have hlen := filter_len_le (p := keeps kb lb) (l := la) (i := i)
      obtain ⟨v', X', e, hr'⟩ := Row.push (bytes := 32) (P := [_, _]) (Z := [.cells false (valC la[i])]) valC_len (by omega) valC_one hr la[i] (by simp only [most]; omega) (by simp only [most]; omega)
      simp at e
      have next : Row 2 (.cells false (bagV ka (roL valC la)) :: .cells false (bagV kb (roL valC lb)) :: X') 3 valC ((la.take (i + 1)).filter (keeps kb lb)) v' := by
        rw [filter_take_succ hi, if_pos hk]
        exact hr'
      by_cases ha : isAt lb la[i].node la[i].n = true
      · simp [lp110_0, hi, hw, idxSl_roL hi, hld, hb, hll, ha, e, -load_tp]
        exact nxt hJ (m - 1) (by omega) ⟨i + 1, _, _, by omega, next, rfl, rfl⟩
      · have hh : has kb la[i].node la[i].n = false := by simpa [keeps, ha] using hk
        simp [lp110_0, hi, hw, idxSl_roL hi, hld, hb, hll, ha, hh, e, -load_tp]
        exact nxt hJ (m - 1) (by omega) ⟨i + 1, _, _, by omega, next, rfl, rfl⟩
    · have hk2 := hk
      simp only [keeps, Bool.or_eq_true, not_or, Bool.not_eq_true, Bool.not_eq_false'] at hk2
      have next : Row 2 (.cells false (bagV ka (roL valC la)) :: .cells false (bagV kb (roL valC lb)) :: (X ++ [.cells false (valC la[i])])) 3 valC ((la.take (i + 1)).filter (keeps kb lb)) v := by
        rw [filter_take_succ hi, if_neg hk, List.append_nil]
        exact hr.app (X := [.cells false (valC la[i])])
      simp [lp110_0, hi, hw, idxSl_roL hi, hld, hb, hll, hk2.1, hk2.2, -load_tp]
      exact nxt hJ (m - 1) (by omega) ⟨i + 1, _, _, by omega, next, rfl, rfl⟩
  · have hf : (la.take i).filter (keeps kb lb) = staysL la kb lb := by rw [List.take_of_length_le (by omega)]; rfl
    rw [hf] at hr
    obtain ⟨u, ho, hn, _⟩ := hr.own (d := 10) valC_len (by omega) val_plain
    simp [lp110_0, hi, ho, hn]
theorem k110 {ka kb : Nat → Int} {la lb : List Val} {H : Heap} {K : AV → Heap → Prop} (hb : Asc lb) (hla : la.length < 1000000) (hlb : lb.length < 1000000) : wPu envE 110 (some [.agg (bagV ka (roL valC la)), .agg (bagV kb (roL valC lb))]) H K = K (thaw (owL 3 valC (staysL la kb lb)) H).1 (thaw (owL 3 valC (staysL la kb lb)) H).2 := wPu_eq (c110 ka kb la lb hb hla hlb)

/-! ## Putting in -/
def insV (l : List Val) (v : Val) : List Val := l.take (pos l v.node v.n) ++ v :: l.drop (pos l v.node v.n)
def putIn (l : List Val) (v : Val) : List Val := if isAt l v.node v.n then l else insV l v
theorem takeWhile_len {α : Type} {p : α → Bool} : ∀ {l : List α}, l.take (l.takeWhile p).length = l.takeWhile p ∧ l.drop (l.takeWhile p).length = l.dropWhile p
  | [] => by simp
  | a :: l => by
    cases h : p a
    · simp [List.takeWhile_cons, List.dropWhile_cons, h]
    · simp [List.takeWhile_cons, List.dropWhile_cons, h, takeWhile_len (l := l)]
theorem insV_eq {l : List Val} {v : Val} : insV l v = l.takeWhile (below v.node v.n) ++ v :: l.dropWhile (below v.node v.n) := by
  unfold insV pos
  rw [takeWhile_len.1, takeWhile_len.2]
theorem mem_insV {l : List Val} {v u : Val} : u ∈ insV l v ↔ u = v ∨ u ∈ l := by
  have e : l.takeWhile (below v.node v.n) ++ l.dropWhile (below v.node v.n) = l := List.takeWhile_append_dropWhile
  rw [insV_eq]
  constructor
  · intro h
    rcases List.mem_append.1 h with h | h
    · exact .inr (by rw [← e]; exact List.mem_append_left _ h)
    · rcases List.mem_cons.1 h with h | h
      · exact .inl h
      · exact .inr (by rw [← e]; exact List.mem_append_right _ h)
  · rintro (rfl | h)
    · simp
    · rw [← e] at h
      rcases List.mem_append.1 h with h | h
      · exact List.mem_append_left _ h
      · exact List.mem_append_right _ (.tail _ h)
theorem insV_len {l : List Val} {v : Val} : (insV l v).length = l.length + 1 := by
  have e : l.takeWhile (below v.node v.n) ++ l.dropWhile (below v.node v.n) = l := List.takeWhile_append_dropWhile
  have := congrArg List.length e
  rw [List.length_append] at this
  rw [insV_eq]
  simp
  omega
theorem pos_le {l : List Val} {a c : Int} : pos l a c ≤ l.length := by
  have e : l.takeWhile (below a c) ++ l.dropWhile (below a c) = l := List.takeWhile_append_dropWhile
  have := congrArg List.length e
  rw [List.length_append] at this
  unfold pos
  omega
theorem takeWhile_all {α : Type} {p : α → Bool} : ∀ {l : List α} {x : α}, x ∈ l.takeWhile p → p x = true
  | a :: l, x, h => by
    cases e : p a
    · simp [List.takeWhile_cons, e] at h
    · simp [List.takeWhile_cons, e] at h
      rcases h with rfl | h
      · exact e
      · exact takeWhile_all h
theorem dropWhile_first {α : Type} {p : α → Bool} : ∀ {l : List α} {x : α} {r : List α}, l.dropWhile p = x :: r → p x = false
  | a :: l, x, r, h => by
    cases e : p a
    · simp [List.dropWhile_cons, e] at h
      rw [← h.1]; exact e
    · simp [List.dropWhile_cons, e] at h
      exact dropWhile_first h
theorem insV_asc {l : List Val} {v : Val} (h : Asc l) (ha : isAt l v.node v.n = false) : Asc (insV l v) := by
  have e : l.takeWhile (below v.node v.n) ++ l.dropWhile (below v.node v.n) = l := List.takeWhile_append_dropWhile
  have h' := h
  rw [← e] at h'
  unfold Asc at h' ⊢
  rw [List.pairwise_append] at h'
  obtain ⟨h1, h2, h3⟩ := h'
  have lo : ∀ u ∈ l.takeWhile (below v.node v.n), dlt u v = true := fun u hu => by
    have := takeWhile_all hu
    simpa [below, dlt] using this
  have hi : ∀ u ∈ l.dropWhile (below v.node v.n), dlt v u = true := fun u hu => by
    cases hd : l.dropWhile (below v.node v.n) with
    | nil => rw [hd] at hu; cases hu
    | cons x r =>
      have hx := dropWhile_first hd
      have hxl : x ∈ l := by rw [← e, hd]; simp
      have hne : ¬ (x.node = v.node ∧ x.n = v.n) := fun q => by
        have : isAt l v.node v.n = true := by simp only [isAt, List.any_eq_true, decide_eq_true_eq]; exact ⟨x, hxl, q⟩
        rw [ha] at this; cases this
      have hvx : dlt v x = true := by
        simp only [below, decide_eq_false_iff_not, dot_neg] at hx
        rw [dlt_iff]
        omega
      rw [hd] at hu h2
      rcases List.mem_cons.1 hu with rfl | hu
      · exact hvx
      · exact dlt_trans hvx (List.rel_of_pairwise_cons h2 hu)
  rw [insV_eq, List.pairwise_append, List.pairwise_cons]
  exact ⟨h1, ⟨hi, h2⟩, fun u hu w hw => by
    rcases List.mem_cons.1 hw with rfl | hw
    · exact lo u hu
    · exact dlt_trans (lo u hu) (hi w hw)⟩
theorem putIn_yes {l : List Val} {v : Val} (h : isAt l v.node v.n = true) : putIn l v = l := if_pos h
theorem putIn_no {l : List Val} {v : Val} (h : ¬ isAt l v.node v.n = true) : putIn l v = insV l v := if_neg h
theorem putIn_asc {l : List Val} {v : Val} (h : Asc l) : Asc (putIn l v) := by
  unfold putIn
  cases e : isAt l v.node v.n
  · simpa using insV_asc h e
  · simpa using h
theorem putIn_len {l : List Val} {v : Val} : (putIn l v).length ≤ l.length + 1 := by
  unfold putIn
  split
  · omega
  · rw [insV_len]; omega
theorem fold_asc : ∀ {s l : List Val}, Asc l → Asc (s.foldl putIn l)
  | [], l, h => h
  | v :: s, l, h => fold_asc (s := s) (putIn_asc h)
theorem fold_len : ∀ {s l : List Val}, (s.foldl putIn l).length ≤ l.length + s.length
  | [], l => by simp
  | v :: s, l => by
    have h1 := fold_len (s := s) (l := putIn l v)
    have h2 := putIn_len (l := l) (v := v)
    simp only [List.foldl_cons, List.length_cons]
    omega
theorem stays_asc {l r : List Val} {k : Nat → Int} (h : Asc l) : Asc (staysL l k r) := List.Pairwise.filter _ h
theorem stays_len {l r : List Val} {k : Nat → Int} : (staysL l k r).length ≤ l.length := List.length_filter_le _ _

def joinL (ka : Nat → Int) (la : List Val) (kb : Nat → Int) (lb : List Val) : List Val := (staysL lb ka la).foldl putIn (staysL la kb lb)
/-- Why two bags are not joined; 0: they are. -/
def joinE (ka : Nat → Int) (la : List Val) (kb : Nat → Int) (lb : List Val) : Int := if bagMay ka la && bagMay kb lb then (if 32 < (joinL ka la kb lb).length then 5 else 0) else 1
def joinK (ka : Nat → Int) (la : List Val) (kb : Nat → Int) (lb : List Val) : Nat → Int := if joinE ka la kb lb = 0 then joinV ka kb else zeroV
def joinR (ka : Nat → Int) (la : List Val) (kb : Nat → Int) (lb : List Val) : List Val := if joinE ka la kb lb = 0 then joinL ka la kb lb else []

attribute [local simp] bagV_zero
theorem e112 : envE.fn 112 = some (.prim (insertG 3 32)) := rfl
theorem c69 (ka kb : Nat → Int) (la lb : List Val) (hla : la.length < 4611686018427387904) (hlb : lb.length < 4611686018427387904) : Pu envE 69 [.agg (bagV ka (roL valC la)), .agg (bagV kb (roL valC lb))] (.tup [.agg (bagV (joinK ka la kb lb) (owL 3 valC (joinR ka la kb lb))), I (joinE ka la kb lb)]) := by
  refine pu_is e69 rfl ?_
  rw [fr_init (by simp [fd69])]
  by_cases ma : bagMay ka la = true
  case neg => simp [fd69, b69, hla, hlb, ma, joinE, joinK, joinR, owL]
  by_cases mb : bagMay kb lb = true
  case neg => simp [fd69, b69, hla, hlb, ma, mb, joinE, joinK, joinR, owL]
  have sa := may_asc ma
  have sb := may_asc mb
  have na := may_len ma
  have nb := may_len mb
  have na6 : la.length < 1000000 := by omega
  have nb6 : lb.length < 1000000 := by omega
  obtain ⟨v0, X0, e0, r0⟩ := thaw_owL (H := [.cells false (bagV ka (roL valC la)), .cells false (bagV kb (roL valC lb)), .cells false (bagV zeroV .nilsl)]) (lim := 3) (es := 3) val_still (by simp) (staysL la kb lb)
  obtain ⟨v2, X2, e2, r2⟩ := thaw_owL (H := .cells false (bagV ka (roL valC la)) :: .cells false (bagV kb (roL valC lb)) :: .cells false (bagV zeroV .nilsl) :: (X0 ++ [.cells false (bagV (joinV ka kb) v0)])) (lim := X0.length + 4) (es := 3) val_still (by simp) (staysL lb ka la)
  simp [fd69, b69, hla, hlb, ma, mb, k110, sa, sb, na6, nb6, e0, e2, r0.cells, r0.one, r2.len]
  obtain ⟨o, ho⟩ : ∃ o, o = X0.length + 3 := ⟨_, rfl⟩
  obtain ⟨A, hA⟩ : ∃ A, A = staysL la kb lb := ⟨_, rfl⟩
  obtain ⟨S, hS⟩ : ∃ S, S = staysL lb ka la := ⟨_, rfl⟩
  have hAl : A.length ≤ 32 := by rw [hA]; exact Nat.le_trans stays_len na
  have hSl : S.length ≤ 32 := by rw [hS]; exact Nat.le_trans stays_len nb
  have hAa : Asc A := by rw [hA]; exact stays_asc sa
  rw [← hA] at r0
  rw [← hS] at r2 ⊢
  have off2 : ∀ b2, X0.length + 4 ≤ b2 → Off v0 b2 := fun b2 hb => r0.off_ge (by simp; omega)
  refine loop_go [4, 6, 31, 32, 33] rfl (fun m vs H => ∃ i v, m + i = S.length ∧ H[2]? = some (.cells false (bagV zeroV .nilsl)) ∧ H[o]? = some (.cells false (bagV (joinV ka kb) v)) ∧ Row 0 H 3 valC ((S.take i).foldl putIn A) v ∧ Off v 2 ∧ Off v o ∧
    (S ≠ [] → ∃ b2, v2 = .sl b2 0 S.length 3 ∧ H[b2]? = some (.cells true (S.flatMap valC)) ∧ Off v b2 ∧ o ≠ b2) ∧ vs = [.ptr (some (2, 0)), .ptr (some (o, 0)), v2, I S.length, I i]) ?_ S.length ⟨0, v0, rfl, by simp, ?_, ?_, r0.off (by omega), r0.off_ge (by simp; omega), ?_, by simp [look, ho]⟩
  rotate_left
  · subst ho; simp
  · have := (r0.mono (Nat.zero_le _)).app (X := .cells false (bagV (joinV ka kb) v0) :: X2)
    simpa using this
  · intro hne
    rcases r2 with ⟨q, _⟩ | ⟨_, b2, g1, g2, g3⟩
    · exact absurd q hne
    · exact ⟨b2, g2, by simpa using g3, off2 b2 g1, by omega⟩
  rintro J hJ m vs H b ⟨i, v, hm, h2, hO, hr, hvt, hvo, hv2, rfl⟩
  have ho2 : 2 < o := by omega
  have hlO := lt_of hO
  have hl2 := lt_of h2
  have hacc : ((S.take i).foldl putIn A).length ≤ 64 := by
    have := fold_len (s := S.take i) (l := A)
    have := List.length_take_le' i S
    omega
  have hasc : Asc ((S.take i).foldl putIn A) := fold_asc hAa
  by_cases hi : i < S.length
  · have hw := wrap_succ (i := i) (by omega)
    obtain ⟨b2, rfl, h3, hv3, hob⟩ := hv2 (fun q => by rw [q] at hi; simp at hi)
    have c3 := cells_of h3
    have ct : cut (S.flatMap valC) (i * 3) 3 = some (valC S[i]) := cut_flat valC_len hi
    have cO : ∀ X, Heap.cells? (H ++ X) o = some (bagV (joinV ka kb) v) := fun X => cells_of (get_app hO)
    have fz : ∀ X, frz (H ++ X) 12 v = some (roL valC ((S.take i).foldl putIn A)) := fun X => (hr.app).frz (d := 10) valC_len val_flat
    have hll : ((S.take i).foldl putIn A).length < 4611686018427387904 := by omega
    have hstep : (S.take (i + 1)).foldl putIn A = putIn ((S.take i).foldl putIn A) S[i] := by
      rw [List.take_succ_eq_append_getElem hi, List.foldl_append]; rfl
    by_cases hat : isAt ((S.take i).foldl putIn A) S[i].node S[i].n = true
    · simp [lp69_0, hi, hw, idxSl_sl hi, c3, ct, cO, fz, hasc, hll, hat]
      refine nxt hJ (m - 1) (by omega) ⟨i + 1, v, by omega, get_app h2, get_app hO, ?_, hvt, hvo, fun _ => ⟨b2, rfl, get_app h3, hv3, hob⟩, rfl⟩
      rw [hstep, putIn_yes hat]
      exact hr.app
    · have hel : elems (H ++ [.cells false (valC S[i]), .cells true (valC S[i])]) 3 (.sl (H.length + 1) 0 1 3) = some (1, valC S[i]) := by simp [elems, Heap.cells?]
      obtain ⟨v', H', e, hr', hlen, hkeep, hoff⟩ := (hr.app (X := [.cells false (valC S[i]), .cells true (valC S[i])])).insert2 (bytes := 32) valC_len (by omega) valC_one S[i] (pos ((S.take i).foldl putIn A) S[i].node S[i].n) pos_le hel (hr.off_ge (by omega)) (by simp only [most]; omega) (by simp only [most]; omega) (by simp)
      have hcall : ∀ K, WCl envE 112 [v, I (pos ((S.take i).foldl putIn A) S[i].node S[i].n), .sl (H.length + 1) 0 1 3] 0 (H ++ [.cells false (valC S[i]), .cells true (valC S[i])]) K = K v' H' := fun K => WCl_eq (cl_prim e112 e)
      have hO' := hkeep o _ (get_app hO) hvo
      have hst := store_of (lim := 0) (n := 1) (o := 8) (v := v') hO' (by omega) (by simp [hr'.cells]) (by simp) (by simp [hr'.cells, hr'.one])
      rw [hr'.cells] at hst
      simp at hst
      simp [lp69_0, hi, hw, idxSl_sl hi, c3, ct, cO, fz, hasc, hll, hat, hcall, hst]
      have hlH : H.length < (H ++ [ABlk.cells false (valC S[i]), .cells true (valC S[i])]).length := by simp
      refine nxt hJ (m - 1) (by omega) ⟨i + 1, v', by omega, get_set (hkeep 2 _ (get_app h2) hvt) (by omega), List.getElem?_set_self (lt_of hO'), ?_, hoff 2 (by omega), hoff o (by omega), fun _ => ⟨b2, rfl, get_set (hkeep b2 _ (get_app h3) hv3) hob, hoff b2 (by have := lt_of h3; omega), hob⟩, rfl⟩
      rw [hstep, putIn_no hat]
      exact hr'.set (hoff o (by omega))
  · have hT : (S.take i).foldl putIn A = joinL ka la kb lb := by rw [List.take_of_length_le (by omega), hA, hS]; rfl
    rw [hT] at hr
    have cO := cells_of hO
    by_cases h32 : 32 < (joinL ka la kb lb).length
    · have h32' : (32 : Int) < (joinL ka la kb lb).length := by omega
      have hst := store_of (lim := 0) (n := 9) (o := 0) (v := .agg (bagV zeroV .nilsl)) h2 (by omega) (by simp) (by simp) (by simp)
      simp at hst
      have c2 : Heap.cells? (H.set 2 (.cells false (bagV zeroV .nilsl))) 2 = some (bagV zeroV .nilsl) := cells_of (List.getElem?_set_self hl2)
      simp [lp69_0, hi, cO, hr.len, h32, h32', hst, c2, joinE, joinK, joinR, ma, mb, owL]
    · have h32' : ¬ (32 : Int) < (joinL ka la kb lb).length := by omega
      have hst := store_of (lim := 0) (n := 9) (o := 0) (v := .agg (bagV (joinV ka kb) v)) h2 (by omega) (by simp) (by simp) (by simp [hr.one])
      simp at hst
      have c2 : Heap.cells? (H.set 2 (.cells false (bagV (joinV ka kb) v))) 2 = some (bagV (joinV ka kb) v) := cells_of (List.getElem?_set_self hl2)
      obtain ⟨u, hu, hn, _⟩ := (hr.set (z := .cells false (bagV (joinV ka kb) v)) hvt).own (d := 8) valC_len (by omega) val_plain
      simp [lp69_0, hi, cO, hr.len, h32, h32', hst, c2, joinE, joinK, joinR, ma, mb, hu, hn]
theorem k69 {ka kb : Nat → Int} {la lb : List Val} {H : Heap} {K : AV → Heap → Prop} (hla : la.length < 4611686018427387904) (hlb : lb.length < 4611686018427387904) : wPu envE 69 (some [.agg (bagV ka (roL valC la)), .agg (bagV kb (roL valC lb))]) H K = K (.tup [.agg (bagV (joinK ka la kb lb) (thaw (owL 3 valC (joinR ka la kb lb)) H).1), I (joinE ka la kb lb)]) (thaw (owL 3 valC (joinR ka la kb lb)) H).2 := (wPu_eq (c69 ka kb la lb hla hlb)).trans (by simp)
end Go.Proofs.YtflgfiieaoeknaaGreatA

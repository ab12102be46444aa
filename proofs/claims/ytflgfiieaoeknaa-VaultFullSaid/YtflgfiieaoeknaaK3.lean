/- Keys of parts, in plain words. No program is in sight here. -/
import Derived.Test.YtflgfiieaoeknaaV8
namespace Go.Proofs.YtflgfiieaoeknaaA
open Go
set_option linter.unusedSimpArgs false
set_option linter.unusedVariables false

def addK (ks : List (List UInt8)) (key : List UInt8) : List (List UInt8) := if key ∈ ks then ks else ks ++ [key]
theorem VOk.putV {s : VSt} (ok : VOk s) {node : Int} {key : List UInt8} {known : Nat → Int} {data : List UInt8} : VOk (putO s node key known data).s := by
  unfold putO
  split
  · exact ok
  · split
    · exact ok
    · split
      · exact ok
      · split
        · split
          · exact ok.wrote ⟨putR_fit, Nat.zero_le _⟩
          · exact ok
        · exact ok
theorem put_keys {s : VSt} {node : Int} {key : List UInt8} {known : Nat → Int} {data : List UInt8} :
    ((putO s node key known data).e = 0 ∧ keyOk key = true ∧ (putO s node key known data).s.bags.map Prod.fst = addK (s.bags.map Prod.fst) key ∧ (putO s node key known data).s.ds.length = s.ds.length + 1 ∧ (putO s node key known data).s.room = s.room) ∨ ((putO s node key known data).e ≠ 0 ∧ (putO s node key known data).s = s) := by
  unfold putO
  split
  · exact .inr ⟨by show (1 : Int) ≠ 0; omega, rfl⟩
  · rename_i h1
    have hk : keyOk key = true := by
      cases h : keyOk key
      · exact absurd (.inr (.inr h)) h1
      · rfl
    split
    · exact .inr ⟨by show (6 : Int) ≠ 0; omega, rfl⟩
    · split
      · exact .inr ⟨by show (5 : Int) ≠ 0; omega, rfl⟩
      · split
        · split
          · rename_i h5
            refine .inl ⟨rfl, hk, ?_, ?_, ?_⟩
            · rw [wroteS, if_pos h5]
              simp only [countS, bagD]
              simp
              rw [setB_fst]
              rfl
            · rw [wroteS, if_pos h5]
              simp [countS, bagD]
            · rw [wroteS, if_pos h5]
              simp [countS, bagD]
          · rename_i h5
            exact .inr ⟨h5, rfl⟩
        · rename_i h4
          exact .inr ⟨h4, rfl⟩

/-! ## Texts in order -/
theorem strLess_iff : ∀ {a b : List UInt8}, strLess a b = true ↔ a < b
  | a, [] => by
    cases a <;> simp [strLess]
  | [], b :: y => by simp [strLess]
  | a :: x, b :: y => by
    unfold strLess
    rw [List.cons_lt_cons_iff, Bool.or_eq_true, Bool.and_eq_true, decide_eq_true_eq, beq_iff_eq, strLess_iff]
theorem sortS_perm {l : List (List UInt8)} : (sortS l).Perm l := List.mergeSort_perm _ _
theorem sortS_sorted {l : List (List UInt8)} : (sortS l).Pairwise fun a b => a ≤ b := by
  have tr : ∀ a b c : List UInt8, decide (a ≤ b) = true → decide (b ≤ c) = true → decide (a ≤ c) = true := fun a b c h1 h2 => by simp only [decide_eq_true_eq] at *; exact List.le_trans h1 h2
  have to : ∀ a b : List UInt8, (decide (a ≤ b) || decide (b ≤ a)) = true := fun a b => by simp only [Bool.or_eq_true, decide_eq_true_eq]; exact List.le_total a b
  exact (List.pairwise_mergeSort tr to l).imp fun {a b} h => by simpa using h
theorem rising {l : List (List UInt8)} (h : l.Nodup) {i : Nat} (h0 : 0 < i) (hi : i < (sortS l).length) : strLess (sortS l)[i] (sortS l)[i - 1] = false ∧ ((sortS l)[i] == (sortS l)[i - 1]) = false := by
  have hs := List.pairwise_iff_getElem.1 (sortS_sorted (l := l)) (i - 1) i (by omega) hi (by omega)
  have hn : (sortS l).Nodup := (sortS_perm (l := l)).nodup_iff.2 h
  have hne := List.pairwise_iff_getElem.1 hn (i - 1) i (by omega) hi (by omega)
  constructor
  · rw [Bool.eq_false_iff]
    intro q
    exact List.not_lt.2 hs (strLess_iff.1 q)
  · simpa using fun e => hne e.symm

/-! ## How many -/
def partF (ks : List (List UInt8)) (p : Int) : List (List UInt8) := ks.filter fun k => decide (spotF k = p)
def total (ks : List (List UInt8)) : Nat → Nat
  | 0 => 0
  | n + 1 => total ks n + (partF ks n).length
theorem total_cons {k : List UInt8} {ks : List (List UInt8)} : ∀ {n : Nat}, total (k :: ks) n = total ks n + if 0 ≤ spotF k ∧ spotF k < (n : Int) then 1 else 0
  | 0 => by simp [total]
  | n + 1 => by
    simp only [total, total_cons (n := n)]
    unfold partF
    by_cases h : spotF k = (n : Int)
    · rw [List.filter_cons_of_pos (by simpa using h), List.length_cons, if_neg (by omega), if_pos (by omega)]
      omega
    · rw [List.filter_cons_of_neg (by simpa using h)]
      by_cases h2 : 0 ≤ spotF k ∧ spotF k < (n : Int)
      · rw [if_pos h2, if_pos (by omega)]
        omega
      · rw [if_neg h2, if_neg (by omega)]; omega
theorem total_all : ∀ {ks : List (List UInt8)}, (∀ k ∈ ks, keyOk k = true) → total ks 16 = ks.length
  | [], _ => by decide
  | k :: ks, h => by
    have h1 := spot_ok (h k (.head _))
    rw [total_cons, total_all fun x hx => h x (.tail _ hx), if_pos (by omega), List.length_cons]
theorem total_le {ks : List (List UInt8)} : ∀ {n : Nat}, total ks n ≤ n * ks.length
  | 0 => by simp [total]
  | n + 1 => by
    have h1 := total_le (ks := ks) (n := n)
    have h2 : (partF ks n).length ≤ ks.length := List.length_filter_le _ _
    rw [Nat.succ_mul]
    simp only [total]
    omega
theorem keysS_len {s : VSt} {p : Int} : (keysS s p).length = (partF (s.bags.map Prod.fst) p).length := sortS_len
theorem keysS_mem {s : VSt} {p : Int} {k : List UInt8} : k ∈ keysS s p ↔ k ∈ s.bags.map Prod.fst ∧ spotF k = p := by
  unfold keysS
  rw [(sortS_perm).mem_iff, List.mem_filter, decide_eq_true_eq]
theorem keysS_rising {s : VSt} {p : Int} (h : (s.bags.map Prod.fst).Nodup) {i : Nat} (h0 : 0 < i) (hi : i < (keysS s p).length) : strLess (keysS s p)[i] ((keysS s p)[i - 1]'(by omega)) = false ∧ ((keysS s p)[i] == ((keysS s p)[i - 1]'(by omega))) = false := rising (h.filter _) h0 hi
theorem rest_fst {part : Int} {l : List (List UInt8 × Bag)} : (restB part l).map Prod.fst = (l.map Prod.fst).filter fun k => !decide (spotF k = part) := by
  induction l with
  | nil => rfl
  | cons x l ih =>
    unfold restB at ih ⊢
    by_cases h : spotF x.1 = part
    · rw [List.filter_cons_of_neg (by simp [h]), List.map_cons, List.filter_cons_of_neg (by simp [h]), ih]
    · rw [List.filter_cons_of_pos (by simp [h]), List.map_cons, List.map_cons, List.filter_cons_of_pos (by simp [h]), ih]
theorem rest_none {part : Int} {ks : List (List UInt8)} : partF (ks.filter fun k => !decide (spotF k = part)) part = [] := by
  unfold partF
  rw [List.filter_filter, List.filter_eq_nil_iff]
  intro k _
  by_cases h : spotF k = part <;> simp [h]
theorem part_split (ks : List (List UInt8)) (part : Int) : (ks.filter fun k => !decide (spotF k = part)).length + (partF ks part).length = ks.length := by
  induction ks with
  | nil => rfl
  | cons k ks ih =>
    unfold partF at ih ⊢
    by_cases h : spotF k = part
    · rw [List.filter_cons_of_neg (by simp [h]), List.filter_cons_of_pos (by simp [h]), List.length_cons, List.length_cons]; omega
    · rw [List.filter_cons_of_pos (by simp [h]), List.filter_cons_of_neg (by simp [h]), List.length_cons, List.length_cons]; omega

/-! ## A map of marks -/
def InM : List (List UInt8) → List (AV × AV × Nat) → Prop
  | [], [] => True
  | k :: ks, e :: es => (∃ n, e = (.str k, I 1, n)) ∧ InM ks es
  | _, _ => False
theorem InM.len : ∀ {ks : List (List UInt8)} {es : List (AV × AV × Nat)}, InM ks es → es.length = ks.length
  | [], [], _ => rfl
  | _ :: _, _ :: _, h => by simp [InM.len h.2]
  | [], _ :: _, h => h.elim
  | _ :: _, [], h => h.elim
theorem InM.find {key : List UInt8} : ∀ {ks : List (List UInt8)} {es : List (AV × AV × Nat)} (i : Nat), InM ks es → (key ∉ ks ∧ findKey .s (.str key) es i = some none) ∨ (key ∈ ks ∧ ∃ j, findKey .s (.str key) es i = some (some (i + j, I 1)) ∧ InM ks (es.modify j fun e => (.str key, I 1, e.2.2)))
  | [], [], i, _ => .inl ⟨by simp, rfl⟩
  | k :: ks, e :: es, i, h => by
    obtain ⟨⟨n, rfl⟩, h3⟩ := h
    by_cases hk : key = k
    · subst hk
      exact .inr ⟨.head _, 0, by simp [findKey, eqCell], ⟨⟨n, rfl⟩, h3⟩⟩
    · have hk' : (key == k) = false := by simpa using hk
      rcases h3.find (key := key) (i + 1) with ⟨g1, g2⟩ | ⟨g1, j, g2, g3⟩
      · exact .inl ⟨by simp [hk, g1], by simp [findKey, eqCell, hk', g2]⟩
      · refine .inr ⟨.tail _ g1, j + 1, ?_, ?_⟩
        · simp only [findKey, eqCell, hk', Option.bind_some, Bool.false_eq_true, if_false, g2]
          congr 3
          omega
        · rw [List.modify_succ_cons]
          exact ⟨⟨n, rfl⟩, g3⟩
  | [], _ :: _, _, h => h.elim
  | _ :: _, [], _, h => h.elim
theorem InM.put {key : List UInt8} {n : Nat} : ∀ {ks : List (List UInt8)} {es : List (AV × AV × Nat)}, InM ks es → InM (ks ++ [key]) (es ++ [(.str key, I 1, n)])
  | [], [], _ => ⟨⟨n, rfl⟩, trivial⟩
  | _ :: _, _ :: _, h => ⟨h.1, h.2.put⟩
  | [], _ :: _, h => h.elim
  | _ :: _, [], h => h.elim
end Go.Proofs.YtflgfiieaoeknaaA

/- Vaults in memory. No statement about the program is proved here. -/
import Derived.Test.YtflgfiieaoeknaaGreatS1
import Derived.KernelRfl
namespace Go.Proofs.YtflgfiieaoeknaaGreatA
open Go
set_option linter.unusedSimpArgs false
set_option linter.unusedVariables false
set_option maxRecDepth 1000000

/-! ## What a vault has -/
structure VSt where
  ds : List Deed
  sure : Nat
  room : Int
  inc : Int
  ring : Ring
  rings : Nat
  dots : Int
  bags : List (List UInt8 × Bag)
def lookB : List (List UInt8 × Bag) → List UInt8 → Option Bag
  | [], _ => none
  | (k, b) :: l, key => if key == k then some b else lookB l key
def setB : List (List UInt8 × Bag) → List UInt8 → Bag → List (List UInt8 × Bag)
  | [], key, x => [(key, x)]
  | (k, b) :: l, key, x => if key == k then (key, x) :: l else (k, b) :: setB l key x
theorem lookB_set : ∀ {l : List (List UInt8 × Bag)} {key key' : List UInt8} {x : Bag}, lookB (setB l key x) key' = if key' == key then some x else lookB l key'
  | [], key, key', x => by simp [setB, lookB]
  | (k, b) :: l, key, key', x => by
    unfold setB
    by_cases h : key = k
    · subst h
      simp only [beq_self_eq_true, if_true]
      unfold lookB
      split <;> simp_all
    · have h' : (key == k) = false := by simpa using h
      rw [h']
      simp only [Bool.false_eq_true, if_false]
      unfold lookB
      by_cases h2 : key' = k
      · subst h2
        have : (key' == key) = false := by simpa using fun e => h e.symm
        simp [this]
      · have h2' : (key' == k) = false := by simpa using h2
        rw [h2']
        simp only [Bool.false_eq_true, if_false]
        exact lookB_set
theorem setB_len : ∀ {l : List (List UInt8 × Bag)} {key : List UInt8} {x : Bag}, (setB l key x).length = if (lookB l key).isSome then l.length else l.length + 1
  | [], key, x => rfl
  | (k, b) :: l, key, x => by
    unfold setB lookB
    cases key == k
    · simp only [Bool.false_eq_true, if_false, List.length_cons, setB_len (l := l)]
      split <;> rfl
    · simp
def countS (s : VSt) (d : Deed) : VSt :=
  if d.kind = 1 then { s with inc := d.n }
  else if d.kind = 2 then { s with ring := d.ring, rings := s.rings + 1 }
  else if d.kind = 3 then { s with bags := setB s.bags d.key d.bag, dots := max s.dots d.n }
  else s

/-! ## How it lies in memory -/
def vltC (lb mi : Nat) (s : VSt) (q : AV) : List AV := .ptr (some (lb, 0)) :: I s.inc :: (ringV s.ring.status s.ring.plan.version s.ring.plan.by' q s.ring.epoch s.ring.owner ++ [I s.rings, I s.dots, .mapv (some mi)])
def Ents (H : Heap) : List (List UInt8 × Bag) → List (AV × AV × Nat) → Prop
  | [], [] => True
  | (k, b) :: l, e :: es => (∃ r n, e = (.str k, .agg (bagV b.known r), n) ∧ Row 0 H 3 valC b.vals r) ∧ Ents H l es
  | _, _ => False
/-- The cells of a row of deeds. -/
def isD (y : List AV) : Bool := match y[11]? with | some (AV.sl _ _ _ _) => true | some AV.nilsl => true | _ => false
theorem isD_val (l : List Val) : isD (l.flatMap valC) = false := by
  unfold isD
  match l with
  | [] => rfl
  | [_] => rfl
  | [_, _] => rfl
  | [_, _, _] => rfl
  | _ :: _ :: _ :: x :: l =>
    have e : ∀ (a b c d : Val) (l : List Val), ((a :: b :: c :: d :: l).flatMap valC)[11]? = some (.str d.data) := fun a b c d l => rfl
    rw [e]
theorem isD_int (l : List Int) : isD (l.flatMap intC) = false := by
  unfold isD
  have : l.flatMap intC = l.map I := by
    induction l with
    | nil => rfl
    | cons a l ih => rw [List.flatMap_cons, ih]; rfl
  rw [this, List.getElem?_map]
  cases l[11]? <;> rfl
theorem isD_take {cs : List AV} : isD (cs.take 56) = isD cs := by
  unfold isD
  rw [List.getElem?_take]
  rfl
theorem DRow.isD {lim : Nat} {H : Heap} {ds : List Deed} {v : AV} {b : Nat} {y : List AV} (h : DRow lim H ds v) (hv : ds = [] → v = .nilsl) (hb : H[b]? = some (.cells true y)) (hno : ¬ Off v b) : Go.Proofs.YtflgfiieaoeknaaGreatA.isD y = true := by
  rcases h with ⟨rfl, rfl⟩ | ⟨c, cs, h0, rfl, h2, h3, h4⟩
  · exact absurd Off.nil hno
  · have e : b = c := Classical.byContradiction fun q => hno (Off.sl (Ne.symm q))
    subst e
    rw [h2] at hb
    have e3 : cs = y := by have := Option.some.inj hb; injection this
    subst e3
    have ne : ds ≠ [] := fun e => by have := hv e; cases this
    obtain ⟨v1, v2, h5, r1, _⟩ := h4 0 (List.length_pos_iff.2 ne)
    rw [Nat.zero_mul, List.drop_zero] at h5
    rw [← isD_take, h5]
    have e7 : (deedM (ds[0]'(List.length_pos_iff.2 ne)) v1 v2)[11]? = some v1 := rfl
    unfold Go.Proofs.YtflgfiieaoeknaaGreatA.isD
    rw [e7]
    rcases r1 with ⟨_, rfl⟩ | ⟨_, _, _, rfl, _⟩ <;> rfl
section
variable {H H' : Heap} {l : List (List UInt8 × Bag)} {es : List (AV × AV × Nat)}
theorem Ents.keep : ∀ {l : List (List UInt8 × Bag)} {es : List (AV × AV × Nat)}, Ents H l es → (∀ (b : Nat) (y : List AV), H[b]? = some (.cells true y) → isD y = false → H'[b]? = some (.cells true y)) → Ents H' l es
  | [], [], _, _ => trivial
  | (k, b) :: l, e :: es, h, hk => by
    obtain ⟨⟨r, n, h1, h2⟩, h3⟩ := h
    refine ⟨⟨r, n, h1, ?_⟩, h3.keep hk⟩
    rcases h2 with h2 | ⟨ne, c, g1, g2, g3⟩
    · exact .inl h2
    · exact .inr ⟨ne, c, g1, g2, hk c _ g3 (isD_val _)⟩
  | [], _ :: _, h, _ => h.elim
  | _ :: _, [], h, _ => h.elim
theorem Ents.len : ∀ {l : List (List UInt8 × Bag)} {es : List (AV × AV × Nat)}, Ents H l es → es.length = l.length
  | [], [], _ => rfl
  | (k, b) :: l, e :: es, h => by simp [h.2.len]
  | [], _ :: _, h => h.elim
  | _ :: _, [], h => h.elim
theorem Ents.find {key : List UInt8} : ∀ {l : List (List UInt8 × Bag)} {es : List (AV × AV × Nat)} (i : Nat), Ents H l es →
    (lookB l key = none ∧ findKey .s (.str key) es i = some none) ∨ (∃ j r b, lookB l key = some b ∧ findKey .s (.str key) es i = some (some (j, .agg (bagV b.known r))) ∧ Row 0 H 3 valC b.vals r)
  | [], [], i, _ => .inl ⟨rfl, rfl⟩
  | (k, b) :: l, e :: es, i, h => by
    obtain ⟨⟨r, n, rfl, h2⟩, h3⟩ := h
    cases hk : key == k
    · rcases h3.find (key := key) (i + 1) with ⟨g1, g2⟩ | ⟨j, r2, b2, g1, g2, g3⟩
      · exact .inl ⟨by simp only [lookB, hk, Bool.false_eq_true, if_false, g1], by simp only [findKey, eqCell, hk, Option.bind_some, Bool.false_eq_true, if_false, g2]⟩
      · exact .inr ⟨j, r2, b2, by simp only [lookB, hk, Bool.false_eq_true, if_false, g1], by simp only [findKey, eqCell, hk, Option.bind_some, Bool.false_eq_true, if_false, g2], g3⟩
    · exact .inr ⟨i, r, b, by simp only [lookB, hk, if_true], by simp only [findKey, eqCell, hk, Option.bind_some, if_true], h2⟩
  | [], _ :: _, _, h => h.elim
  | _ :: _, [], _, h => h.elim
theorem Ents.put {key : List UInt8} {x : Bag} {r : AV} (hr : Row 0 H 3 valC x.vals r) : ∀ {l : List (List UInt8 × Bag)} {es : List (AV × AV × Nat)}, Ents H l es → lookB l key = none → ∀ ck, Ents H (setB l key x) (es ++ [(.str key, .agg (bagV x.known r), ck)])
  | [], [], _, _, ck => ⟨⟨r, ck, rfl, hr⟩, trivial⟩
  | (k, b) :: l, e :: es, h, hn, ck => by
    unfold lookB at hn
    split at hn
    · cases hn
    · rename_i q
      unfold setB
      rw [if_neg q]
      exact ⟨h.1, h.2.put hr hn ck⟩
  | [], _ :: _, h, _, _ => h.elim
  | _ :: _, [], h, _, _ => h.elim
theorem find_ge {key : List UInt8} : ∀ {es : List (AV × AV × Nat)} {i j : Nat} {v : AV}, findKey .s (.str key) es i = some (some (j, v)) → i ≤ j
  | [], i, j, v, h => by simp [findKey] at h
  | (k', v', n) :: es, i, j, v, h => by
    simp only [findKey, Option.bind_eq_some_iff] at h
    obtain ⟨b, _, h⟩ := h
    split at h
    · simp only [Option.some.injEq, Prod.mk.injEq] at h; omega
    · have := find_ge h; omega
theorem Ents.over {key : List UInt8} {x : Bag} {r : AV} (hr : Row 0 H 3 valC x.vals r) : ∀ {l : List (List UInt8 × Bag)} {es : List (AV × AV × Nat)} {i j : Nat} {v : AV}, Ents H l es → findKey .s (.str key) es i = some (some (j, v)) → Ents H (setB l key x) (es.modify (j - i) fun e => (.str key, .agg (bagV x.known r), e.2.2))
  | [], [], i, j, v, _, h => by simp [findKey] at h
  | (k, b) :: l, e :: es, i, j, v, h, hf => by
    obtain ⟨⟨r2, n, rfl, h2⟩, h3⟩ := h
    simp only [findKey, eqCell, Option.bind_some] at hf
    unfold setB
    split at hf
    · rename_i q
      simp only [Option.some.injEq, Prod.mk.injEq] at hf
      obtain ⟨rfl, _⟩ := hf
      rw [if_pos q, Nat.sub_self]
      exact ⟨⟨r, n, rfl, hr⟩, h3⟩
    · rename_i q
      rw [if_neg q]
      have hge := find_ge hf
      obtain ⟨m, rfl⟩ : ∃ m, j = i + 1 + m := ⟨j - (i + 1), by omega⟩
      have e1 : i + 1 + m - i = m + 1 := by omega
      have e2 : i + 1 + m - (i + 1) = m := by omega
      have := h3.over hr hf
      rw [e2] at this
      rw [e1, List.modify_succ_cons]
      exact ⟨⟨r2, n, rfl, h2⟩, this⟩
  | [], _ :: _, _, _, _, h, _ => h.elim
  | _ :: _, [], _, _, _, h, _ => h.elim
end
/-- A vault at p, on the ledger at lb, with its map at mi. -/
structure Vlt (H : Heap) (p lb mi : Nat) (s : VSt) (v q : AV) (es : List (AV × AV × Nat)) (ck : Nat) : Prop where
  box : H[p]? = some (.cells false (vltC lb mi s q))
  led : Led 0 H lb v s.ds (s.sure : Nat) s.room
  tgt : Row 0 H 1 intC s.ring.plan.targets q
  map : H[mi]? = some (.map es ck)
  ents : Ents H s.bags es
  vn : s.ds = [] → v = .nilsl
/-- What may be reckoned with. -/
structure VOk (s : VSt) : Prop where
  r0 : 0 ≤ s.room
  r1 : s.room ≤ 3000
  le : (s.ds.length : Int) ≤ s.room
  fit : ∀ d ∈ s.ds, deedFits d
  rfit : s.ring.plan.targets.length * 8 ≤ reachBytes
  bfit : ∀ key b, lookB s.bags key = some b → b.vals.length * 32 ≤ reachBytes
  ringsN : s.rings ≤ s.ds.length
  d0 : 0 ≤ s.dots
  d1 : s.dots ≤ 1000000
  sureN : s.sure ≤ s.ds.length
/-- What stays while a vault is written to. -/
def offL (H : Heap) (lb b : Nat) : Prop := ∃ v s r, H[lb]? = some (.cells false [v, s, r]) ∧ Off v b
structure Kp (H H' : Heap) (p lb mi : Nat) : Prop where
  len : H.length ≤ H'.length
  keep : ∀ (b : Nat) (z : ABlk), H[b]? = some z → b ≠ p → b ≠ lb → b ≠ mi → (∀ y, z = .cells true y → isD y = false) → H'[b]? = some z
  keep2 : ∀ (b : Nat) (z : ABlk), H[b]? = some z → b ≠ p → b ≠ lb → b ≠ mi → offL H lb b → H'[b]? = some z
  offs : ∀ b, b < H.length → offL H lb b → offL H' lb b
theorem Kp.app {H X : Heap} {p lb mi : Nat} : Kp H (H ++ X) p lb mi := ⟨by simp, fun b z h _ _ _ _ => get_app h, fun b z h _ _ _ _ => get_app h, fun b _ ⟨v, s, r, h, o⟩ => ⟨v, s, r, get_app h, o⟩⟩
theorem Kp.refl {H : Heap} {p lb mi : Nat} : Kp H H p lb mi := ⟨Nat.le_refl _, fun b z h _ _ _ _ => h, fun b z h _ _ _ _ => h, fun _ _ h => h⟩
theorem Kp.trans {H H1 H2 : Heap} {p lb mi : Nat} (h : Kp H H1 p lb mi) (k : Kp H1 H2 p lb mi) : Kp H H2 p lb mi := ⟨Nat.le_trans h.1 k.1, fun b z q a c d e => k.2 b z (h.2 b z q a c d e) a c d e, fun b z q a c d e => k.keep2 b z (h.keep2 b z q a c d e) a c d (h.offs b (lt_of q) e), fun b q e => k.offs b (Nat.lt_of_lt_of_le q h.1) (h.offs b q e)⟩
section
variable {H H' X : Heap} {p lb mi : Nat} {s : VSt} {v q : AV} {es : List (AV × AV × Nat)} {ck : Nat}
theorem Row.keepD {α : Type} {lim e : Nat} {f : α → List AV} {l : List α} {w : AV} (h : Row lim H e f l w) (hf : isD (l.flatMap f) = false) (hk : ∀ (b : Nat) (y : List AV), H[b]? = some (.cells true y) → isD y = false → H'[b]? = some (.cells true y)) : Row lim H' e f l w := by
  rcases h with h | ⟨ne, c, g1, g2, g3⟩
  · exact .inl h
  · exact .inr ⟨ne, c, g1, g2, hk c _ g3 hf⟩
theorem Vlt.app (h : Vlt H p lb mi s v q es ck) : Vlt (H ++ X) p lb mi s v q es ck := ⟨get_app h.box, h.led.app, h.tgt.app, get_app h.map, h.ents.keep fun _ _ q _ => get_app q, h.vn⟩
theorem Vlt.plb (h : Vlt H p lb mi s v q es ck) : p ≠ lb := by
  rintro rfl
  have := h.box
  rw [h.led.at'] at this
  have e : ([v, I s.sure, I s.room] : List AV) = vltC p mi s q := by
    have := Option.some.inj this
    injection this
  have := congrArg List.length e
  have e103 : (vltC p mi s q).length = 48 := rfl
  rw [e103] at this
  simp at this
theorem Vlt.pmi (h : Vlt H p lb mi s v q es ck) : p ≠ mi := by
  rintro rfl
  have := h.box
  rw [h.map] at this
  cases this
theorem Vlt.lbmi (h : Vlt H p lb mi s v q es ck) : lb ≠ mi := by
  rintro rfl
  have := h.led.at'
  rw [h.map] at this
  cases this
theorem Vlt.cells (h : Vlt H p lb mi s v q es ck) (Z : Heap) : Heap.cells? (H ++ Z) p = some (vltC lb mi s q) := cells_of (get_app h.box)
theorem Vlt.cells0 (h : Vlt H p lb mi s v q es ck) : Heap.cells? H p = some (vltC lb mi s q) := cells_of h.box
theorem Vlt.mapZ (h : Vlt H p lb mi s v q es ck) (Z : Heap) : (H ++ Z)[mi]? = some (.map es ck) := get_app h.map
end
section
variable {lb mi : Nat} {s : VSt} {q q' : AV}
@[simp] theorem vlt_len : (vltC lb mi s q).length = 48 := hard rfl
@[simp] theorem vlt_one : (vltC lb mi s q).all AV.one = AV.one q := by
  show (true && (true && _)) = _
  rw [Bool.true_and, Bool.true_and]
  simp
@[simp] theorem vlt_f0 : (vltC lb mi s q).take 1 = [.ptr (some (lb, 0))] := hard rfl
@[simp] theorem vlt_t1 : ((vltC lb mi s q).tail).take 1 = [I s.inc] := hard rfl
@[simp] theorem vlt_f1 : ((vltC lb mi s q).drop 1).take 1 = [I s.inc] := hard rfl
@[simp] theorem vlt_f2 : ((vltC lb mi s q).drop 2).take 43 = ringV s.ring.status s.ring.plan.version s.ring.plan.by' q s.ring.epoch s.ring.owner := hard rfl
@[simp] theorem vlt_f45 : ((vltC lb mi s q).drop 45).take 1 = [I s.rings] := hard rfl
@[simp] theorem vlt_f46 : ((vltC lb mi s q).drop 46).take 1 = [I s.dots] := hard rfl
@[simp] theorem vlt_f47 : ((vltC lb mi s q).drop 47).take 1 = [.mapv (some mi)] := hard rfl
@[simp] theorem vlt_s1 {x : Int} : (vltC lb mi s q).set 1 (I x) = vltC lb mi { s with inc := x } q := by kernel_rfl
theorem vlt_s2 {r : Ring} : setFrom (vltC lb mi s q) 2 (ringV r.status r.plan.version r.plan.by' q' r.epoch r.owner) = vltC lb mi { s with ring := r } q' := by kernel_rfl
@[simp] theorem vlt_s45 {x : Nat} : (vltC lb mi s q).set 45 (I (x : Int)) = vltC lb mi { s with rings := x } q := by kernel_rfl
@[simp] theorem vlt_s46 {x : Int} : (vltC lb mi s q).set 46 (I x) = vltC lb mi { s with dots := x } q := by kernel_rfl
end
end Go.Proofs.YtflgfiieaoeknaaGreatA

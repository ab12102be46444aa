/- How a call's arguments are read as the small machine's. No statement about the program is proved here. -/
import Derived.Test.YtdbgebbofpgjmaaGreatA16
import Derived.ProofKit
import Derived.OpenShut
import Derived.ChangeArms
import Derived.Carry
import Derived.Below
import Derived.SizedLaws
namespace Go.Proofs.YtdbgebbofpgjmaaGreatA
open Go Go.RowKit
set_option linter.unusedVariables false

/-- The shape of what is handed in. -/
inductive Sh where
  | bool
  | int (k : IntKind)
  | str
  | sl (es bs : Nat) (e : Sh)
  | cat (ps : List (Nat × Sh))
  deriving Inhabited

def offOf (ps : List (Nat × Sh)) (i : Nat) : Nat := ((ps.take i).map (·.1)).sum
def shapeFs (P : Program) (f : TypeId → Option Sh) : List Field → Nat → Option (List (Nat × Sh))
  | [], _ => some []
  | x :: xs, off => if x.offset = off then (f x.type).bind fun s => (shapeFs P f xs (off + P.cellsOf x.type)).map ((P.cellsOf x.type, s) :: ·) else none
def shapeTy (P : Program) : Nat → TypeId → Option Sh
  | 0, _ => none
  | d + 1, t =>
    match P.underlying t with
    | some .bool => some .bool
    | some (.int k) => some (.int k)
    | some .string => some .str
    | some (.slice e) => if 0 < P.cellsOf e then (shapeTy P d e).map (.sl (P.cellsOf e) (P.bytesOf e)) else none
    | some (.struct fs) => (shapeFs P (shapeTy P d) fs.toList 0).bind fun ps => if (ps.map (·.1)).sum = P.cellsOf t then some (.cat ps) else none
    | some (.array n e) => (shapeTy P d e).bind fun s => if ((List.replicate n (P.cellsOf e, s)).map (·.1)).sum = P.cellsOf t then some (.cat (List.replicate n (P.cellsOf e, s))) else none
    | _ => none

/-! What fits a shape. -/
mutual
inductive Fits : Sh → List AV → Prop
  | bool (b) : Fits .bool [.bool b]
  | int {k n} (h : (Lit.int k n).wf = true) : Fits (.int k) [.int k n]
  | str {s} (h : s.length ≤ reachBytes) : Fits .str [.str s]
  | sl {es bs e rows} (h : FitsRows es e rows) (hm : rows.length ≤ maxLen) (hb : rows.length * bs ≤ reachBytes) : Fits (.sl es bs e) [.ro rows.length rows.flatten]
  | cat {ps rows} (h : FitsAll ps rows) : Fits (.cat ps) rows.flatten
inductive FitsRows : Nat → Sh → List (List AV) → Prop
  | nil (es e) : FitsRows es e []
  | snoc {es e rows r} (h : FitsRows es e rows) (hl : r.length = es) (hr : Fits e r) : FitsRows es e (rows ++ [r])
inductive FitsAll : List (Nat × Sh) → List (List AV) → Prop
  | nil : FitsAll [] []
  | cons {n s ps r rows} (hl : r.length = n) (hr : Fits s r) (h : FitsAll ps rows) : FitsAll ((n, s) :: ps) (r :: rows)
end

section
variable {w0 : World} {ro : Nat → Prop}
theorem TRs.app : ∀ {a a' b b'}, TRs w0 ro a a' → TRs w0 ro b b' → TRs w0 ro (a ++ b) (a' ++ b')
  | _, _, _, _, .nil, k => k
  | _, _, _, _, .cons h t, k => .cons h (TRs.app t k)
theorem TRs.len : ∀ {v v'}, TRs w0 ro v v' → v.length = v'.length
  | _, _, .nil => rfl
  | _, _, .cons _ t => by simp [TRs.len t]

theorem fits_cat : ∀ (ps : List (Nat × Sh)) (cs : List Value), cs.length = (ps.map (·.1)).sum →
    (∀ (i n : Nat) (s : Sh), ps[i]? = some (n, s) → ∃ as, TRs w0 ro as ((cs.drop (offOf ps i)).take n) ∧ Fits s as) → ∃ rows, TRs w0 ro rows.flatten cs ∧ FitsAll ps rows
  | [], cs, hl, _ => by
    have : cs = [] := List.length_eq_zero_iff.1 (by simpa using hl)
    subst this
    exact ⟨[], .nil, .nil⟩
  | (n, s) :: ps, cs, hl, h => by
    simp only [List.map_cons, List.sum_cons] at hl
    obtain ⟨as, h1, h2⟩ := h 0 n s rfl
    simp only [offOf, List.take_zero, List.map_nil, List.sum_nil, List.drop_zero] at h1
    obtain ⟨rows, h3, h4⟩ := fits_cat ps (cs.drop n) (by simp; omega) fun i m t e => by
      obtain ⟨as, k1, k2⟩ := h (i + 1) m t (by simpa using e)
      refine ⟨as, ?_, k2⟩
      have : offOf ((n, s) :: ps) (i + 1) = n + offOf ps i := by simp [offOf]
      rw [this] at k1
      rw [List.drop_drop]
      exact k1
    refine ⟨as :: rows, ?_, .cons (by rw [h1.len]; simp; omega) h2 h4⟩
    have := h1.app h3
    rw [List.take_append_drop] at this
    simpa using this
end

theorem sum_rep (n m : Nat) : (List.replicate n m).sum = n * m := by
  induction n with
  | zero => simp
  | succ n ih => rw [List.replicate_succ, List.sum_cons, ih, Nat.add_mul]; omega
theorem add_add (a : Addr) (x y : Nat) : (a.add x).add y = a.add (x + y) := by
  unfold Addr.add
  by_cases hx : x = 0 <;> by_cases hy : y = 0 <;> simp [hx, hy, Nat.add_assoc]

theorem shapeFs_get {P : Program} {f : TypeId → Option Sh} : ∀ {fs : List Field} {off : Nat} {ps : List (Nat × Sh)}, shapeFs P f fs off = some ps →
    ∀ (i n : Nat) (s : Sh), ps[i]? = some (n, s) → ∃ x, fs[i]? = some x ∧ n = P.cellsOf x.type ∧ f x.type = some s ∧ x.offset = off + offOf ps i
  | [], off, ps, h, i, n, s, e => by simp only [shapeFs, Option.some.injEq] at h; subst h; simp at e
  | x :: xs, off, ps, h, i, n, s, e => by
    simp only [shapeFs] at h
    split at h
    · rename_i ho
      simp only [Option.bind_eq_some_iff, Option.map_eq_some_iff] at h
      obtain ⟨s', h1, ps', h2, rfl⟩ := h
      cases i with
      | zero =>
        simp only [List.getElem?_cons_zero, Option.some.injEq, Prod.mk.injEq] at e
        obtain ⟨rfl, rfl⟩ := e
        exact ⟨x, rfl, rfl, h1, by simp [offOf, ho]⟩
      | succ i =>
        obtain ⟨y, k1, k2, k3, k4⟩ := shapeFs_get h2 i n s (by simpa using e)
        refine ⟨y, by simpa using k1, k2, k3, ?_⟩
        rw [k4]
        simp [offOf]; omega
    · cases h

section
variable {H : Type} {enc : TypeId × Value → H} {P : Program} {W : World}

theorem weightsAll_mem {e : TypeId} {n : Nat} : ∀ {l : List (DataW H)} {d : DataW H}, d ∈ l → n ∈ d.weights P e → n ∈ DataW.weightsAll P e l
  | x :: l, d, h, k => by
    unfold DataW.weightsAll
    rcases List.mem_cons.1 h with rfl | h
    · exact List.mem_append_left _ k
    · exact List.mem_append_right _ (weightsAll_mem h k)
theorem weightsEach_mem {n : Nat} : ∀ {ts : List TypeId} {l : List (DataW H)} {i : Nat} {t : TypeId} {d : DataW H}, ts[i]? = some t → l[i]? = some d → n ∈ d.weights P t → n ∈ DataW.weightsEach P ts l
  | _ :: _, _ :: _, 0, t, d, h1, h2, k => by
    simp only [List.getElem?_cons_zero, Option.some.injEq] at h1 h2
    subst h1; subst h2
    unfold DataW.weightsEach
    exact List.mem_append_left _ k
  | t0 :: ts, x :: l, i + 1, t, d, h1, h2, k => by
    unfold DataW.weightsEach
    exact List.mem_append_right _ (weightsEach_mem (i := i) (by simpa using h1) (by simpa using h2) k)
  | [], _, _, _, _, h1, _, _ => by simp at h1
  | _ :: _, [], _, _, _, _, h2, _ => by simp at h2

/-- What is read as data is read as the small machine's. -/
theorem open_trod : ∀ (d : Nat) (t : TypeId) (sh : Sh) (fuel : Nat) (cs : List Value) (x : DataW H × List MemPlace), shapeTy P d t = some sh → DataW.trod enc P W 0 (fun _ => true) true fuel t cs = some x → (∀ n ∈ x.1.weights P t, n ≤ reachBytes) →
    ∃ as, TRs W (fun c => c < W.heap.size) as cs ∧ Fits sh as
  | 0, _, _, _, _, _, h, _, _ => by simp [shapeTy] at h
  | d + 1, t, sh, fuel, cs, x, h, ht, hz => by
    unfold shapeTy at h
    split at h
    · rename_i hu
      cases h
      obtain ⟨b, rfl, _⟩ := DataW.trod_bool hu ht
      exact ⟨[.bool b], .cons (.bool b) .nil, .bool b⟩
    · rename_i k hu
      cases h
      obtain ⟨n, rfl, _, hw⟩ := DataW.trod_int hu ht
      exact ⟨[.int k n], .cons (.int k n) .nil, .int hw⟩
    · rename_i hu
      cases h
      obtain ⟨s, rfl, rfl, hw⟩ := DataW.trod_string hu ht
      exact ⟨[.str s.data.toList], .cons (.str rfl) .nil, .str (hz _ (by simp [DataW.weights]))⟩
    · rename_i e hu
      split at h
      · rename_i hpos
        simp only [Option.map_eq_some_iff] at h
        obtain ⟨s, h1, rfl⟩ := h
        rcases DataW.trod_slice hu ht with ⟨rfl, _⟩ | ⟨a, len, cap, elems, rest, n, _, rfl, rfl, _, hle, hcap, hlen, hel, _, _⟩
        · exact ⟨[.ro 0 []], .cons (.ro0 none 0 rfl) .nil, .sl (rows := []) (.nil _ _) (Nat.zero_le _) (by simp)⟩
        · have mk : ∀ k, k ≤ len → ∃ rows : List (List AV), rows.length = k ∧ rows.flatten.length = k * P.cellsOf e ∧ FitsRows (P.cellsOf e) s rows ∧ ∀ (j : Nat) (v : AV), rows.flatten[j]? = some v → ∃ v', W.cell? (a.add j) = some v' ∧ TR W (fun c => c < W.heap.size) v v' := by
            intro k
            induction k with
            | zero => intro _; exact ⟨[], rfl, by simp, .nil _ _, fun j v e => by simp at e⟩
            | succ k ih =>
              intro hk
              obtain ⟨rows, r1, r2, r3, r4⟩ := ih (by omega)
              have h2 := hel k (by omega)
              rw [List.getElem?_eq_getElem (by omega)] at h2
              simp only [Option.bind_eq_some_iff] at h2
              obtain ⟨ci, h3, h4⟩ := h2
              obtain ⟨as, h5, h6⟩ := open_trod d e s n ci _ h1 h4 fun m hm => hz m (by
                unfold DataW.weights
                rw [hu]
                refine List.mem_cons_of_mem _ (List.mem_append_left _ (weightsAll_mem (List.mem_map.2 ⟨_, List.getElem_mem (by omega), rfl⟩) hm)))
              obtain ⟨_, h7, h8⟩ := World.cells?_some h3
              have hl : as.length = P.cellsOf e := by rw [h5.len, h7]
              refine ⟨rows ++ [as], by simp [r1], by simp [r2, hl, Nat.add_mul], .snoc r3 hl h6, fun j v ej => ?_⟩
              simp only [List.flatten_append, List.flatten_cons, List.flatten_nil, List.append_nil] at ej
              rcases Nat.lt_or_ge j rows.flatten.length with q | q
              · rw [List.getElem?_append_left q] at ej; exact r4 j v ej
              · rw [List.getElem?_append_right q] at ej
                obtain ⟨v', g1, g2⟩ := TRs.get h5 ej
                have hj : j - rows.flatten.length < P.cellsOf e := by
                  have := (List.getElem?_eq_some_iff.1 ej).1
                  omega
                have := h8 (j - rows.flatten.length) hj
                rw [g1] at this
                refine ⟨v', ?_, g2⟩
                have e2 : (a.add (k * P.cellsOf e)).add (j - rows.flatten.length) = a.add j := by
                  have : j = k * P.cellsOf e + (j - rows.flatten.length) := by omega
                  rw [add_add, ← this]
                rw [e2] at this
                exact this
          obtain ⟨rows, r1, r2, r3, r4⟩ := mk len (Nat.le_refl _)
          refine ⟨[.ro len rows.flatten], ?_, ?_⟩
          · refine .cons ?_ .nil
            rcases Nat.eq_zero_or_pos len with rfl | hp
            · have : rows = [] := List.length_eq_zero_iff.1 r1
              subst this
              exact .ro0 _ _ rfl
            · have h0 : 0 < rows.flatten.length := by rw [r2]; exact Nat.mul_pos hp hpos
              obtain ⟨v', g1, _⟩ := r4 0 _ (List.getElem?_eq_getElem h0)
              have hspot := World.cell?_spot g1
              obtain ⟨b, off, spot⟩ := a
              have hspot : spot = none := by simpa [Addr.add] using hspot
              subst hspot
              refine .ro ?_ hle (RD.of_get fun i v ei => ?_)
              · have := World.block_lt_of_cell? _ _ g1
                simpa [Addr.add] using this
              · obtain ⟨v', k1, k2⟩ := r4 i v ei
                rw [add_at] at k1
                exact ⟨v', k1, k2⟩
          · rw [← r1]; exact .sl r3 (by omega) (by
              have := hz ((elems.length + rest.length) * P.bytesOf e) (by unfold DataW.weights; rw [hu]; simp)
              rw [r1, ← hlen]
              exact Nat.le_trans (Nat.mul_le_mul_right _ (Nat.le_add_right _ _)) this)
      · cases h
    · rename_i fs hu
      simp only [Option.bind_eq_some_iff] at h
      obtain ⟨ps, h1, h2⟩ := h
      split at h2
      · rename_i hsum
        cases h2
        obtain ⟨xs, n, _, rfl, hlen, hxl, hxs⟩ := DataW.trod_struct hu ht
        obtain ⟨rows, h3, h4⟩ := fits_cat (w0 := W) (ro := fun c => c < W.heap.size) ps cs (by rw [hlen, hsum]) fun i n' s e => by
          obtain ⟨f, g1, g2, g3, g4⟩ := shapeFs_get h1 i n' s e
          have h5 := hxs i f (by simpa using g1)
          have hi : i < xs.length := by
            have := (List.getElem?_eq_some_iff.1 g1).1
            simp at this; omega
          rw [List.getElem?_eq_getElem hi] at h5
          have := open_trod d f.type s n _ _ g3 h5 fun m hm => hz m (by
            unfold DataW.weights
            rw [hu]
            exact weightsEach_mem (i := i) (t := f.type) (d := xs[i].1) (by simp [g1]) (by simp [hi]) hm)
          rw [g2]
          rw [g4, Nat.zero_add] at this
          exact this
        exact ⟨rows.flatten, h3, .cat h4⟩
      · cases h2
    · rename_i n e hu
      simp only [Option.bind_eq_some_iff] at h
      obtain ⟨s, h1, h2⟩ := h
      split at h2
      · rename_i hsum
        cases h2
        obtain ⟨xs, m, _, rfl, hlen, hxl, hxs⟩ := DataW.trod_array hu ht
        obtain ⟨rows, h3, h4⟩ := fits_cat (w0 := W) (ro := fun c => c < W.heap.size) (List.replicate n (P.cellsOf e, s)) cs (by rw [hlen, hsum]) fun i n' s' e' => by
          rw [List.getElem?_replicate] at e'
          split at e'
          · rename_i hi
            cases e'
            have h5 := hxs i hi
            rw [List.getElem?_eq_getElem (by omega)] at h5
            have := open_trod d e s m _ _ h1 h5 fun m' hm => hz m' (by
              unfold DataW.weights
              rw [hu]
              exact weightsAll_mem (List.mem_map.2 ⟨_, List.getElem_mem (by omega), rfl⟩) hm)
            have ho : offOf (List.replicate n (P.cellsOf e, s)) i = i * P.cellsOf e := by
              unfold offOf
              rw [List.take_replicate, List.map_replicate, sum_rep, Nat.min_eq_left (Nat.le_of_lt hi)]
            rw [ho]
            exact this
          · cases e'
        exact ⟨rows.flatten, h3, .cat h4⟩
      · cases h2
    · cases h

def isRow (P : Program) (t : TypeId) : Bool :=
  match P.underlying t with
  | some (.struct _) | some (.array _ _) => true
  | _ => false
/-- One argument. -/
inductive FitsArg : Bool × Sh → AV → Prop
  | row {s as} (h : Fits s as) : FitsArg (true, s) (.agg as)
  | one {s a} (h : Fits s [a]) : FitsArg (false, s) a
inductive FitsArgs : List (Bool × Sh) → List AV → Prop
  | nil : FitsArgs [] []
  | cons {p ps a as} (h : FitsArg p a) (t : FitsArgs ps as) : FitsArgs (p :: ps) (a :: as)
def argShapes (P : Program) : List TypeId → Option (List (Bool × Sh))
  | [] => some []
  | t :: ts => (shapeTy P 12 t).bind fun s => (argShapes P ts).map ((isRow P t, s) :: ·)

theorem open_arg {t : TypeId} {v : Value} {sh : Sh} {dd : DataW H} {ps : List MemPlace} {base : Nat} (h : shapeTy P 12 t = some sh) (hv : Value.okWide P W .any base t v) (ht : DataW.Trod enc P W 0 (fun _ => true) true t v dd ps) (hz : ∀ n ∈ dd.weights P t, n ≤ reachBytes) :
    ∃ a, TR W (fun c => c < W.heap.size) a v ∧ FitsArg (isRow P t, sh) a := by
  obtain ⟨fuel, ht⟩ := ht
  obtain ⟨as, h1, h2⟩ := open_trod 12 t sh fuel _ _ h ht hz
  have row : (∃ cs, v = .agg cs) → isRow P t = true → ∃ a, TR W (fun c => c < W.heap.size) a v ∧ FitsArg (isRow P t, sh) a := by
    rintro ⟨cs, rfl⟩ hr
    rw [hr]
    exact ⟨.agg as, .agg (vs := cs.toList) h1, .row h2⟩
  have one : v.cells.toList = [v] → isRow P t = false → ∃ a, TR W (fun c => c < W.heap.size) a v ∧ FitsArg (isRow P t, sh) a := by
    intro hc hr
    rw [hr]
    rw [hc] at h1
    cases h1 with
    | cons k t' => cases t' with
      | nil => exact ⟨_, k, .one h2⟩
  unfold shapeTy at h
  unfold Value.okWide at hv
  unfold isRow at row one ⊢
  split at h
  all_goals (try (rename_i hu; rw [hu] at hv row one ⊢; simp only at hv row one ⊢))
  · exact one (by unfold Cell.okWide at hv; rw [hu] at hv; cases v <;> simp_all [Cell.ok, Value.cells]) trivial
  · exact one (by unfold Cell.okWide at hv; rw [hu] at hv; cases v <;> simp_all [Cell.ok, Value.cells]) trivial
  · exact one (by unfold Cell.okWide at hv; rw [hu] at hv; cases v <;> simp_all [Cell.ok, Value.cells]) trivial
  · exact one (by unfold Cell.okWide at hv; rw [hu] at hv; cases v <;> simp_all [Cell.ok, Value.cells]) trivial
  · obtain ⟨cs, e, _⟩ := hv; exact row ⟨cs, e⟩ trivial
  · obtain ⟨cs, e, _⟩ := hv; exact row ⟨cs, e⟩ trivial
  · cases h

theorem open_args {base : Nat} : ∀ {ts : List TypeId} {vs : List Value} {ds : List (DataW H)} {ps : List MemPlace} {shs : List (Bool × Sh)}, argShapes P ts = some shs →
    (∀ (j : Nat) (t : TypeId) (v : Value), ts[j]? = some t → vs[j]? = some v → Value.okWide P W .any base t v) → DataW.TrodAll enc P W 0 (fun _ => true) true ts vs ds ps → (∀ n ∈ DataW.weightsEach P ts ds, n ≤ reachBytes) →
    ∃ as, TRs W (fun c => c < W.heap.size) as vs ∧ FitsArgs shs as
  | [], [], [], _, shs, h, _, _, _ => by
    simp only [argShapes, Option.some.injEq] at h
    subst h
    exact ⟨[], .nil, .nil⟩
  | t :: ts, v :: vs, d :: ds, ps, shs, h, hv, ⟨p, q, h1, h2, _⟩, hz => by
    simp only [argShapes, Option.bind_eq_some_iff, Option.map_eq_some_iff] at h
    obtain ⟨s, k1, shs', k2, rfl⟩ := h
    obtain ⟨a, a1, a2⟩ := open_arg k1 (hv 0 t v rfl rfl) h1 fun n hn => hz n (by unfold DataW.weightsEach; exact List.mem_append_left _ hn)
    obtain ⟨as, b1, b2⟩ := open_args k2 (fun j t v e1 e2 => hv (j + 1) t v (by simpa using e1) (by simpa using e2)) h2 fun n hn => hz n (by unfold DataW.weightsEach; exact List.mem_append_right _ hn)
    exact ⟨a :: as, .cons a1 b1, .cons a2 b2⟩
  | [], _ :: _, _, _, _, _, _, h, _ => by cases h
  | _ :: _, [], _, _, _, _, _, h, _ => by cases h
  | [], [], _ :: _, _, _, _, _, h, _ => by cases h
  | _ :: _, _ :: _, [], _, _, _, _, h, _ => by cases h

theorem below_trods {spare : Nat → Bool} (hl : laidOutB P = true) {W' : World} (hb : Below W.heap.size W W') : ∀ {ts : List TypeId} {vs : List Value} {ds : List (DataW H)} {ps : List MemPlace}, (∀ t ∈ ts, P.readableRec t = true ∧ t < P.types.size) →
    DataW.TrodAll enc P W 0 (fun _ => true) true ts vs ds ps → DataW.TrodAll enc P W' 0 (fun b => decide (b < W.heap.size)) true ts vs ds ps
  | [], [], [], _, _, h => h
  | t :: ts, v :: vs, d :: ds, ps, hr, ⟨p, q, h1, h2, h3⟩ => ⟨p, q, Below.trod hl (hr t (.head _)).1 (hr t (.head _)).2 h1 hb (by
      obtain ⟨n, hn⟩ := h1
      exact DataW.trod_lt _ _ _ _ hn), below_trods (spare := spare) hl hb (fun t ht => hr t (.tail _ ht)) h2, h3⟩
  | [], _ :: _, _, _, _, h => by cases h
  | _ :: _, [], _, _, _, h => by cases h
  | [], [], _ :: _, _, _, h => by cases h
  | _ :: _, _ :: _, [], _, _, h => by cases h

end
end Go.Proofs.YtdbgebbofpgjmaaGreatA

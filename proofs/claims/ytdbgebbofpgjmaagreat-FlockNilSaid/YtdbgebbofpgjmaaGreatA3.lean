/- The small machine's == on rows of cells comes to what the program's comes to. No statement about the program is proved here. -/
import Derived.Test.YtdbgebbofpgjmaaGreatA2
import Derived.Laws.StructEq
import Derived.ChangeKeysEq
namespace Go.Proofs.YtdbgebbofpgjmaaGreatA
open Go Go.RowKit
set_option linter.unusedVariables false

/-! Which kinds the cells of a type are of. -/
def kindsL (f : TypeId → Option (List CK)) : List Field → Nat → Option (List CK)
  | [], _ => some []
  | x :: fs, off => if x.name ≠ "_" ∧ x.offset = off then (f x.type).bind fun ks => (kindsL f fs (off + ks.length)).map (ks ++ ·) else none
def kindsT (P : Program) : Nat → TypeId → Option (List CK)
  | 0, _ => none
  | d + 1, t =>
    let r := match P.underlying t with
      | some .bool => some [CK.b]
      | some (.int _) => some [CK.i]
      | some .string => some [CK.s]
      | some (.array n e) => (kindsT P d e).map fun ks => (List.replicate n ks).flatten
      | some (.struct fs) => if P.stoodInHeld t = false then kindsL (kindsT P d) fs.toList 0 else none
      | _ => none
    r.bind fun ks => if sizeT P t = some ks.length then some ks else none

section
variable {w0 : World} {ro : Nat → Prop} {P : Program} {μ : Mu} {w : World}

theorem eqRow_len : ∀ {ks : List CK} {xs ys : List AV} {r : Bool}, eqRow ks xs ys = some r → xs.length = ks.length ∧ ys.length = ks.length
  | [], [], [], _, _ => ⟨rfl, rfl⟩
  | k :: ks, x :: xs, y :: ys, r, h => by
    simp only [eqRow, Option.bind_eq_some_iff] at h
    obtain ⟨b, h1, h2⟩ := h
    cases b with
    | true => simp at h2; have := eqRow_len h2; simp; exact this
    | false =>
      simp only [Bool.false_eq_true, if_false] at h2
      split at h2
      · rename_i q; simp; exact q
      · cases h2
  | [], _ :: _, _, _, h => by simp [eqRow] at h
  | [], [], _ :: _, _, h => by simp [eqRow] at h
  | _ :: _, [], _, _, h => by simp [eqRow] at h
  | _ :: _, _ :: _, [], _, h => by simp [eqRow] at h
theorem eqRow_app : ∀ {k1 k2 : List CK} {xs ys : List AV} {r : Bool}, eqRow (k1 ++ k2) xs ys = some r →
    ∃ b, eqRow k1 (xs.take k1.length) (ys.take k1.length) = some b ∧ (b = false → r = false) ∧ (b = true → eqRow k2 (xs.drop k1.length) (ys.drop k1.length) = some r)
  | [], k2, xs, ys, r, h => ⟨true, by simp [eqRow], by simp, fun _ => by simpa using h⟩
  | k :: k1, k2, [], ys, r, h => by simp [eqRow] at h
  | k :: k1, k2, x :: xs, [], r, h => by simp [eqRow] at h
  | k :: k1, k2, x :: xs, y :: ys, r, h => by
    simp only [List.cons_append, eqRow, Option.bind_eq_some_iff] at h
    obtain ⟨b, h1, h2⟩ := h
    cases b with
    | true =>
      simp only [if_true] at h2
      obtain ⟨b', g1, g2, g3⟩ := eqRow_app h2
      exact ⟨b', by simp [eqRow, h1, g1], g2, by simpa using g3⟩
    | false =>
      simp only [Bool.false_eq_true, if_false] at h2
      split at h2
      · rename_i q
        cases h2
        refine ⟨false, ?_, by simp, by simp⟩
        have q1 : (List.take k1.length xs).length = k1.length := by have := q.1; simp at this ⊢; omega
        have q2 : (List.take k1.length ys).length = k1.length := by have := q.2; simp at this ⊢; omega
        simp [eqRow, h1]
        simp at q1 q2
        omega
      · cases h2

/-- A part of a row as a value. -/
def partV (P : Program) (t : TypeId) (vs : List Value) : Value :=
  match aggT P t with
  | some true => .agg vs.toArray
  | _ => vs.headD Go.undef

theorem run_partV {t : TypeId} {n off : Nat} {b : Bool} {cs : Array Value} (hs : sizeT P t = some n) (ha : aggT P t = some b) (hb : b = false → n = 1) (hfit : off + n ≤ cs.size) (w : World) :
    (part t cs off).run P w = .ok (partV P t ((cs.toList.drop off).take n)) w := by
  unfold part partV
  cases b with
  | true =>
    simp only [Sem.run_bind, run_aggT ha, Result.andThen_ok, if_true, run_sizeT hs, Sem.run_pure, ha]
    congr 2
    apply Array.ext'
    simp
  | false =>
    have h1 := hb rfl
    subst h1
    have hlt : off < cs.size := by omega
    simp only [Sem.run_bind, run_aggT ha, Result.andThen_ok, Bool.false_eq_true, if_false, ha, Array.getElem?_eq_getElem hlt, Sem.run_pure]
    congr 1
    rw [List.drop_eq_getElem_cons (by simpa using hlt)]
    simp

theorem kinds_agg {d : Nat} {t : TypeId} {ks : List CK} (h : kindsT P d t = some ks) : sizeT P t = some ks.length ∧ ∃ b, aggT P t = some b ∧ (b = false → ks.length = 1) := by
  cases d with
  | zero => simp [kindsT] at h
  | succ d =>
    simp only [kindsT, Option.bind_eq_some_iff] at h
    obtain ⟨ks', h1, h2⟩ := h
    split at h2
    · rename_i q
      cases h2
      refine ⟨q, ?_⟩
      unfold aggT
      split at h1
      · rename_i e; rw [e]; cases h1; exact ⟨false, rfl, fun _ => rfl⟩
      · rename_i e; rw [e]; cases h1; exact ⟨false, rfl, fun _ => rfl⟩
      · rename_i e; rw [e]; cases h1; exact ⟨false, rfl, fun _ => rfl⟩
      · rename_i e; rw [e]; exact ⟨true, rfl, by simp⟩
      · rename_i e; rw [e]; exact ⟨true, rfl, by simp⟩
      · cases h1
    · cases h2

theorem eqCell_bool {x y : AV} {r : Bool} (h : eqCell .b x y = some r) : ∃ a b, x = .bool a ∧ y = .bool b ∧ r = (a == b) := by
  cases x <;> cases y <;> simp [eqCell] at h
  exact ⟨_, _, rfl, rfl, h.symm⟩
theorem eqCell_int {x y : AV} {r : Bool} (h : eqCell .i x y = some r) : ∃ k a b, x = .int k a ∧ y = .int k b ∧ r = (a == b) := by
  cases x <;> cases y <;> simp [eqCell] at h
  obtain ⟨rfl, h⟩ := h
  exact ⟨_, _, _, rfl, rfl, h.symm⟩
theorem eqCell_str {x y : AV} {r : Bool} (h : eqCell .s x y = some r) : ∃ a b, x = .str a ∧ y = .str b ∧ r = (a == b) := by
  cases x <;> cases y <;> simp [eqCell] at h
  exact ⟨_, _, rfl, rfl, h.symm⟩
theorem eqRow_one {k : CK} {xs ys : List AV} {r : Bool} (h : eqRow [k] xs ys = some r) : ∃ x y, xs = [x] ∧ ys = [y] ∧ eqCell k x y = some r := by
  have hl := eqRow_len h
  match xs, ys, hl with
  | [x], [y], _ =>
    simp only [eqRow, Option.bind_eq_some_iff] at h
    obtain ⟨b, h1, h2⟩ := h
    refine ⟨x, y, rfl, rfl, ?_⟩
    cases b <;> simp at h2 <;> subst h2 <;> exact h1

theorem run_eqKindsF (d : Nat) (IH : ∀ (t : TypeId) (ks : List CK), kindsT P d t = some ks → ∀ (e : Nat) (w : World) (xs ys : List AV) (xs' ys' : List Value) (r : Bool),
    VRs w0 ro μ xs xs' → VRs w0 ro μ ys ys' → eqRow ks xs ys = some r → (Op.equalIn (e + d) t (partV P t xs') (partV P t ys')).run P w = .ok r w) : ∀ (fs : List Field) (off : Nat) (ks : List CK), kindsL (kindsT P d) fs off = some ks → ∀ (e : Nat) (w : World) (xs ys : List AV) (xs' ys' : List Value) (r : Bool),
    VRs w0 ro μ xs xs' → VRs w0 ro μ ys ys' → off + ks.length ≤ xs.length → off + ks.length ≤ ys.length → eqRow ks (xs.drop off) (ys.drop off) = some r → (Op.eqFields (e + d) xs'.toArray ys'.toArray fs).run P w = .ok r w
  | [], off, ks, h => by
    intro e w xs ys xs' ys' r hx hy lx ly hr
    simp [kindsL] at h
    subst h
    have hl := eqRow_len hr
    simp only [List.length_nil] at hl
    obtain ⟨ha, hb⟩ := hl
    rw [List.length_eq_zero_iff] at ha hb
    rw [ha, hb] at hr
    simp [eqRow] at hr
    subst hr
    simp [Op.eqFields]
  | f :: fs, off, ks, h => by
    intro e w xs ys xs' ys' r hx hy lx ly hr
    simp only [kindsL] at h
    split at h
    · rename_i q
      obtain ⟨hn, rfl⟩ := q
      simp only [Option.bind_eq_some_iff, Option.map_eq_some_iff] at h
      obtain ⟨k1, h1, k2, h2, rfl⟩ := h
      obtain ⟨hs, b, hb, hb1⟩ := kinds_agg h1
      obtain ⟨b', g1, g2, g3⟩ := eqRow_app hr
      rw [List.length_append] at lx ly
      have hxl := hx.len; have hyl := hy.len
      have px := run_partV (P := P) hs hb hb1 (cs := xs'.toArray) (off := f.offset) (by simp only [List.size_toArray]; omega) w
      have py := run_partV (P := P) hs hb hb1 (cs := ys'.toArray) (off := f.offset) (by simp only [List.size_toArray]; omega) w
      have hq := IH f.type k1 h1 e w _ _ _ _ b' ((hx.drop f.offset).take k1.length) ((hy.drop f.offset).take k1.length) g1
      simp only [Op.eqFields, if_pos hn, Sem.run_bind, px, py, hq, Result.andThen_ok]
      cases b' with
      | false => simp [g2 rfl]
      | true =>
        simp only [Bool.not_true, Bool.false_eq_true, if_false]
        have g := g3 rfl
        rw [List.drop_drop, List.drop_drop] at g
        exact run_eqKindsF d IH fs (f.offset + k1.length) k2 h2 e w xs ys xs' ys' r hx hy (by omega) (by omega) g
    · cases h

theorem run_eqKinds : ∀ (d : Nat) (t : TypeId) (ks : List CK), kindsT P d t = some ks → ∀ (e : Nat) (w : World) (xs ys : List AV) (xs' ys' : List Value) (r : Bool),
    VRs w0 ro μ xs xs' → VRs w0 ro μ ys ys' → eqRow ks xs ys = some r → (Op.equalIn (e + d) t (partV P t xs') (partV P t ys')).run P w = .ok r w
  | 0, _, _, h => by simp [kindsT] at h
  | d + 1, t, ks, h => by
    intro e w xs ys xs' ys' r hx hy hr
    have hk := h
    simp only [kindsT, Option.bind_eq_some_iff] at h
    obtain ⟨ks', h1, h2⟩ := h
    split at h2
    · rename_i q
      cases h2
      rw [← Nat.add_assoc]
      split at h1
      · rename_i u
        cases h1
        obtain ⟨x, y, rfl, rfl, hc⟩ := eqRow_one hr
        obtain ⟨a, b, rfl, rfl, rfl⟩ := eqCell_bool hc
        cases hx with | cons p p' => cases p; cases p'; cases hy with | cons p p' => cases p; cases p'; simp [partV, aggT, u]; exact run_equalIn_bool' w _ t a b u
      · rename_i k u
        cases h1
        obtain ⟨x, y, rfl, rfl, hc⟩ := eqRow_one hr
        obtain ⟨k', a, b, rfl, rfl, rfl⟩ := eqCell_int hc
        cases hx with | cons p p' => cases p; cases p'; cases hy with | cons p p' => cases p; cases p'; simp [partV, aggT, u]; exact run_equalIn_int w _ t k' k a b u
      · rename_i u
        cases h1
        obtain ⟨x, y, rfl, rfl, hc⟩ := eqRow_one hr
        obtain ⟨a, b, rfl, rfl, rfl⟩ := eqCell_str hc
        cases hx with
        | cons p p' =>
          cases p with
          | str ea =>
            cases p'
            cases hy with
            | cons p p' =>
              cases p with
              | str eb =>
                cases p'
                simp only [partV, aggT, u, List.headD_cons]
                rw [run_equalIn_string w _ t _ _ u, ByteArray.toList_eq, ByteArray.toList_eq, ea, eb]
      · rename_i n el u
        rw [Option.map_eq_some_iff] at h1
        obtain ⟨k1, h3, rfl⟩ := h1
        obtain ⟨hs, b, hb, hb1⟩ := kinds_agg h3
        have hi : ∃ i, P.info? el = some i ∧ i.size = k1.length := by
          unfold sizeT at hs; rw [Option.map_eq_some_iff] at hs; exact hs
        obtain ⟨i, hi, hsz⟩ := hi
        have hco : P.cellsOf el = k1.length := by simp [Program.cellsOf, hi, hsz]
        have hax : aggT P t = some true := by simp [aggT, u]
        simp only [partV, hax]
        rw [run_equalIn_array w (e + d) _ _ u hi, hco]
        have lx := (eqRow_len hr).1; have ly := (eqRow_len hr).2
        rw [hx.len] at lx; rw [hy.len] at ly
        have key : ∀ (m j : Nat), j + m = n → eqRow (List.replicate m k1).flatten (xs.drop (j * k1.length)) (ys.drop (j * k1.length)) = some r →
            (Op.eqItems (e + d) el k1.length xs'.toArray ys'.toArray (List.range' j m)).run P w = .ok r w := by
          intro m
          induction m with
          | zero =>
            intro j hj hr'
            have hl := eqRow_len hr'
            simp only [List.replicate_zero, List.flatten_nil, List.length_nil] at hl hr'
            obtain ⟨ha, hb⟩ := hl
            rw [List.length_eq_zero_iff] at ha hb
            rw [ha, hb] at hr'
            simp [eqRow] at hr'
            subst hr'
            simp [Op.eqItems]
          | succ m ih =>
            intro j hj hr'
            rw [List.replicate_succ, List.flatten_cons] at hr'
            obtain ⟨b', g1, g2, g3⟩ := eqRow_app hr'
            have hfl : ((List.replicate n k1).flatten).length = n * k1.length := by simp
            have hjl : j * k1.length + k1.length ≤ n * k1.length := by
              have : (j + 1) * k1.length ≤ n * k1.length := Nat.mul_le_mul_right _ (by omega)
              rw [Nat.succ_mul] at this; exact this
            have px := run_partV (P := P) hs hb hb1 (cs := xs'.toArray) (off := j * k1.length) (by simp only [List.size_toArray]; omega) w
            have py := run_partV (P := P) hs hb hb1 (cs := ys'.toArray) (off := j * k1.length) (by simp only [List.size_toArray]; omega) w
            have hq := run_eqKinds d el k1 h3 e w _ _ _ _ b' ((hx.drop (j * k1.length)).take k1.length) ((hy.drop (j * k1.length)).take k1.length) g1
            rw [List.range'_succ]
            simp only [Op.eqItems, Sem.run_bind, px, py, hq, Result.andThen_ok]
            cases b' with
            | false => simp [g2 rfl]
            | true =>
              simp only [Bool.not_true, Bool.false_eq_true, if_false]
              have g := g3 rfl
              rw [List.drop_drop, List.drop_drop] at g
              refine ih (j + 1) (by omega) ?_
              rw [Nat.succ_mul]
              exact g
        have := key n 0 (by omega) (by simpa using hr)
        rw [List.range_eq_range']
        exact this
      · rename_i fs u
        split at h1
        · rename_i hst
          have hf : P.fieldsOf t = fs := by simp [Program.fieldsOf, u]
          have hax : aggT P t = some true := by simp [aggT, u]
          simp only [partV, hax]
          rw [run_equalIn_struct w (e + d) t _ _ (by rw [hf]; exact u) hst, hf]
          have := run_eqKindsF d (run_eqKinds d) fs.toList 0 ks h1 e w xs ys xs' ys' r hx hy (by have := (eqRow_len hr).1; omega) (by have := (eqRow_len hr).2; omega) (by simpa using hr)
          exact this
        · cases h1
      · cases h1
    · cases h2
end
end Go.Proofs.YtdbgebbofpgjmaaGreatA

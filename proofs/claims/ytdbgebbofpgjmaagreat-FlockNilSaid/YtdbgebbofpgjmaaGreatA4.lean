/- The small machine's operations come to what the program's come to (numbers, texts, fields, elements, cuts). No statement about the program is proved here. -/
import Derived.Test.YtdbgebbofpgjmaaGreatA3
import Derived.Laws.Slices
import Derived.Lib.SmallJoins
namespace Go.Proofs.YtdbgebbofpgjmaaGreatA
open Go Go.RowKit
set_option linter.unusedVariables false

section
variable {w0 : World} {ro : Nat → Prop} {P : Program} {μ : Mu} {H : Heap} {w : World} {T : Tmps} {lim : Nat}

/-- What an operation comes to. -/
def VS (w0 : World) (ro : Nat → Prop) (P : Program) (lim : Nat) (μ : Mu) (H : Heap) (w : World) (s : Sem Value) (r : AV) (H' : Heap) : Prop :=
  ∃ v' w' μ', s.run P w = .ok v' w' ∧ Post w0 ro lim μ H w μ' H' w' ∧ VR w0 ro μ' r v'
theorem VS.same {s : Sem Value} {r : AV} {v' : Value} (hr : HR w0 ro μ H w) (h : s.run P w = .ok v' w) (k : VR w0 ro μ r v') : VS w0 ro P lim μ H w s r H :=
  ⟨v', w, μ, h, Post.refl hr, k⟩

theorem VR.int_inv {k : IntKind} {n : Int} {v : Value} (h : VR w0 ro μ (.int k n) v) : v = .int k n := by cases h; rfl
theorem VR.bool_inv {b : Bool} {v : Value} (h : VR w0 ro μ (.bool b) v) : v = .bool b := by cases h; rfl
theorem VR.str_inv {l : List UInt8} {v : Value} (h : VR w0 ro μ (.str l) v) : ∃ s, v = .string s ∧ s.data.toList = l := by cases h; exact ⟨_, rfl, ‹_›⟩
theorem isInt_eq {v : AV} {n : Int} (h : v.isInt = some n) : ∃ k, v = .int k n := by
  cases v <;> simp [AV.isInt] at h
  subst h; exact ⟨_, rfl⟩
theorem idx_eq {v : AV} {n i : Nat} (h : idx v n = some i) : ∃ k, v = .int k i ∧ i < n := by
  simp only [idx, Option.bind_eq_some_iff] at h
  obtain ⟨j, h1, h2⟩ := h
  obtain ⟨k, rfl⟩ := isInt_eq h1
  split at h2
  · rename_i q
    cases h2
    exact ⟨k, by rw [Int.toNat_of_nonneg q.1], by omega⟩
  · cases h2

theorem bytesLess_eq : ∀ (a b : List UInt8), Op.bytesLess a b = strLess a b
  | _, [] => by cases ‹List UInt8› <;> rfl
  | [], _ :: _ => rfl
  | a :: x, b :: y => by simp only [Op.bytesLess, strLess, bytesLess_eq x y]

theorem vs_int {op : BinOp} {t : TypeId} {x y : Operand} {k : IntKind} {a b : Int} {r : AV} (hr : HR w0 ro μ H w) (h : binInt op k a b = some r) (hs : op ≠ .shl ∧ op ≠ .shr) :
    VS w0 ro P lim μ H w (do eqGuard op t x y (.int k a) (.int k b); binOp op t (.int k a) (.int k b)) r H := by
  rw [eqGuard_at_int]
  cases op <;> first | (exact absurd rfl hs.1) | (exact absurd rfl hs.2) | skip
  all_goals simp only [binInt] at h
  all_goals try (split at h)
  all_goals try (cases h; done)
  all_goals try (cases h)
  all_goals first
    | exact VS.same hr (by simp [binOp, Op.intArith, Op.intBits, Op.intCmp]; rfl) (by constructor)
    | (rename_i q; exact VS.same hr (by simp [binOp, Op.intDiv, q]; rfl) (by constructor))
theorem vs_shift {op : BinOp} {t : TypeId} {x y : Operand} {k k' : IntKind} {a b : Int} {r : AV} (hr : HR w0 ro μ H w) (h : binAV op (.int k a) (.int k' b) = some r) (hs : op = .shl ∨ op = .shr) :
    VS w0 ro P lim μ H w (do eqGuard op t x y (.int k a) (.int k' b); binOp op t (.int k a) (.int k' b)) r H := by
  rw [eqGuard_at_int]
  rcases hs with rfl | rfl
  all_goals
    simp only [binAV] at h
    split at h
    · cases h
    · rename_i q
      cases h
      exact VS.same hr (by simp [binOp, Op.shift, q]; rfl) (by constructor)
theorem vs_str {op : BinOp} {t : TypeId} {x y : Operand} {a b : ByteArray} {r : AV} (hr : HR w0 ro μ H w) (h : binStr op a.data.toList b.data.toList = some r) :
    VS w0 ro P lim μ H w (do eqGuard op t x y (.string a) (.string b); binOp op t (.string a) (.string b)) r H := by
  rw [eqGuard_at_string]
  cases op <;> simp only [binStr] at h
  all_goals try (cases h; done)
  case add =>
    split at h
    · rename_i q
      cases h
      refine VS.same hr (v' := .string (a ++ b)) ?_ (.str (by simp))
      have q' : ¬ ((a.size + b.size : Nat) : Int) > IntKind.i64.max := by
        have : a.size = a.data.toList.length := rfl
        have : b.size = b.data.toList.length := rfl
        rw [IntKind.max_i64]; omega
      simp only [binOp, Op.stringOp, Sem.run_bind, Sem.run_pure, Result.andThen_ok]
      rw [if_neg q']
      rfl
    · cases h
  all_goals
    cases h
    refine VS.same hr (by simp only [binOp, Op.stringOp, Sem.run_bind, Sem.run_pure, Result.andThen_ok, ByteArray.toList_eq, bytesLess_eq]; rfl) (by constructor)

theorem vs_bin {op : BinOp} {t : TypeId} {x y : Operand} {u v r : AV} {u' v' : Value} (hr : HR w0 ro μ H w) (hu : VR w0 ro μ u u') (hv : VR w0 ro μ v v') (h : binAV op u v = some r) :
    VS w0 ro P lim μ H w (do eqGuard op t x y u' v'; binOp op t u' v') r H := by
  match u, v, h with
  | .int k a, .int k' b, h =>
    cases hu; cases hv
    by_cases hs : op = .shl ∨ op = .shr
    · exact vs_shift hr h hs
    · have hs' : op ≠ .shl ∧ op ≠ .shr := ⟨fun e => hs (.inl e), fun e => hs (.inr e)⟩
      have h' : k = k' ∧ binInt op k a b = some r := by
        simp only [binAV] at h
        cases op <;> first | (exact absurd rfl hs'.1) | (exact absurd rfl hs'.2) | (simpa using h)
      obtain ⟨rfl, h'⟩ := h'
      exact vs_int hr h' hs'
  | .str a, .str b, h =>
    obtain ⟨s, rfl, rfl⟩ := hu.str_inv
    obtain ⟨s', rfl, rfl⟩ := hv.str_inv
    exact vs_str hr h

theorem vs_eqagg {op : BinOp} {t : TypeId} {x y : Operand} {a b : List AV} {r neg : Bool} {d : Nat} {ks : List CK} {u' v' : Value} (hr : HR w0 ro μ H w) (hop : op = if neg then .neq else .eql)
    (hk : kindsT P d t = some ks) (hd : d ≤ 10000) (hg : P.eqGuardType P.depth t = false) (ha : aggT P t = some true) (hu : VR w0 ro μ (.agg a) u') (hv : VR w0 ro μ (.agg b) v') (h : eqRow ks a b = some r) :
    VS w0 ro P lim μ H w (do eqGuard op t x y u' v'; binOp op t u' v') (.bool (if neg then !r else r)) H := by
  cases hu with
  | agg ca =>
    cases hv with
    | agg cb =>
      have := run_eqKinds d t ks hk (10000 - d) w a b _ _ r ca cb h
      rw [Nat.sub_add_cancel hd] at this
      simp only [partV, ha] at this
      refine VS.same hr (v' := .bool (if neg then !r else r)) ?_ (.bool _)
      rw [Sem.run_bind, run_eqGuard_agg w op t x y _ _ hg]
      subst hop
      cases neg
      · simp only [Result.andThen_ok, Bool.false_eq_true, if_false]
        rw [run_eql_struct, this]; rfl
      · simp only [Result.andThen_ok, if_true]
        rw [run_neq_struct, this]; rfl

theorem vs_eqbool {op : BinOp} {t : TypeId} {x y : Operand} {a b neg : Bool} {u' v' : Value} (hr : HR w0 ro μ H w) (hop : op = if neg then .neq else .eql)
    (ht : P.underlying t = some .bool) (hu : VR w0 ro μ (.bool a) u') (hv : VR w0 ro μ (.bool b) v') :
    VS w0 ro P lim μ H w (do eqGuard op t x y u' v'; binOp op t u' v') (.bool (if neg then !(a == b) else a == b)) H := by
  cases hu; cases hv
  have h := run_equal_bool (P := P) w t a b ht
  refine VS.same hr (v' := .bool (if neg then !(a == b) else a == b)) ?_ (.bool _)
  rw [eqGuard_at_bool]
  subst hop
  cases neg <;> simp [binOp, h]

theorem vs_eqptr {op : BinOp} {t e : TypeId} {x y : Operand} {a b : Option (Nat × Nat)} {neg r : Bool} {u' v' : Value} (hr : HR w0 ro μ H w) (hop : op = if neg then .neq else .eql)
    (ht : P.underlying t = some (.pointer e)) (hu : VR w0 ro μ (.ptr a) u') (hv : VR w0 ro μ (.ptr b) v') (h : eqNil a b = some r) :
    VS w0 ro P lim μ H w (do eqGuard op t x y u' v'; binOp op t u' v') (.bool (if neg then !r else r)) H := by
  have hn0 : ∀ d p, (Op.equalIn (d + 1) t (.pointer none) (.pointer p)).run P w = .ok p.isNone w := fun d p => by simp [Op.equalIn, run_underlying ht]
  have hs0 : ∀ d p, (Op.equalIn (d + 1) t (.pointer (some p)) (.pointer none)).run P w = .ok false w := fun d p => by simp [Op.equalIn, run_underlying ht]
  have hn : ∀ p, (Op.equal t (.pointer none) (.pointer p)).run P w = .ok p.isNone w := fun p => hn0 9999 p
  have hs : ∀ p, (Op.equal t (.pointer (some p)) (.pointer none)).run P w = .ok false w := fun p => hs0 9999 p
  refine VS.same hr (v' := .bool (if neg then !r else r)) ?_ (.bool _)
  subst hop
  cases hu <;> cases hv <;> simp [eqNil] at h <;> subst h <;> rw [eqGuard_at_pointer] <;> cases neg <;> simp [binOp, hn, hs]

theorem vs_eqmap {op : BinOp} {t k e : TypeId} {x y : Operand} {a b : Option Nat} {neg r : Bool} {u' v' : Value} (hr : HR w0 ro μ H w) (hop : op = if neg then .neq else .eql)
    (ht : P.underlying t = some (.map k e)) (hu : VR w0 ro μ (.mapv a) u') (hv : VR w0 ro μ (.mapv b) v') (h : eqNil a b = some r) :
    VS w0 ro P lim μ H w (do eqGuard op t x y u' v'; binOp op t u' v') (.bool (if neg then !r else r)) H := by
  have hn0 : ∀ d p, (Op.equalIn (d + 1) t (.map none) (.map p)).run P w = .ok p.isNone w := fun d p => by simp [Op.equalIn, run_underlying ht]
  have hs0 : ∀ d p, (Op.equalIn (d + 1) t (.map (some p)) (.map none)).run P w = .ok false w := fun d p => by simp [Op.equalIn, run_underlying ht]
  have hn : ∀ p, (Op.equal t (.map none) (.map p)).run P w = .ok p.isNone w := fun p => hn0 9999 p
  have hs : ∀ p, (Op.equal t (.map (some p)) (.map none)).run P w = .ok false w := fun p => hs0 9999 p
  have hg : ∀ p v, eqGuard op t x y (.map p) v = pure () := fun p v => by cases op <;> rfl
  refine VS.same hr (v' := .bool (if neg then !r else r)) ?_ (.bool _)
  subst hop
  cases hu <;> cases hv <;> simp [eqNil] at h <;> subst h <;> rw [hg] <;> cases neg <;> simp [binOp, hn, hs]

theorem vs_un {op : UnOp} {u r : AV} {u' : Value} (hr : HR w0 ro μ H w) (hu : VR w0 ro μ u u') (h : unAV op u = some r) : VS w0 ro P lim μ H w (Op.unary op u') r H := by
  match u, h with
  | .int k n, h =>
    cases hu
    cases op <;> simp only [unAV] at h <;> try (cases h; done)
    · cases h; exact VS.same hr (v' := .int k (k.wrap (0 - n))) rfl (.int _ _)
    · simp only [binInt] at h
      cases h
      exact VS.same hr (by simp [Op.unary, Op.intBits]; rfl) (by constructor)
  | .bool b, h =>
    cases hu
    cases op <;> simp only [unAV] at h <;> try (cases h; done)
    cases h; exact VS.same hr (by simp [Op.unary]; rfl) (by constructor)

/-! ## Fields, elements -/
theorem vs_field {t : TypeId} {fs : Array Field} {f : Field} {i : Nat} {n : Option Nat} {cs c : List AV} {r : AV} {u' : Value} (hr : HR w0 ro μ H w) (ht : P.underlying t = some (.struct fs)) (hf : fs[i]? = some f)
    (hs : shp P f.type = some n) (hu : VR w0 ro μ (.agg cs) u') (h1 : cut cs f.offset (n.getD 1) = some c) (h2 : shapeOf n c = some r) : VS w0 ro P lim μ H w (Instr.field t u' i) r H := by
  cases hu with
  | @agg _ vs hv =>
    have hsub := (hv.drop f.offset).take (n.getD 1)
    obtain ⟨q, rfl⟩ := cut_eq h1
    have hsh := shape_VR h2 hsub
    have hl := hv.len
    unfold shp at hs
    split at hs
    · rename_i m e1 e2
      cases hs
      refine VS.same hr (v' := .agg ((vs.drop f.offset).take m).toArray) ?_ hsh
      simp only [Instr.field, Sem.run_bind, run_underlying ht, Result.andThen_ok, hf, asAgg, Sem.run_pure, part, run_aggT e1, if_true, run_sizeT e2]
      congr 2
      apply Array.ext'
      simp
    · rename_i e1 e2
      cases hs
      obtain ⟨v, hv1, hv2⟩ := hsh
      refine VS.same hr (v' := v) ?_ hv2
      have : vs[f.offset]? = some v := by
        have : ((vs.drop f.offset).take 1)[0]? = some v := by
          simp only [Option.getD_none] at hv1
          rw [hv1]; rfl
        simpa using this
      simp [Instr.field, run_underlying ht, hf, asAgg, part, run_aggT e1, this]
    · cases hs

theorem vs_fieldAddr {t : TypeId} {fs : Array Field} {f : Field} {i m : Nat} {u r : AV} {u' : Value} (hr : HR w0 ro μ H w) (ht : P.underlying t = some (.struct fs)) (hf : fs[i]? = some f)
    (hs : sizeT P f.type = some m) (hm : m ≠ 0) (hu : VR w0 ro μ u u')
    (h : fieldAddrAV f.offset u = some r) : VS w0 ro P lim μ H w (Instr.fieldAt t u' i) r H := by
  have hrun : ∀ a, (Instr.fieldAt t (.pointer (some a)) i).run P w = .ok (.pointer (some (a.add f.offset))) w := fun a => by
    simp [Instr.fieldAt, run_underlying ht, hf, Instr.sureAddr, fieldPlace, run_sizeT hs, hm]
  cases hu <;> first | (cases h; done) | skip
  case ptr e => cases h; refine VS.same hr (hrun _) ?_; rw [add_at, Nat.add_assoc]; exact .ptr e
  case tp h0 hd => cases h; refine VS.same hr (hrun _) ?_; rw [add_at]; exact .tp h0 (hd.drop _)

theorem vs_idxArr {t e : TypeId} {len es i : Nat} {u r : AV} {u' i' : Value} (hr : HR w0 ro μ H w) (ht : P.underlying t = some (.array len e)) (hs : sizeT P e = some es) (hu : VR w0 ro μ u u') {iv : AV} (hi : VR w0 ro μ iv i') (hx : idx iv len = some i)
    (h : fieldAddrAV (i * es) u = some r) : VS w0 ro P lim μ H w (Instr.indexAt t u' i') r H := by
  obtain ⟨k, rfl, hlt⟩ := idx_eq hx
  cases hi
  have hrun : ∀ a, (Instr.indexAt t (.pointer (some a)) (.int k i)).run P w = .ok (.pointer (some (a.add (i * es)))) w := fun a => by
    have q : (0 : Int) ≤ i ∧ (i : Int) < (len : Int) := by omega
    have q' : ¬ len ≤ i := by omega
    simp [Instr.indexAt, asIntOf, run_underlying ht, Instr.sureAddr, run_sizeT hs, q']
  cases hu <;> first | (cases h; done) | skip
  case ptr e => cases h; refine VS.same hr (hrun _) ?_; rw [add_at, Nat.add_assoc]; exact .ptr e
  case tp h0 hd => cases h; refine VS.same hr (hrun _) ?_; rw [add_at]; exact .tp h0 (hd.drop _)

theorem vs_idxSl {t e : TypeId} {es : Nat} {u r iv : AV} {u' i' : Value} (hr : HR w0 ro μ H w) (ht : P.underlying t = some (.slice e)) (hs : sizeT P e = some es) (hu : VR w0 ro μ u u') (hi : VR w0 ro μ iv i')
    (h : idxSlAV es iv u = some r) : VS w0 ro P lim μ H w (Instr.indexAt t u' i') r H := by
  have hrun : ∀ a n cap (i : Nat) k, i < n → (Instr.indexAt t (.slice (some a) n cap) (.int k i)).run P w = .ok (.pointer (some (a.add (i * es)))) w := fun a n cap i k q => by
    have q' : ¬ n ≤ i := by omega
    simp [Instr.indexAt, asIntOf, run_underlying ht, run_sizeT hs, q']
  cases hu <;> first | (cases h; done) | skip
  case sl e hn hz =>
    simp only [idxSlAV] at h
    split at h
    · rename_i q
      subst q
      rw [Option.map_eq_some_iff] at h
      obtain ⟨i, hx, rfl⟩ := h
      obtain ⟨k, rfl, hlt⟩ := idx_eq hx
      cases hi
      refine VS.same hr (hrun _ _ _ _ _ hlt) ?_; rw [add_at, Nat.add_assoc]; exact .ptr e
    · cases h
  case sl0 a =>
    simp only [idxSlAV] at h
    split at h
    · rw [Option.map_eq_some_iff] at h
      obtain ⟨i, hx, rfl⟩ := h
      obtain ⟨k, rfl, hlt⟩ := idx_eq hx
      omega
    · cases h
  case ro0 a cap e0 =>
    simp only [idxSlAV] at h
    rw [Option.map_eq_some_iff] at h
    obtain ⟨i, hx, rfl⟩ := h
    obtain ⟨k, rfl, hlt⟩ := idx_eq hx
    omega
  case ro h0 hn hd =>
    simp only [idxSlAV] at h
    rw [Option.map_eq_some_iff] at h
    obtain ⟨i, hx, rfl⟩ := h
    obtain ⟨k, rfl, hlt⟩ := idx_eq hx
    cases hi
    refine VS.same hr (hrun _ _ _ _ _ hlt) ?_; rw [add_at]; exact .tp h0 (hd.drop _)

theorem vs_idxVal {t e : TypeId} {len es i : Nat} {n : Option Nat} {cs c : List AV} {r iv : AV} {u' i' : Value} (hr : HR w0 ro μ H w) (ht : P.underlying t = some (.array len e)) (hes : sizeT P e = some es) (hs : shp P e = some n)
    (hu : VR w0 ro μ (.agg cs) u') (hi : VR w0 ro μ iv i') (hx : idx iv len = some i) (h1 : cut cs (i * es) (n.getD 1) = some c) (h2 : shapeOf n c = some r) : VS w0 ro P lim μ H w (Instr.index t u' i') r H := by
  obtain ⟨k, rfl, hlt⟩ := idx_eq hx
  cases hi
  have q0 : (0 : Int) ≤ i ∧ (i : Int) < (len : Int) := by omega
  cases hu with
  | @agg _ vs hv =>
    have hsub := (hv.drop (i * es)).take (n.getD 1)
    obtain ⟨q, rfl⟩ := cut_eq h1
    have hsh := shape_VR h2 hsub
    have hl := hv.len
    have hst : (Instr.index t (.agg vs.toArray) (.int k i)).run P w = (part e vs.toArray (i * es)).run P w := by
      have q' : ¬ len ≤ i := by omega
      simp [Instr.index, asIntOf, run_underlying ht, q', run_sizeT hes]
    unfold shp at hs
    split at hs
    · rename_i m e1 e2
      cases hs
      refine VS.same hr (v' := .agg ((vs.drop (i * es)).take m).toArray) ?_ hsh
      rw [hst]
      simp only [Sem.run_bind, Result.andThen_ok, Sem.run_pure, part, run_aggT e1, if_true, run_sizeT e2]
      congr 2
      apply Array.ext'
      simp
    · rename_i e1 e2
      cases hs
      obtain ⟨v, hv1, hv2⟩ := hsh
      refine VS.same hr (v' := v) ?_ hv2
      have : vs[i * es]? = some v := by
        have : ((vs.drop (i * es)).take 1)[0]? = some v := by
          simp only [Option.getD_none] at hv1
          rw [hv1]; rfl
        simpa using this
      rw [hst]
      simp [part, run_aggT e1, this]
    · cases hs

theorem vs_idxStr {t : TypeId} {l : List UInt8} {i : Nat} {iv : AV} {u' i' : Value} (hr : HR w0 ro μ H w) (ht : P.underlying t = some .string) (hu : VR w0 ro μ (.str l) u') (hi : VR w0 ro μ iv i') (hx : idx iv l.length = some i) :
    VS w0 ro P lim μ H w (Instr.index t u' i') (.int .u8 (l.getD i 0).toNat) H := by
  obtain ⟨k, rfl, hlt⟩ := idx_eq hx
  cases hi
  obtain ⟨s, rfl, rfl⟩ := hu.str_inv
  refine VS.same hr (v' := .int .u8 ((s.data.toList.getD i 0).toNat)) ?_ (.int _ _)
  have hsz : i < s.size := hlt
  have : s[i]? = some (s.data.toList.getD i 0) := by
    rw [getElem?_pos s i hsz]
    simp only [List.getD]
    rw [List.getElem?_eq_getElem hlt]
    rfl
  simp only [Instr.index, asIntOf, Sem.run_bind, Sem.run_pure, Result.andThen_ok, run_underlying ht]
  rw [if_pos (by omega), Int.toNat_natCast, this]
  rfl

/-! ## Cuts -/
theorem bnd_run {x : Option AV} {x' : Option Value} {d m r : Nat} (hx : match x, x' with | none, none => True | some u, some u' => VR w0 ro μ u u' | _, _ => False) (h : bnd x d m = some r) :
    (x' = none ∧ r = d) ∨ (∃ k, x' = some (.int k r) ∧ r ≤ m) := by
  cases x with
  | none => cases x' with
    | none => simp [bnd] at h; exact .inl ⟨rfl, h.symm⟩
    | some u => exact hx.elim
  | some u => cases x' with
    | none => exact hx.elim
    | some u' =>
      simp only [bnd, Option.bind_eq_some_iff] at h
      obtain ⟨j, h1, h2⟩ := h
      obtain ⟨k, rfl⟩ := isInt_eq h1
      cases hx
      split at h2
      · rename_i q; cases h2; exact .inr ⟨k, by rw [Int.toNat_of_nonneg q.1], by omega⟩
      · cases h2
/-- Both, or neither. -/
def OptVR (w0 : World) (ro : Nat → Prop) (μ : Mu) (x : Option AV) (x' : Option Value) : Prop := match x, x' with | none, none => True | some u, some u' => VR w0 ro μ u u' | _, _ => False

theorem run_bound {k : IntKind} {i y : Nat} {c : BoundsCode} (h : i ≤ y) (w : World) : (Instr.sliceBound (.int k i) y c).run P w = .ok i w := by
  have : (0 : Int) ≤ i ∧ (i : Int) ≤ (y : Int) := by omega
  simp [Instr.sliceBound, asIntOf, this]
theorem run_bounds2 {isS : Bool} {len cap l h : Nat} {x y : Option AV} {x' y' : Option Value} (hx : OptVR w0 ro μ x x') (hy : OptVR w0 ro μ y y') (h1 : bnd y len len = some h) (h2 : bnd x 0 h = some l) (hc : len ≤ cap) (w : World) :
    (Instr.sliceBounds isS len cap x' y' none).run P w = .ok (l, h, cap) w ∧ h ≤ len ∧ l ≤ h := by
  have r1 := bnd_run hy h1
  have r2 := bnd_run hx h2
  rcases r1 with ⟨rfl, rfl⟩ | ⟨k, rfl, hle⟩ <;> rcases r2 with ⟨rfl, rfl⟩ | ⟨k', rfl, hle'⟩
  · exact ⟨by simp [Instr.sliceBounds], by omega, by omega⟩
  · exact ⟨by simp [Instr.sliceBounds, run_bound hle'], by omega, hle'⟩
  · exact ⟨by simp [Instr.sliceBounds, run_bound (show h ≤ cap by omega)], hle, by omega⟩
  · exact ⟨by simp [Instr.sliceBounds, run_bound (show h ≤ cap by omega), run_bound hle'], hle, hle'⟩
theorem run_boundsC {isS : Bool} {len cap l h : Nat} {x y : Option AV} {x' y' : Option Value} (hx : OptVR w0 ro μ x x') (hy : OptVR w0 ro μ y y') (h1 : bnd y len cap = some h) (h2 : bnd x 0 h = some l) (hc : len ≤ cap) (w : World) :
    (Instr.sliceBounds isS len cap x' y' none).run P w = .ok (l, h, cap) w ∧ h ≤ cap ∧ l ≤ h := by
  have r1 := bnd_run hy h1
  have r2 := bnd_run hx h2
  rcases r1 with ⟨rfl, rfl⟩ | ⟨k, rfl, hle⟩ <;> rcases r2 with ⟨rfl, rfl⟩ | ⟨k', rfl, hle'⟩
  · exact ⟨by simp [Instr.sliceBounds], by omega, by omega⟩
  · exact ⟨by simp [Instr.sliceBounds, run_bound hle'], by omega, hle'⟩
  · exact ⟨by simp [Instr.sliceBounds, run_bound (show h ≤ cap by omega)], hle, by omega⟩
  · exact ⟨by simp [Instr.sliceBounds, run_bound (show h ≤ cap by omega), run_bound hle'], hle, hle'⟩
theorem run_bounds3 {isS : Bool} {len cap l h m : Nat} {x y : Option AV} {z : AV} {x' y' : Option Value} {z' : Value} (hx : OptVR w0 ro μ x x') (hy : OptVR w0 ro μ y y') (hy1 : y.isSome = true) (hz : VR w0 ro μ z z') (h0 : bnd (some z) 0 0 = some m) (h1 : bnd y 0 0 = some h) (h2 : bnd x 0 h = some l) (w : World) :
    (Instr.sliceBounds isS len cap x' y' (some z')).run P w = .ok (0, 0, 0) w := by
  have r0 := bnd_run (x := some z) (x' := some z') hz h0
  have r1 := bnd_run hy h1
  have r2 := bnd_run hx h2
  rcases r0 with ⟨q, _⟩ | ⟨k0, q, hm⟩
  · cases q
  · cases q
    obtain rfl : m = 0 := by omega
    rcases r1 with ⟨rfl, rfl⟩ | ⟨k, rfl, hle⟩
    · cases y with
      | none => cases hy1
      | some u => exact hy.elim
    · obtain rfl : h = 0 := by omega
      rcases r2 with ⟨rfl, rfl⟩ | ⟨k', rfl, hle'⟩
      · have b1 := fun c => run_bound (P := P) (k := k0) (c := c) (Nat.zero_le cap) w
        have b2 := fun c => run_bound (P := P) (k := k) (c := c) (Nat.zero_le 0) w
        simp only [Int.ofNat_zero] at b1 b2
        simp [Instr.sliceBounds, b1, b2]
      · obtain rfl : l = 0 := by omega
        have b1 := fun c => run_bound (P := P) (k := k0) (c := c) (Nat.zero_le cap) w
        have b2 := fun c => run_bound (P := P) (k := k) (c := c) (Nat.zero_le 0) w
        have b3 := fun c => run_bound (P := P) (k := k') (c := c) (Nat.zero_le 0) w
        simp only [Int.ofNat_zero] at b1 b2 b3
        simp [Instr.sliceBounds, b1, b2, b3]

theorem sl_after {b o n es l h cap : Nat} {loc : Loc} (hm : μ[b]? = some (some loc)) (hl : l ≤ h) (hn : h ≤ n) (hc : n ≤ cap) (hz : loc.k + o + cap * es ≤ loc.sz) :
    VR w0 ro μ (.sl b (o + l * es) (h - l) es) (.slice (some (if cap = l then ⟨loc.c, loc.k + o, none⟩ else (⟨loc.c, loc.k + o, none⟩ : Addr).add (l * es))) (h - l) (cap - l)) := by
  by_cases q : cap = l
  · have h1 : h - l = 0 := by omega
    have h2 : cap - l = 0 := by omega
    rw [h1, h2]; exact .sl0 _
  · rw [if_neg q, add_at, Nat.add_assoc]
    refine .sl hm (by omega) ?_
    have : (cap - l) * es + l * es = cap * es := by rw [← Nat.add_mul]; congr 1; omega
    omega

theorem vs_sliceSl {t e : TypeId} {es : Nat} {u r : AV} {u' : Value} {l h m : Option AV} {l' h' m' : Option Value} (hr : HR w0 ro μ H w) (ht : P.underlying t = some (.slice e)) (hs : sizeT P e = some es) (hu : VR w0 ro μ u u')
    (hl : OptVR w0 ro μ l l') (hh : OptVR w0 ro μ h h') (hm : OptVR w0 ro μ m m') (hmh : m.isSome = true → h.isSome = true) (k : cutSl es u l h m = some r) : VS w0 ro P lim μ H w (Instr.sliceAt t u' l' h' m') r H := by
  have hst : ∀ a n cap, (Instr.sliceAt t (.slice a n cap) l' h' m').run P w = (do let (l, h, m) ← Instr.sliceBounds true n cap l' h' m'; let size ← sizeOf e; pure (Value.slice (if m = l then a else a.map (·.add (l * size))) (h - l) (m - l)) : Sem Value).run P w := fun a n cap => by
    simp [Instr.sliceAt, Instr.slice, run_underlying ht]
  have hmap : ∀ (c : Prop) [Decidable c] (a : Addr) (n : Nat), (if c then some a else (some a).map (·.add n)) = some (if c then a else a.add n) := fun c _ a n => by split <;> rfl
  cases m with
  | none =>
    have hm' : m' = none := by cases m' with | none => rfl | some _ => exact hm.elim
    subst hm'
    cases u <;> simp only [cutSl] at k <;> try (cases k; done)
    case nilsl =>
      simp only [Option.bind_eq_some_iff] at k
      obtain ⟨h1, k1, l1, k2, k3⟩ := k
      cases k3
      cases hu with
      | nilsl a =>
        obtain ⟨hb, q1, q2⟩ := run_bounds2 (P := P) (isS := true) hl hh k1 k2 (Nat.le_refl 0) w
        obtain rfl : h1 = 0 := by omega
        obtain rfl : l1 = 0 := by omega
        refine VS.same hr (v' := .slice a 0 0) ?_ (.nilsl _)
        rw [hst]
        simp [hb, run_sizeT hs]
    case sl b o n es' =>
      split at k
      · rename_i q
        subst q
        simp only [Option.bind_eq_some_iff] at k
        obtain ⟨h1, k1, l1, k2, k3⟩ := k
        cases k3
        cases hu with
        | sl hmu hn hz =>
          obtain ⟨hb, q1, q2⟩ := run_bounds2 (P := P) (isS := true) hl hh k1 k2 hn w
          refine VS.same hr ?_ (sl_after hmu q2 q1 hn hz)
          rw [hst]
          simp only [Sem.run_bind, hb, run_sizeT hs, Result.andThen_ok, Sem.run_pure]
          rw [hmap]
        | sl0 a =>
          obtain ⟨hb, q1, q2⟩ := run_bounds2 (P := P) (isS := true) hl hh k1 k2 (Nat.le_refl 0) w
          obtain rfl : h1 = 0 := by omega
          obtain rfl : l1 = 0 := by omega
          refine VS.same hr (v' := .slice a 0 0) ?_ (.sl0 _)
          rw [hst]
          simp [hb, run_sizeT hs]
      · cases k
    case slc b o n c es' =>
      split at k
      · rename_i q
        subst q
        simp only [Option.bind_eq_some_iff] at k
        obtain ⟨h1, k1, l1, k2, k3⟩ := k
        split at k3
        · rename_i hlc
          cases k3
          cases hu with
          | slc hmu hn hz =>
            obtain ⟨hb, q1, q2⟩ := run_boundsC (P := P) (isS := true) hl hh k1 k2 hn w
            refine VS.same hr (v' := .slice _ (h1 - l1) (c - l1)) ?_ (.slc hmu (by omega) ?_)
            · rw [hst]
              simp only [Sem.run_bind, hb, run_sizeT hs, Result.andThen_ok, Sem.run_pure]
              rw [hmap, if_neg (by omega), add_at, Nat.add_assoc]
            · rename_i loc
              have : (c - l1) * es' + l1 * es' = c * es' := by rw [← Nat.add_mul]; congr 1; omega
              omega
        · cases k3
      · cases k
    case ro n cs =>
      simp only [Option.bind_eq_some_iff] at k
      obtain ⟨h1, k1, l1, k2, k3⟩ := k
      cases k3
      cases hu with
      | ro0 a cap e0 =>
        obtain ⟨hb, q1, q2⟩ := run_bounds2 (P := P) (isS := true) hl hh k1 k2 (Nat.zero_le cap) w
        obtain rfl : h1 = 0 := by omega
        obtain rfl : l1 = 0 := by omega
        refine VS.same hr (v' := .slice (if cap = 0 then a else a.map (·.add (0 * es))) 0 cap) ?_ (.ro0 _ _ (by simp))
        rw [hst]
        simp [hb, run_sizeT hs]
      | @ro _ _ c off cap h0 hcap hd =>
        · obtain ⟨hb, q1, q2⟩ := run_bounds2 (P := P) (isS := true) hl hh k1 k2 hcap w
          by_cases q3 : h1 - l1 = 0
          · rw [q3]
            refine VS.same hr (v' := .slice (some (if cap = l1 then ⟨c, off, none⟩ else (⟨c, off, none⟩ : Addr).add (l1 * es))) 0 (cap - l1)) ?_ (.ro0 _ _ (by simp))
            rw [hst]
            simp only [Sem.run_bind, hb, run_sizeT hs, Result.andThen_ok, Sem.run_pure]
            rw [hmap, q3]
          · refine VS.same hr (v' := .slice (some ⟨c, off + l1 * es, none⟩) (h1 - l1) (cap - l1)) ?_ (.ro h0 (by omega) ((hd.drop _).take _))
            rw [hst]
            simp only [Sem.run_bind, hb, run_sizeT hs, Result.andThen_ok, Sem.run_pure]
            rw [hmap, if_neg (by omega), add_at]
  | some m =>
    cases m' with
    | none => exact hm.elim
    | some m' =>
      have fin : ∀ a n cap (m1 h1 l1 : Nat), u' = .slice a n cap → bnd (some m) 0 0 = some m1 → bnd h 0 0 = some h1 → bnd l 0 h1 = some l1 → VS w0 ro P lim μ H w (Instr.sliceAt t u' l' h' (some m')) .nilsl H := fun a n cap m1 h1 l1 e k0 k1 k2 => by
        subst e
        have hb := run_bounds3 (P := P) (isS := true) (len := n) (cap := cap) hl hh (hmh rfl) hm k0 k1 k2 w
        refine VS.same hr (.trans (hst a n cap) ?_) (.nilsl a)
        simp [hb, run_sizeT hs]
      cases u <;> simp only [cutSl, Option.bind_eq_some_iff] at k <;> try (cases k; done)
      all_goals
        obtain ⟨m1, k0, h1, k1, l1, k2, k3⟩ := k
        cases k3
        cases hu <;> exact fin _ _ _ _ _ _ rfl k0 k1 k2

end
end Go.Proofs.YtdbgebbofpgjmaaGreatA

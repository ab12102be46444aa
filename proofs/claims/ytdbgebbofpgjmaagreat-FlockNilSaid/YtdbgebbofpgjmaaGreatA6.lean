/- The small machine's operations come to what the program's come to (structs put together, new rows, cuts of arrays and texts, lengths, maxima). No statement about the program is proved here. -/
import Derived.Test.YtdbgebbofpgjmaaGreatA5
import Derived.IntWalk
import Derived.Lib.AppendZerosOnto
namespace Go.Proofs.YtdbgebbofpgjmaaGreatA
open Go Go.RowKit
set_option linter.unusedVariables false

section
variable {w0 : World} {ro : Nat → Prop} {P : Program} {μ : Mu} {H : Heap} {w : World} {T : Tmps} {lim : Nat}

/-! ## fill -/
theorem foldl_set (vs : List Value) : ∀ (cells : Array Value) (off k : Nat), (vs.zipIdx k).foldl (fun (cs : Array Value) ((c, j) : Value × Nat) => cs.setIfInBounds (off + j) c) cells = (vs.zipIdx (off + k)).foldl (fun (cs : Array Value) ((c, j) : Value × Nat) => cs.setIfInBounds j c) cells := by
  induction vs with
  | nil => intros; rfl
  | cons v vs ih =>
    intro cells off k
    simp only [List.zipIdx_cons, List.foldl_cons]
    rw [ih]
    rfl
theorem fill_VRs : ∀ (vs : List AV) (vs' : List Value) (cs : List AV) (cs' : Array Value) (o : Nat), VRs w0 ro μ cs cs'.toList → VRs w0 ro μ vs vs' →
    VRs w0 ro μ (setFrom cs o vs) ((vs'.zipIdx o).foldl (fun (cs : Array Value) ((c, j) : Value × Nat) => cs.setIfInBounds j c) cs').toList
  | [], _, cs, cs', o, h, .nil => h
  | v :: vs, _, cs, cs', o, h, .cons (v' := v') (vs' := vs') k t => by
    simp only [setFrom, List.zipIdx_cons, List.foldl_cons]
    exact fill_VRs vs vs' _ _ _ (by rw [Array.toList_setIfInBounds]; exact h.set o k) t

/-- The parts of a literal: where each lies. -/
def PartsVR (w0 : World) (ro : Nat → Prop) (μ : Mu) (place : Nat → Option (Nat × Nat)) : List (Nat × Nat × AV) → List (Nat × Value) → Prop
  | [], [] => True
  | (o, s, v) :: r, (i, v') :: r' => place i = some (o, s) ∧ VR w0 ro μ v v' ∧ PartsVR w0 ro μ place r r'
  | _, _ => False

theorem sim_fill {place : Nat → Option (Nat × Nat)} : ∀ (ps : List (Nat × Nat × AV)) (ps' : List (Nat × Value)) (cs : List AV) (cs' : Array Value) (r : List AV), VRs w0 ro μ cs cs'.toList → PartsVR w0 ro μ place ps ps' → (∀ v ∈ cs, v.one = true) → fillAV cs ps = some r →
    ∃ r', Instr.fill place cs' ps' = some r' ∧ VRs w0 ro μ r r'.toList ∧ (∀ v ∈ r, v.one = true) ∧ r.length = cs.length
  | [], [], cs, cs', r, h, _, h1, e => by simp [fillAV] at e; subst e; exact ⟨cs', rfl, h, h1, rfl⟩
  | [], _ :: _, _, _, _, _, k, _, _ => k.elim
  | _ :: _, [], _, _, _, _, k, _, _ => k.elim
  | (o, s, v) :: ps, (i, v') :: ps', cs, cs', r, h, ⟨kp, kv, kr⟩, h1, e => by
    simp only [fillAV] at e
    split at e
    · rename_i q
      have hc := kv.cells q.2.2
      have hl := hc.len
      have hcl := h.len
      simp only [Array.length_toList] at hl hcl
      have := fill_VRs _ _ _ _ o h hc
      have hone : ∀ x ∈ setFrom cs o v.cells, x.one = true := fun x hx => by
        obtain ⟨j, hj, rfl⟩ := List.mem_iff_getElem.1 hx
        have e2 : (setFrom cs o v.cells)[j]? = some (setFrom cs o v.cells)[j] := List.getElem?_eq_getElem hj
        rw [setFrom_get _ _ _ _ (by omega)] at e2
        split at e2
        · exact all_one q.2.2 _ (List.mem_of_getElem? e2)
        · exact h1 _ (List.mem_of_getElem? e2)
      obtain ⟨r', g1, g2, g3, g4⟩ := sim_fill ps ps' _ _ r this kr hone e
      refine ⟨r', ?_, g2, g3, by rw [g4, setFrom_len]⟩
      simp only [Instr.fill, kp]
      have hl' : v'.cells.size = s := hl.symm.trans q.1
      have q2 := q.2.1
      rw [if_neg (by rw [hl', ← hcl]; simp; omega)]
      have hz : (v'.cells.zipIdx.foldl (fun (cs : Array Value) ((c, j) : Value × Nat) => cs.setIfInBounds (o + j) c) cs') = ((v'.cells.toList.zipIdx o).foldl (fun (cs : Array Value) ((c, j) : Value × Nat) => cs.setIfInBounds j c) cs') := by
        rw [← Array.foldl_toList, Array.toList_zipIdx]
        have := foldl_set v'.cells.toList cs' o 0
        simpa using this
      rw [hz]
      exact g1
    · cases e

theorem vs_build {t : TypeId} {z : Value} {za cs : List AV} {ps : List (Nat × Nat × AV)} {ps' : Array (Nat × Value)} {place : Nat → Option (Nat × Nat)} (hr : HR w0 ro μ H w)
    (hz : VRs w0 ro μ za z.cells.toList) (hz1 : ∀ v ∈ za, v.one = true) (hp : PartsVR w0 ro μ place ps ps'.toList) (hb : P.built t ps'.toList = Instr.fill place z.cells ps'.toList) (h : fillAV za ps = some cs) :
    VS w0 ro P lim μ H w (Instr.build t ps') (.agg cs) H := by
  obtain ⟨r', g1, g2, _, _⟩ := sim_fill ps ps'.toList za z.cells cs hz hp hz1 h
  refine VS.same hr (run_build w t ps' r' (hb.trans g1)) ?_
  exact VR.agg g2

theorem rep_row (zc : Array Value) (len es : Nat) (hzsz : zc.size = es) (h0 : 0 < es) : ((Array.range (len * es)).map (zc[· % zc.size]!)) = (List.replicate len zc.toList).flatten.toArray := by
  apply Array.ext
  · simp [hzsz]
  · intro i h1 h2
    have hi : i < len * es := by simpa using h1
    have hm : i % es < es := Nat.mod_lt _ h0
    simp only [Array.getElem_map, Array.getElem_range, hzsz]
    have key : ∀ (n : Nat) (j : Nat), j < n * es → (List.replicate n zc.toList).flatten[j]? = zc[j % es]? := by
      intro n
      induction n with
      | zero => intro j hj; omega
      | succ n ih =>
        intro j hj
        rw [List.replicate_succ, List.flatten_cons]
        rcases Nat.lt_or_ge j es with q | q
        · rw [List.getElem?_append_left (by simp; omega), Nat.mod_eq_of_lt q]; simp
        · rw [List.getElem?_append_right (by simp; omega)]
          have : j - zc.toList.length = j - es := by simp [hzsz]
          rw [this, ih (j - es) (by rw [Nat.succ_mul] at hj; omega)]
          congr 1
          conv => rhs; rw [show j = (j - es) + es from by omega]
          rw [Nat.add_mod_right]
    have e1 := key len i hi
    rw [getElem!_pos zc (i % es) (by omega)]
    have e2 : (List.replicate len zc.toList).flatten.toArray[i]? = some ((List.replicate len zc.toList).flatten.toArray[i]) := by
      rw [getElem?_pos]
    rw [List.getElem?_toArray, e1, getElem?_pos zc (i % es) (by omega)] at e2
    exact Option.some.inj e2

theorem vs_buildSlice {t e : TypeId} {z : Value} {es len : Nat} {za zs cs : List AV} {ps : List (Nat × Nat × AV)} {ps' : Array (Nat × Value)} (hr : HR w0 ro μ H w) (ht : P.underlying t = some (.slice e)) (hs : sizeT P e = some es) (hze : (P.info? e).bind (·.zero) = some z)
    (hza : ofConsts z.cells.toList = some za) (hzl : za.length = es) (h0 : 0 < es) (hzs : zs = (List.replicate len za).flatten) (hb : len * es ≤ 16777216)
    (hp : PartsVR w0 ro μ (fun i => some (i * es, es)) ps ps'.toList) (h : fillAV zs ps = some cs) :
    VS w0 ro P lim μ H w (Instr.buildSlice t len ps') (if len = 0 then .nilsl else .sl H.length 0 len es) (if len = 0 then H else H ++ [.cells true cs]) := by
  have hzr := zero_run hze
  obtain ⟨hzv, hz1⟩ := ofConsts_VRs (w0 := w0) (ro := ro) (μ := μ) hza
  have hzsz : z.cells.size = es := by rw [← hzl, hzv.len]; simp
  have hflat : ∀ n, VRs w0 ro μ (List.replicate n za).flatten (List.replicate n z.cells.toList).flatten := fun n => by
    induction n with
    | zero => exact .nil
    | succ n ih => rw [List.replicate_succ, List.replicate_succ, List.flatten_cons, List.flatten_cons]; exact hzv.app ih
  have hrow : ((Array.range (len * es)).map (z.cells[· % z.cells.size]!)) = (List.replicate len z.cells.toList).flatten.toArray := rep_row z.cells len es hzsz h0
  subst hzs
  obtain ⟨r', g1, g2, g3, g4⟩ := sim_fill ps ps'.toList _ (List.replicate len z.cells.toList).flatten.toArray cs (by simpa using hflat len) hp
    (fun v hv => by simp only [List.mem_flatten, List.mem_replicate] at hv; obtain ⟨l, ⟨_, rfl⟩, hv⟩ := hv; exact hz1 v hv) h
  have hrun : (Instr.buildSlice t len ps').run P w = .ok (.slice (some ⟨w.heap.size, 0, none⟩) len len) (w.alloc (.cells r' e)) := by
    by_cases hl : len = 0
    · subst hl
      have : r' = #[] := by
        have := g2.len; rw [g4] at this; simp at this; simpa using this.symm
      subst this
      simp at g1
      have hr0 : Array.range 0 = (#[] : Array Nat) := rfl
      simp [Instr.buildSlice, run_underlying ht, run_sizeT hs, hr0, g1, newRow]
    · have hne : len * es ≠ 0 := by
        intro e; rcases Nat.mul_eq_zero.1 e with q | q <;> omega
      have hb' : ¬ (16777216 < len * es) := by omega
      have hne2 : ¬ es = 0 := by omega
      simp only [Instr.buildSlice, Sem.run_bind, run_underlying ht, Result.andThen_ok, run_sizeT hs]
      rw [if_neg (show ¬ (len * es > 2 ^ 24) by omega)]
      simp only [if_neg hne, Sem.run_bind, hzr, Result.andThen_ok, Sem.run_pure, hrow, g1, newRow, run_newObj]
      rfl
  by_cases hl : len = 0
  · subst hl
    simp only [if_true]
    refine ⟨_, _, μ, hrun, ⟨⟨[], by simp⟩, hr.later (by simp) (fun c hc => Below.heap_alloc _ _ _ hc), rfl, rfl, rfl, by simp, fun c hc _ => Below.heap_alloc _ _ _ hc, fun _ _ h => h, fun _ _ _ => rfl, Nat.le_refl _⟩, .nilsl _⟩
  · rw [if_neg hl, if_neg hl]
    have hrl : r'.size = len * es := by
      have := g2.len; rw [g4] at this; simp at this; rw [← this, hzl]
    have hcl : cs.length = len * es := by rw [g4]; simp [hzl]
    have hnew := sim_newRow (g := true) (t := e) lim (arr := r') hr (vs := cs) (by rw [List.take_of_length_le (by simp; omega)]; exact g2) (by omega) g3
    refine ⟨_, _, _, hrun, hnew, ?_⟩
    have := VR.sl (w0 := w0) (ro := ro) (μ := μ ++ [some (⟨w.heap.size, 0, r'.size⟩ : Loc)]) (b := H.length) (o := 0) (n := len) (es := es) (cap := len) (loc := ⟨w.heap.size, 0, r'.size⟩) (by rw [← hr.len]; simp) (Nat.le_refl _) (by simp only; omega)
    simpa using this

/-! ## Cuts of arrays and texts -/
theorem vs_sliceArr {t e : TypeId} {len es l1 h1 : Nat} {u r : AV} {u' : Value} {l h : Option AV} {l' h' : Option Value} (hr : HR w0 ro μ H w) (ht : P.underlying t = some (.array len e)) (hs : sizeT P e = some es) (hu : VR w0 ro μ u u')
    (hl : OptVR w0 ro μ l l') (hh : OptVR w0 ro μ h h') (k1 : bnd h len len = some h1) (k2 : bnd l 0 h1 = some l1)
    (k : (∃ b o cs, u = .ptr (some (b, o)) ∧ H.cells? b = some cs ∧ o + len * es ≤ cs.length ∧ r = .sl b (o + l1 * es) (h1 - l1) es) ∨ (∃ cs, u = .tp cs ∧ r = .ro (h1 - l1) ((cs.drop (l1 * es)).take ((h1 - l1) * es)))) :
    VS w0 ro P lim μ H w (Instr.sliceAt t u' l' h' none) r H := by
  obtain ⟨hb, q1, q2⟩ := run_bounds2 (P := P) (isS := false) hl hh k1 k2 (Nat.le_refl len) w
  have hrun : ∀ a, (Instr.sliceAt t (.pointer (some a)) l' h' none).run P w = .ok (.slice (some (if len = l1 then a else a.add (l1 * es))) (h1 - l1) (len - l1)) w := fun a => by
    simp [Instr.sliceAt, run_underlying ht, Instr.sureAddr, hb, run_sizeT hs]
  rcases k with ⟨b, o, cs, rfl, hc, hfit, rfl⟩ | ⟨cs, rfl, rfl⟩
  · cases hu with
    | ptr hm =>
      rename_i loc
      refine VS.same hr (hrun _) (sl_after hm q2 q1 (Nat.le_refl _) ?_)
      have hbr := hr.blk b loc hm
      unfold Heap.cells? at hc
      split at hc
      · rename_i g cs' e
        cases hc
        rw [e] at hbr
        obtain ⟨_, arr, ty, h3, h4, h5, h6⟩ := hbr
        omega
      · cases hc
  · cases hu with
    | tp h0 hd =>
      rename_i c off
      by_cases q3 : h1 - l1 = 0
      · rw [q3]
        refine VS.same hr (v' := .slice (some (if len = l1 then ⟨c, off, none⟩ else (⟨c, off, none⟩ : Addr).add (l1 * es))) 0 (len - l1)) ?_ (.ro0 _ _ (by simp))
        rw [hrun, q3]
      · refine VS.same hr (v' := .slice (some ⟨c, off + l1 * es, none⟩) (h1 - l1) (len - l1)) ?_ (.ro h0 (by omega) ((hd.drop _).take _))
        rw [hrun, if_neg (by omega), add_at]

theorem extract_toList (s : ByteArray) (a b : Nat) : (s.extract a b).data.toList = (s.data.toList.take b).drop a := by
  have : (s.extract a b).data = s.data.extract a b := by simp [ByteArray.data_extract]
  rw [this, Array.toList_extract, List.extract_eq_take_drop, List.drop_take]

theorem vs_sliceStr {t : TypeId} {s : List UInt8} {l1 h1 : Nat} {u' : Value} {l h : Option AV} {l' h' : Option Value} (hr : HR w0 ro μ H w) (ht : P.underlying t = some .string) (hu : VR w0 ro μ (.str s) u')
    (hl : OptVR w0 ro μ l l') (hh : OptVR w0 ro μ h h') (k1 : bnd h s.length s.length = some h1) (k2 : bnd l 0 h1 = some l1) :
    VS w0 ro P lim μ H w (Instr.sliceAt t u' l' h' none) (.str ((s.take h1).drop l1)) H := by
  obtain ⟨s', rfl, rfl⟩ := hu.str_inv
  have hlen : s'.data.toList.length = s'.size := rfl
  rw [hlen] at k1
  obtain ⟨hb, q1, q2⟩ := run_bounds2 (P := P) (isS := false) hl hh k1 k2 (Nat.le_refl s'.size) w
  refine VS.same hr (v' := .string (s'.extract l1 h1)) ?_ (.str (extract_toList _ _ _))
  simp [Instr.sliceAt, Instr.slice, run_underlying ht, hb]

/-! ## Bytes to a text -/
theorem bytes_run : ∀ (cs : List AV) (vs : List Value) (acc : ByteArray) (l : List UInt8), VRs w0 ro μ cs vs → bytesOf cs = some l →
    ∃ s, (forIn (m := Sem) vs acc (fun (c : Value) (s : ByteArray) => (match c with | .int .u8 n => pure (ForInStep.yield (s.push (UInt8.ofNat n.toNat))) | _ => do stuck "bytesToString: byte expected"; pure (ForInStep.yield s) : Sem (ForInStep ByteArray)))).run P w = .ok s w ∧ s.data.toList = acc.data.toList ++ l
  | [], _, acc, l, .nil, h => by
    simp [bytesOf] at h
    subst h
    exact ⟨acc, by simp, by simp⟩
  | c :: cs, _, acc, l, .cons k t, h => by
    match c, k, h with
    | .int .u8 n, .int _ _, h =>
      simp only [bytesOf, Option.map_eq_some_iff] at h
      obtain ⟨l', h1, rfl⟩ := h
      obtain ⟨s, h2, h3⟩ := bytes_run cs _ (acc.push (UInt8.ofNat n.toNat)) l' t h1
      refine ⟨s, ?_, by rw [h3]; simp⟩
      simp only [List.forIn_cons, Sem.run_bind, Sem.run_pure, Result.andThen_ok]
      exact h2
theorem vs_ofBytes {u : AV} {u' : Value} {cs : List AV} {n : Nat} {l : List UInt8} {src dst e : TypeId} (hr : HR w0 ro μ H w) (hs : P.underlying src = some (.slice e)) (hd : P.underlying dst = some .string) (he : P.underlying e = some (.int .u8))
    (hu : VR w0 ro μ u u') (h1 : elems H 1 u = some (n, cs)) (h2 : bytesOf cs = some l) : VS w0 ro P lim μ H w (convert src dst u') (.str l) H := by
  obtain ⟨base, cap, vs, rfl, hv, hlen, hfc⟩ := elems_run (P := P) hr hu h1
  have hrun : (convert src dst (.slice base n cap)).run P w = (Conv.bytesToString (.slice base n cap)).run P w := by
    simp [convert, run_underlying hs, run_underlying hd, run_underlying he]
  cases base with
  | none =>
    have hz := hfc w rfl
    simp [Builtin.firstCells] at hz
    subst hz
    cases hv
    simp [bytesOf] at h2
    subst h2
    exact VS.same hr (hrun.trans (by simp [Conv.bytesToString]; rfl)) (.str rfl)
  | some a =>
    obtain ⟨s, g1, g2⟩ := bytes_run (P := P) (w := w) cs vs .empty l hv h2
    refine VS.same hr (v' := .string s) (hrun.trans ?_) (.str (by rw [g2]; rfl))
    have hz := hfc w rfl
    simp only [Builtin.firstCells, Nat.mul_one] at hz
    simp only [Conv.bytesToString, Sem.run_bind, hz, Result.andThen_ok]
    rw [List.forIn_toArray]
    exact (congrArg (fun r : Result ByteArray => r.andThen fun a w' => Sem.run P (pure (Value.string a) : Sem Value) w') g1).trans rfl

/-! ## Lengths, maxima -/
theorem vs_lenSl {t e ty : TypeId} {u r : AV} {u' : Value} (hr : HR w0 ro μ H w) (ht : P.underlying t = some (.slice e)) (hu : VR w0 ro μ u u')
    (h : lenSlAV u = some r) : VS w0 ro P lim μ H w (Builtin.len_ #[t] ty #[u']) r H := by
  have hrun : ∀ b n c, (Builtin.len_ #[t] ty #[.slice b n c]).run P w = .ok (.int .i64 n) w := fun b n c => by simp [Builtin.len_, run_underlying ht, goInt]
  cases hu <;> first | (cases h; done) | skip
  case nilsl a => cases h; exact VS.same hr (hrun _ _ _) (.int _ _)
  case sl hm hn hc => cases h; exact VS.same hr (hrun _ _ _) (.int _ _)
  case sl0 a => cases h; exact VS.same hr (hrun _ _ _) (.int _ _)
  case slc hm hn hc => cases h; exact VS.same hr (hrun _ _ _) (.int _ _)
  case ro0 a c e => cases h; exact VS.same hr (hrun _ _ _) (.int _ _)
  case ro h0 hn hd => cases h; exact VS.same hr (hrun _ _ _) (.int _ _)
theorem vs_lenStr {t ty : TypeId} {s : List UInt8} {u' : Value} (hr : HR w0 ro μ H w) (ht : P.underlying t = some .string) (hu : VR w0 ro μ (.str s) u') : VS w0 ro P lim μ H w (Builtin.len_ #[t] ty #[u']) (.int .i64 s.length) H := by
  obtain ⟨s', rfl, rfl⟩ := hu.str_inv
  exact VS.same hr (v' := .int .i64 s'.size) (by simp [Builtin.len_, run_underlying ht, goInt]) (.int _ _)

theorem maxAll_run (op : Bool) : ∀ (xs : List AV) (xs' : List Value) (x r : AV) (x' : Value), VRs w0 ro μ xs xs' → VR w0 ro μ x x' → xs.foldlM (max2 op) x = some r →
    ∃ r', (xs'.foldlM (if op then Builtin.max2 else Builtin.min2) x').run P w = .ok r' w ∧ VR w0 ro μ r r'
  | [], _, x, r, x', .nil, h, e => by simp at e; subst e; exact ⟨x', by simp, h⟩
  | y :: xs, _, x, r, x', .cons k t, h, e => by
    rw [List.foldlM_cons] at e
    simp only [bind, Option.bind_eq_some_iff] at e
    obtain ⟨z, e1, e2⟩ := e
    match x, y, e1 with
    | .int k1 a, .int k2 b, e1 =>
      simp only [max2] at e1
      split at e1
      · rename_i q; subst q; cases e1
        cases h; cases k
        obtain ⟨r', g1, g2⟩ := maxAll_run op xs _ _ r _ t (.int _ _) e2
        refine ⟨r', ?_, g2⟩
        rw [List.foldlM_cons, Sem.run_bind]
        cases op
        · simp only [Bool.false_eq_true, if_false] at g1 ⊢
          simp only [Builtin.min2, Sem.run_pure, Result.andThen_ok]
          exact g1
        · simp only [if_true] at g1 ⊢
          simp only [Builtin.max2, Sem.run_pure, Result.andThen_ok]
          exact g1
      · cases e1

/-! ## make -/
theorem vs_mkSlice {t e : TypeId} {i : TypeInfo} {z : Value} {es : Nat} {za : List AV} {l c : Int} {lv cv : AV} {l' c' : Value} (hr : HR w0 ro μ H w) (ht : P.underlying t = some (.slice e)) (hi : P.info? e = some i) (hz : i.zero = some z) (hes : i.size = es)
    (hza : ofConsts z.cells.toList = some za) (hzl : za.length = es) (h0 : 0 < es) (hl : VR w0 ro μ lv l') (hc : VR w0 ro μ cv c') (hl1 : lv.isInt = some l) (hc1 : cv.isInt = some c)
    (q : 0 ≤ l ∧ l ≤ c ∧ c ≤ (most : Int) ∧ c * i.bytes ≤ (most : Int)) :
    VS w0 ro P lim μ H w (Instr.makeSlice t l' c') (if c = 0 then .nilsl else .sl H.length 0 l.toNat es) (if c = 0 then H else H ++ [.cells true (List.replicate l.toNat za).flatten]) := by
  obtain ⟨k1, rfl⟩ := isInt_eq hl1
  obtain ⟨k2, rfl⟩ := isInt_eq hc1
  cases hl; cases hc
  simp only [AV.isInt] at hl1 hc1
  have hm : (most : Int) = 1099511627776 := rfl
  rw [hm] at q
  obtain ⟨q0, q1, q2, q3⟩ := q
  have wl : IntKind.i64.wrap l = l := IntWalk.i64_in _ (by omega)
  have wc : IntKind.i64.wrap c = c := IntWalk.i64_in _ (by omega)
  subst hes
  have hzsz : z.cells.size = i.size := by rw [← hzl, (ofConsts_VRs (w0 := w0) (ro := ro) (μ := μ) hza).1.len]; simp
  obtain ⟨hzv, hz1⟩ := ofConsts_VRs (w0 := w0) (ro := ro) (μ := μ) hza
  have b1 : ¬ ((i.bytes : Int) * c > 2 ^ 48) := by rw [Int.mul_comm]; omega
  have b2 : ¬ (c < 0) := by omega
  have b3 : ¬ (l < 0) := by omega
  have b4 : ¬ (l > c) := by omega
  have hrun : (Instr.makeSlice t (.int k1 l) (.int k2 c)).run P w = .ok (.slice (some ⟨w.heap.size, 0, none⟩) l.toNat c.toNat) (w.alloc (.cells ((Array.range (c.toNat * i.size)).map (z.cells[· % z.cells.size]!)) e)) := by
    by_cases hc0 : c.toNat * i.size = 0
    · have hr0 : Array.range 0 = (#[] : Array Nat) := rfl
      simp [Instr.makeSlice, run_underlying ht, asInt, asIntOf, typeInfo, sizeOf, hi, wl, wc, b2, b3, b4, hc0, hr0, newRow]
      have b1' : ¬ (281474976710656 < (i.bytes : Int) * c) := by omega
      simp [b1']
    · have b1' : ¬ (281474976710656 < (i.bytes : Int) * c) := by omega
      have hc0' : ¬ (c.toNat = 0 ∨ i.size = 0) := by intro e; apply hc0; rcases e with e | e <;> simp [e]
      simp only [Instr.makeSlice, Sem.run_bind, run_underlying ht, Result.andThen_ok, asInt, asIntOf, Sem.run_pure, typeInfo, run_program, hi, wl, wc]
      rw [if_neg (by simp [b2, b3, b4, b1'])]
      simp only [Sem.run_bind, run_askRoom, Result.andThen_ok, sizeOf, typeInfo, run_program, hi, Sem.run_pure, if_neg hc0, zeroValue, hz, newRow, run_newObj]
      rfl
  by_cases hc0 : c = 0
  · subst hc0
    obtain rfl : l = 0 := by omega
    simp only [if_true]
    exact ⟨_, _, μ, hrun, ⟨⟨[], by simp⟩, hr.later (by simp) (fun c hc => Below.heap_alloc _ _ _ hc), rfl, rfl, rfl, by simp, fun c hc _ => Below.heap_alloc _ _ _ hc, fun _ _ h => h, fun _ _ _ => rfl, Nat.le_refl _⟩, .nilsl _⟩
  · rw [if_neg hc0, if_neg hc0]
    have hrow : ((Array.range (c.toNat * i.size)).map (z.cells[· % z.cells.size]!)) = (List.replicate c.toNat z.cells.toList).flatten.toArray := rep_row z.cells c.toNat i.size hzsz h0
    have hflat : ∀ n, VRs w0 ro μ (List.replicate n za).flatten (List.replicate n z.cells.toList).flatten := fun n => by
      induction n with
      | zero => exact .nil
      | succ n ih => rw [List.replicate_succ, List.replicate_succ, List.flatten_cons, List.flatten_cons]; exact hzv.app ih
    have hlc : l.toNat ≤ c.toNat := by omega
    have hmul : l.toNat * i.size ≤ c.toNat * i.size := Nat.mul_le_mul_right _ hlc
    rw [hrow] at hrun
    have hnew := sim_newRow (g := true) (t := e) lim (arr := (List.replicate c.toNat z.cells.toList).flatten.toArray) hr (vs := (List.replicate l.toNat za).flatten)
      (by
        have : ((List.replicate c.toNat z.cells.toList).flatten).take ((List.replicate l.toNat za).flatten.length) = (List.replicate l.toNat z.cells.toList).flatten := by
          obtain ⟨d, hd⟩ := Nat.exists_eq_add_of_le hlc
          rw [hd, ← List.replicate_append_replicate, List.flatten_append, List.take_append_of_le_length (by simp [hzl, hzsz]), List.take_of_length_le (by simp [hzl, hzsz])]
        show VRs w0 ro μ _ (List.take _ (List.replicate c.toNat z.cells.toList).flatten)
        rw [this]; exact hflat _)
      (by simp [hzl, hzsz]; exact hmul)
      (fun v hv => by simp only [List.mem_flatten, List.mem_replicate] at hv; obtain ⟨l, ⟨_, rfl⟩, hv⟩ := hv; exact hz1 v hv)
    refine ⟨_, _, _, hrun, hnew, ?_⟩
    have := VR.sl (w0 := w0) (ro := ro) (μ := μ ++ [some (⟨w.heap.size, 0, (List.replicate c.toNat z.cells.toList).flatten.toArray.size⟩ : Loc)]) (b := H.length) (o := 0) (n := l.toNat) (es := i.size) (cap := c.toNat)
      (loc := ⟨w.heap.size, 0, (List.replicate c.toNat z.cells.toList).flatten.toArray.size⟩) (by rw [← hr.len]; simp) hlc (by simp [hzsz])
    simpa using this

/-! ## The room of a row; a row over a row; zeros behind a row -/
theorem vs_cap {t e ty : TypeId} {b o n c es : Nat} {u' : Value} (hr : HR w0 ro μ H w) (ht : P.underlying t = some (.slice e)) (hu : VR w0 ro μ (.slc b o n c es) u') : VS w0 ro P lim μ H w (Builtin.cap_ #[t] ty #[u']) (.int .i64 c) H := by
  cases hu with
  | slc hm hn hc => exact VS.same hr (v' := .int .i64 c) (by simp [Builtin.cap_, run_underlying ht, goInt]) (.int _ _)

theorem vs_copyTo {t t2 ty e : TypeId} {es m n b o cap cap2 : Nat} {base : Option Addr} {loc : Loc} {src : List AV} {news : List Value} {r : AV} {H' : Heap} (hr : HR w0 ro μ H w) (ht : P.underlying t = some (.slice e)) (hs : sizeT P e = some es)
    (hmu : μ[b]? = some (some loc)) (hn : n ≤ cap) (hz : loc.k + o + cap * es ≤ loc.sz) (hv : VRs w0 ro μ src news) (hl : src.length = m * es)
    (hfc : (Builtin.firstCells es (Nat.min m n) (.slice base m cap2)).run P w = .ok (news.take (Nat.min m n * es)).toArray w) (h : copyTo lim H es b o es n m src = some (r, H')) :
    VS w0 ro P lim μ H w (Builtin.copy_ #[t, t2] ty #[.slice (some ⟨loc.c, loc.k + o, none⟩) n cap, .slice base m cap2]) r H' := by
  unfold copyTo at h
  split at h
  · rename_i q
    obtain ⟨_, hlim, hpos, hone⟩ := q
    split at h
    · rename_i g cs hb
      split at h
      · rename_i ho
        cases h
        have hbr := hr.blk b loc hmu
        rw [hb] at hbr
        obtain ⟨hnro, arr, ta, h3, h4, h5, h6⟩ := hbr
        generalize hK : Nat.min m n * es = K at *
        have hKm : K ≤ m * es := by rw [← hK]; exact Nat.mul_le_mul_right _ (Nat.min_le_left _ _)
        have hKc : K ≤ cap * es := by rw [← hK]; exact Nat.mul_le_mul_right _ (Nat.le_trans (Nat.min_le_right _ _) hn)
        have hln : (src.take K).length = K := by rw [List.length_take, hl]; exact Nat.min_eq_left hKm
        have hvt := hv.take K
        have hlv := hvt.len
        have honet : ∀ v ∈ src.take K, v.one = true := fun v hm => List.all_eq_true.1 hone v (List.mem_of_mem_take hm)
        have hst := run_storeCells_at (P := P) loc.c (loc.k + o) ta (news.take K) 0 arr w h3 (by omega) (oneCell_of hvt honet)
        simp only [Nat.add_zero] at hst
        have hh := setRow_heap w loc.c arr (arr.toList.take (loc.k + o) ++ news.take K ++ arr.toList.drop (loc.k + o + (news.take K).length)).toArray ta (0, 0) h3
        have hrun : (Builtin.copy_ #[t, t2] ty #[.slice (some ⟨loc.c, loc.k + o, none⟩) n cap, .slice base m cap2]).run P w = .ok (.int .i64 (Nat.min m n : Nat)) (w.setRow loc.c (arr.toList.take (loc.k + o) ++ news.take K ++ arr.toList.drop (loc.k + o + (news.take K).length)).toArray) := by
          simp only [Builtin.copy_, List.getElem?_toArray, List.getElem?_cons_zero, List.getElem?_cons_succ, Sem.run_bind, run_underlying ht, Result.andThen_ok, Builtin.lenOf, Sem.run_pure, run_sizeT hs, hfc, hst, goInt]
        refine ⟨_, _, μ, hrun, ?_, .int _ _⟩
        refine Post.turn hr hlim hmu (.inl ⟨g, cs, hb⟩) (by simp [World.setRow]) (fun c hc => ?_) rfl rfl rfl ⟨hnro, _, ta, hh, by simp; omega, by simp; omega, fun j v hj => ?_⟩
        · simp only [World.setRow, Array.getElem?_modify]
          rw [if_neg (fun e => hc e.symm)]
        · rw [List.getElem?_toArray, row_get _ _ _ (by simp; omega)]
          have hto : (cs.take o).length = o := by simp; omega
          rcases Nat.lt_or_ge j o with q1 | q1
          · rw [List.append_assoc, List.getElem?_append_left (by omega), List.getElem?_take, if_pos q1] at hj
            rw [if_neg (by omega)]
            obtain ⟨k0, v', k1, k2⟩ := h6 j v hj
            exact ⟨k0, v', by rw [Array.getElem?_toList]; exact k1, k2⟩
          · rcases Nat.lt_or_ge j (o + K) with q2 | q2
            · rw [List.append_assoc, List.getElem?_append_right (by omega), List.getElem?_append_left (by omega), hto] at hj
              obtain ⟨v', k1, k2⟩ := hvt.get hj
              rw [if_pos (by omega)]
              refine ⟨honet v (List.mem_of_getElem? hj), v', ?_, k2⟩
              rw [← k1]; congr 1; omega
            · rw [List.getElem?_append_right (by simp; omega), List.getElem?_drop] at hj
              rw [if_neg (by omega)]
              have e : o + K + (j - (cs.take o ++ src.take K).length) = j := by simp only [List.length_append, hto, hln]; omega
              rw [e] at hj
              obtain ⟨k0, v', k1, k2⟩ := h6 j v hj
              exact ⟨k0, v', by rw [Array.getElem?_toList]; exact k1, k2⟩
      · cases h
    · cases h
  · cases h

theorem vs_copy {t t2 ty e : TypeId} {es : Nat} {d s r : AV} {d' s' : Value} {H' : Heap} (hr : HR w0 ro μ H w) (ht : P.underlying t = some (.slice e)) (hs : sizeT P e = some es) (hd : VR w0 ro μ d d') (hx : VR w0 ro μ s s')
    (h : ((elems H es s).bind fun (m, src) => match d with
      | .sl b o n es' => copyTo lim H es b o es' n m src
      | .slc b o n _ es' => copyTo lim H es b o es' n m src
      | _ => none) = some (r, H')) : VS w0 ro P lim μ H w (Builtin.copy_ #[t, t2] ty #[d', s']) r H' := by
  simp only [Option.bind_eq_some_iff] at h
  obtain ⟨⟨m, src⟩, hel, h⟩ := h
  obtain ⟨base, cap2, news, rfl, hv, hl, hfc⟩ := elems_part (P := P) hr hx hel
  have hes : ∀ {b o es' n : Nat}, copyTo lim H es b o es' n m src = some (r, H') → es' = es ∧ 0 < n := fun h => by
    unfold copyTo at h
    split at h
    · rename_i q; exact ⟨q.1, q.2.2.1⟩
    · cases h
  cases hd <;> simp only at h <;> try (cases h; done)
  case sl hm hn hc =>
    obtain ⟨rfl, _⟩ := hes h
    exact vs_copyTo hr ht hs hm hn hc hv hl (hfc _ (Nat.min_le_left _ _) w rfl) h
  case sl0 a =>
    have := (hes h).2
    omega
  case slc hm hn hc =>
    obtain ⟨rfl, _⟩ := hes h
    exact vs_copyTo hr ht hs hm (Nat.le_trans hn (Nat.le_refl _)) hc hv hl (hfc _ (Nat.min_le_left _ _) w rfl) h

theorem reps_VRs {za : List AV} {zc : List Value} (h : VRs w0 ro μ za zc) : ∀ k, VRs w0 ro μ (List.replicate k za).flatten (List.replicate k zc).flatten
  | 0 => .nil
  | k + 1 => by
    rw [List.replicate_succ, List.replicate_succ, List.flatten_cons, List.flatten_cons]
    exact h.app (reps_VRs h k)

theorem vs_appendZ {t tn ty e : TypeId} {i : TypeInfo} {z : Value} {kn kq : IntKind} {za : List AV} {b o n c es' : Nat} {k : Int} {s' x' : Value} {r : AV} {H' : Heap} (hr : HR w0 ro μ H w) (ht : P.underlying t = some (.slice e)) (htn : P.underlying tn = some (.int kn)) (hi : P.info? e = some i) (hz : i.zero = some z)
    (hza : ofConsts z.cells.toList = some za) (hzs : z.cells.size = i.size) (hs : VR w0 ro μ (.slc b o n c es') s') (hx : VR w0 ro μ (.int kq k) x')
    (h : (if es' = i.size ∧ 0 < i.size ∧ 0 < k ∧ (c : Int) < n + k ∧ (n : Int) + k ≤ most ∧ ((n : Int) + k) * i.bytes ≤ most ∧ za.length = i.size ∧ za.all AV.one = true then
        (H.cells? b).bind fun cs => (cut cs o (n * i.size)).map fun old => (AV.sl H.length 0 (n + k.toNat) i.size, H ++ [ABlk.cells true (old ++ (List.replicate k.toNat za).flatten)])
      else none) = some (r, H')) : VS w0 ro P lim μ H w (Builtin.append_ #[t, tn] ty #[s', x']) r H' := by
  split at h
  · rename_i q
    obtain ⟨rfl, h0, hk, hg, hm1, hm2, hzl, hone⟩ := q
    obtain ⟨k', rfl⟩ := Int.eq_ofNat_of_zero_le (Int.le_of_lt hk)
    simp only [Option.bind_eq_some_iff, Option.map_eq_some_iff, Int.toNat_natCast] at h
    obtain ⟨cs, h1, old, h2, h3⟩ := h
    cases h3
    cases hx
    cases hs with
    | slc hmu hn hc =>
      rename_i loc
      obtain ⟨olds, hov, hol⟩ := hr.lie hmu h1 h2
      have hlo := cut_len h2
      have hfit : (n + k') * i.bytes ≤ 140737488355328 := by
        have e : ((n : Int) + (k' : Int)) * (i.bytes : Int) = (((n + k') * i.bytes : Nat) : Int) := by push_cast; rfl
        rw [e] at hm2
        simp only [most] at hm2
        omega
      have hle : k' * i.bytes ≤ (n + k') * i.bytes := Nat.mul_le_mul_right _ (Nat.le_add_left _ _)
      have hgc : c < n + k' := by omega
      have hrun := Go.Lib.run_append_grow_zeros (P := P) w t tn ty e i z kq kn ht htn hi hz (some ⟨loc.c, loc.k + o, none⟩) n c olds (run_firstCells_heap (by rw [← hov.len]; exact hlo) hol w.drew rfl) k' (by omega) h0 hgc
        (by simp only [most] at hm1; omega) (by omega) (growslice_fits hgc hfit)
      have hcap : n + k' ≤ grownCap w (n + k') c e := by simp only [grownCap, Question.cut]; omega
      have hr' : HR w0 ro μ H w.drew := hr.later (Nat.le_refl _) (fun _ _ => rfl)
      generalize hG : grownCap w (n + k') c e = G at *
      have hzv := (ofConsts_VRs (w0 := w0) (ro := ro) (μ := μ) hza)
      have hsz : (olds.toArray ++ Builtin.zeroCells z.cells k' ++ Builtin.zeroCells z.cells (G - (n + k'))).size = G * i.size := by
        simp only [Array.size_append, List.size_toArray, size_zeroCells, hzs, ← hov.len, hlo]
        rw [← Nat.add_mul, ← Nat.add_mul]; congr 1; omega
      have hzc : (Builtin.zeroCells z.cells k').toList = (List.replicate k' z.cells.toList).flatten := by
        have := rep_row z.cells k' i.size hzs h0
        simp only [Builtin.zeroCells]
        rw [hzs] at this ⊢
        rw [this]
      have hrv := reps_VRs hzv.1 k'
      have hnew := sim_newRow (g := true) (t := e) lim (arr := olds.toArray ++ Builtin.zeroCells z.cells k' ++ Builtin.zeroCells z.cells (G - (n + k'))) hr' (vs := old ++ (List.replicate k' za).flatten)
        (by
          have hz2 : (olds.toArray ++ Builtin.zeroCells z.cells k' ++ Builtin.zeroCells z.cells (G - (n + k'))).toList.take (old ++ (List.replicate k' za).flatten).length = olds ++ (List.replicate k' z.cells.toList).flatten := by
            rw [Array.toList_append, Array.toList_append, hzc, List.take_append_of_le_length (by simp only [List.length_append, hov.len, hrv.len]; omega), List.take_of_length_le (by simp only [List.length_append, hov.len, hrv.len]; omega)]
          rw [hz2]; exact hov.app hrv)
        (by
          rw [hsz, List.length_append, hlo, hrv.len, ← hzc, Array.length_toList, size_zeroCells, hzs, ← Nat.add_mul]
          exact Nat.mul_le_mul_right _ hcap)
        (fun v hm => by
          rcases List.mem_append.1 hm with q | q
          · have hbr := hr.blk b loc hmu
            have hbc : ∃ g, H[b]? = some (.cells g cs) := by
              unfold Heap.cells? at h1
              split at h1
              · rename_i g cs' e; cases h1; exact ⟨g, e⟩
              · cases h1
            obtain ⟨g, hb⟩ := hbc
            rw [hb] at hbr
            obtain ⟨_, arr, ta, _, _, _, h6⟩ := hbr
            obtain ⟨j, hj, rfl⟩ := List.mem_iff_getElem.1 q
            exact (h6 (o + j) _ (cut_get h2 (List.getElem?_eq_getElem hj))).1
          · obtain ⟨l, hl1, hl2⟩ := List.mem_flatten.1 q
            rw [List.eq_of_mem_replicate hl1] at hl2
            exact hzv.2 v hl2)
      refine ⟨_, _, μ ++ [some ⟨w.drew.heap.size, 0, (olds.toArray ++ Builtin.zeroCells z.cells k' ++ Builtin.zeroCells z.cells (G - (n + k'))).size⟩], hrun, ?_, ?_⟩
      · have hd : Post w0 ro lim μ H w μ H w.drew := ⟨⟨[], by simp⟩, hr', rfl, rfl, rfl, Nat.le_refl _, fun _ _ _ => rfl, fun _ _ h => h, fun _ _ _ => rfl, Nat.le_refl _⟩
        exact hd.trans hnew
      · have := VR.sl (w0 := w0) (ro := ro) (μ := μ ++ [some (⟨w.drew.heap.size, 0, (olds.toArray ++ Builtin.zeroCells z.cells k' ++ Builtin.zeroCells z.cells (G - (n + k'))).size⟩ : Loc)]) (b := H.length) (o := 0) (n := n + k') (es := i.size) (cap := G)
          (loc := ⟨w.drew.heap.size, 0, (olds.toArray ++ Builtin.zeroCells z.cells k' ++ Builtin.zeroCells z.cells (G - (n + k'))).size⟩) (by rw [← hr.len]; simp) hcap (by simp only [hsz]; omega)
        simpa using this
  · cases h

end
end Go.Proofs.YtdbgebbofpgjmaaGreatA

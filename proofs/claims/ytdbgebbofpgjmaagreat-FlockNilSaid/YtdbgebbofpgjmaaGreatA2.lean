/- The small machine's operations come to what the program's come to (loads, stores, new variables, fields, elements). No statement about the program is proved here. -/
import Derived.Test.YtdbgebbofpgjmaaGreatA1
import Derived.Laws.Cells
import Derived.Laws.CopyRow
namespace Go.Proofs.YtdbgebbofpgjmaaGreatA
open Go Go.RowKit
set_option linter.unusedVariables false

section
variable {w0 : World} {ro : Nat → Prop} {P : Program} {μ : Mu} {H : Heap} {w : World} {T : Tmps} {lim : Nat}

/-! ## Constants and operands -/
def ofConst : Value → Option AV
  | .bool b => some (.bool b)
  | .int k n => some (.int k n)
  | .string s => some (.str s.data.toList)
  | .pointer none => some (.ptr none)
  | .slice _ 0 0 => some .nilsl
  | .map none => some (.mapv none)
  | .nilFunc => some .nilfn
  | .nilIface => some .niliface
  | _ => none
theorem ofConst_VR {v : Value} {a : AV} (h : ofConst v = some a) : VR w0 ro μ a v := by
  unfold ofConst at h
  split at h <;> cases h <;> constructor
  rfl
theorem ofConst_one {v : Value} {a : AV} (h : ofConst v = some a) : a.one = true := by
  unfold ofConst at h
  split at h <;> cases h <;> rfl
def ofConsts : List Value → Option (List AV)
  | [] => some []
  | v :: vs => (ofConst v).bind fun a => (ofConsts vs).map (a :: ·)
theorem ofConsts_VRs : ∀ {vs : List Value} {as : List AV}, ofConsts vs = some as → VRs w0 ro μ as vs ∧ ∀ a ∈ as, a.one = true
  | [], as, h => by simp [ofConsts] at h; subst h; exact ⟨.nil, by simp⟩
  | v :: vs, as, h => by
    simp only [ofConsts, Option.bind_eq_some_iff, Option.map_eq_some_iff] at h
    obtain ⟨a, h1, as', h2, rfl⟩ := h
    have ih := ofConsts_VRs h2
    exact ⟨.cons (ofConst_VR h1) ih.1, by simp; exact ⟨ofConst_one h1, ih.2⟩⟩
/-- A whole constant: a row of cells, or one. -/
def ofConstA : Value → Option AV
  | .agg cs => (ofConsts cs.toList).map .agg
  | v => ofConst v
theorem ofConstA_VR {v : Value} {a : AV} (h : ofConstA v = some a) : VR w0 ro μ a v := by
  unfold ofConstA at h
  split at h
  · rename_i cs
    rw [Option.map_eq_some_iff] at h
    obtain ⟨as, h1, rfl⟩ := h
    have := VR.agg (ofConsts_VRs (w0 := w0) (ro := ro) (μ := μ) h1).1
    simpa using this
  · exact ofConst_VR h

def lowX : Operand → Option AX
  | .tmp t => some (.tmp t)
  | .const v => (ofConstA v).map .cst
  | .func f => some (.cst (.fn (.func f) [] []))
  | .global _ => none

/-- The frame. -/
def AR (w0 : World) (ro : Nat → Prop) (μ : Mu) (T : Tmps) (a : Act) : Prop := a.defers = [] ∧ VRs w0 ro μ T a.tmps.toList
theorem AR.ext {μ' : Mu} {a : Act} (E : Ext μ μ') (h : AR w0 ro μ T a) : AR w0 ro μ' T a := ⟨h.1, h.2.ext E⟩
theorem AR.put {a : Act} {v : AV} {v' : Value} (h : AR w0 ro μ T a) (dst : Option Nat) (k : VR w0 ro μ v v') : AR w0 ro μ (putT T dst v) (a.put dst v') := by
  cases dst with
  | none => exact h
  | some d =>
    refine ⟨h.1, ?_⟩
    have := h.2.set d k
    simpa [putT, Act.put, Array.toList_setIfInBounds] using this

theorem getD_VR {T : Tmps} {a : Act} (h : AR w0 ro μ T a) (t : Nat) : VR w0 ro μ (T.getD t .undef) (a.tmps.getD t Go.undef) := by
  cases e : T[t]? with
  | none => simp [List.getD, e]; exact .undef _
  | some v =>
    obtain ⟨v', h1, h2⟩ := h.2.get e
    simp only [List.getD, e, Option.getD_some]
    have : a.tmps.getD t Go.undef = v' := by
      rw [Array.getElem?_toList] at h1
      rw [Array.getD_eq_getD_getElem?, h1]; rfl
    rw [this]; exact h2
theorem lowX_VR {x : Operand} {ax : AX} {a : Act} (h : lowX x = some ax) (har : AR w0 ro μ T a) : VR w0 ro μ (ax.ev T) (a.eval x) := by
  cases x with
  | tmp t => simp [lowX] at h; subst h; exact getD_VR har t
  | const v =>
    simp only [lowX, Option.map_eq_some_iff] at h
    obtain ⟨c, h1, rfl⟩ := h
    exact ofConstA_VR h1
  | global g => simp [lowX] at h
  | func f => simp [lowX] at h; subst h; exact .fn (as' := []) (bs' := []) .nil .nil

def lowXs : List Operand → Option (List AX)
  | [] => some []
  | x :: xs => (lowX x).bind fun a => (lowXs xs).map (a :: ·)
theorem lowXs_VRs {a : Act} (har : AR w0 ro μ T a) : ∀ {xs : List Operand} {as : List AX}, lowXs xs = some as → VRs w0 ro μ (as.map (·.ev T)) (xs.map a.eval)
  | [], as, h => by simp [lowXs] at h; subst h; exact .nil
  | x :: xs, as, h => by
    simp only [lowXs, Option.bind_eq_some_iff, Option.map_eq_some_iff] at h
    obtain ⟨a1, h1, as', h2, rfl⟩ := h
    exact .cons (lowX_VR h1 har) (lowXs_VRs har h2)

/-! ## Types -/
def aggT (P : Program) (t : TypeId) : Option Bool :=
  match P.underlying t with
  | some (.struct _) | some (.array _ _) => some true
  | some _ => some false
  | none => none
def sizeT (P : Program) (t : TypeId) : Option Nat := (P.info? t).map (·.size)
/-- A row of cells, or one cell. -/
def shp (P : Program) (t : TypeId) : Option (Option Nat) :=
  match aggT P t, sizeT P t with
  | some true, some n => some (some n)
  | some false, some 1 => some none
  | _, _ => none
theorem run_sizeT {t : TypeId} {n : Nat} (h : sizeT P t = some n) (w : World) : (sizeOf t).run P w = .ok n w := by
  unfold sizeT at h
  rw [Option.map_eq_some_iff] at h
  obtain ⟨i, h1, rfl⟩ := h
  simp [sizeOf, typeInfo, h1]
theorem run_aggT {t : TypeId} {b : Bool} (h : aggT P t = some b) (w : World) : (isAgg t).run P w = .ok b w := by
  unfold aggT at h
  unfold isAgg underlying
  cases e : P.underlying t with
  | none => rw [e] at h; cases h
  | some d => rw [e] at h; cases d <;> cases h <;> simp [e]

theorem cut_eq {cs c : List AV} {o n : Nat} (h : cut cs o n = some c) : o + n ≤ cs.length ∧ c = (cs.drop o).take n := by
  unfold cut at h
  split at h
  · rename_i q; cases h; exact ⟨q, rfl⟩
  · cases h
theorem cut_len {cs c : List AV} {o n : Nat} (h : cut cs o n = some c) : c.length = n := by
  obtain ⟨h1, rfl⟩ := cut_eq h
  simp; omega
theorem cut_get {cs c : List AV} {o n j : Nat} {v : AV} (h : cut cs o n = some c) (k : c[j]? = some v) : cs[o + j]? = some v := by
  obtain ⟨h1, rfl⟩ := cut_eq h
  rw [List.getElem?_take] at k
  split at k
  · rw [List.getElem?_drop] at k; exact k
  · cases k

/-- Cells that lie in memory, one behind the other. -/
def Lie (w0 : World) (ro : Nat → Prop) (μ : Mu) (w : World) (a : Addr) (cs : List AV) : Prop := ∃ vs, VRs w0 ro μ cs vs ∧ ∀ (j : Nat) (v : Value), vs[j]? = some v → w.cell? (a.add j) = some v
theorem add_at (c o j : Nat) : (⟨c, o, none⟩ : Addr).add j = ⟨c, o + j, none⟩ := by
  unfold Addr.add
  split
  · subst_vars; rfl
  · rfl
theorem lie_of {a : Addr} : ∀ {cs : List AV}, (∀ (j : Nat) (v : AV), cs[j]? = some v → ∃ v', w.cell? (a.add j) = some v' ∧ VR w0 ro μ v v') → Lie w0 ro μ w a cs := by
  intro cs h
  have hex : ∀ (l : List AV) (k : Nat), (∀ (j : Nat) (v : AV), l[j]? = some v → ∃ v', w.cell? (a.add (k + j)) = some v' ∧ VR w0 ro μ v v') → ∃ vs, VRs w0 ro μ l vs ∧ ∀ (j : Nat) (v : Value), vs[j]? = some v → w.cell? (a.add (k + j)) = some v := by
    intro l
    induction l with
    | nil => exact fun k _ => ⟨[], .nil, fun j v e => by simp at e⟩
    | cons x l ih =>
      intro k hk
      obtain ⟨x', hx, rx⟩ := hk 0 x rfl
      obtain ⟨vs, r, q⟩ := ih (k + 1) fun j v e => by
        have := hk (j + 1) v (by simpa using e)
        rwa [show k + (j + 1) = k + 1 + j from by omega] at this
      refine ⟨x' :: vs, .cons rx r, fun j v e => ?_⟩
      cases j with
      | zero => simp at e; subst e; exact hx
      | succ j =>
        have := q j v (by simpa using e)
        rwa [show k + 1 + j = k + (j + 1) from by omega] at this
  have := hex cs 0 (by simpa using h)
  simpa [Lie] using this
theorem lie_len {a : Addr} {cs : List AV} (h : Lie w0 ro μ w a cs) : (loadCells a cs.length).run P w = .ok h.choose.toArray w := by
  have hs := h.choose_spec
  rw [hs.1.len]
  exact run_loadCells_list w a _ hs.2

theorem HR.lie {b o n : Nat} {cs c : List AV} {loc : Loc} (hr : HR w0 ro μ H w) (hm : μ[b]? = some (some loc)) (h1 : H.cells? b = some cs) (h2 : cut cs o n = some c) : Lie w0 ro μ w ⟨loc.c, loc.k + o, none⟩ c := by
  have hb := hr.blk b loc hm
  unfold Heap.cells? at h1
  split at h1
  · rename_i g cs' e
    cases h1
    rw [e] at hb
    obtain ⟨_, arr, t, h3, h4, h5, h6⟩ := hb
    refine lie_of fun j v hj => ?_
    obtain ⟨_, v', h7, h8⟩ := h6 (o + j) v (cut_get h2 hj)
    refine ⟨v', ?_, h8⟩
    rw [add_at]
    simp [World.cell?, h3]
    rw [← h7]; congr 1; omega
  · cases h1
theorem RD.lie {cs c : List AV} {d off o n : Nat} (hr : HR w0 ro μ H w) (h0 : ro d) (h : RD w0 ro cs d off) (h2 : cut cs o n = some c) : Lie w0 ro μ w ⟨d, off + o, none⟩ c := by
  refine lie_of fun j v hj => ?_
  obtain ⟨v', h7, h8⟩ := h.get (cut_get h2 hj)
  refine ⟨v', ?_, h8.toVR⟩
  rw [add_at, ← h7, cell_stays (hr.old d h0).2]
  congr 2
  omega

theorem shape_VR {n : Option Nat} {cs : List AV} {vs : List Value} {r : AV} (h : shapeOf n cs = some r) (k : VRs w0 ro μ cs vs) :
    match n with | some _ => VR w0 ro μ r (.agg vs.toArray) | none => ∃ v, vs = [v] ∧ VR w0 ro μ r v := by
  cases n with
  | some n => simp [shapeOf] at h; subst h; exact .agg k
  | none =>
    simp only [shapeOf] at h
    split at h
    · cases h; cases k with | cons a t => cases t; exact ⟨_, rfl, a⟩
    · cases h

/-- A variable is read. -/
theorem sim_loadVar {t : TypeId} {n : Option Nat} {a : Addr} {c : List AV} {r : AV} (hs : shp P t = some n) (hl : Lie w0 ro μ w a c) (hn : c.length = n.getD 1) (h : shapeOf n c = some r) :
    ∃ v', (loadVar t a).run P w = .ok v' w ∧ VR w0 ro μ r v' := by
  obtain ⟨vs, hv, hc⟩ := hl
  have hsh := shape_VR h hv
  unfold shp at hs
  split at hs
  · rename_i m e1 e2
    cases hs
    have hll := run_loadCells_list (P := P) w a vs hc
    rw [← hv.len, hn] at hll
    simp only [Option.getD_some] at hll
    refine ⟨_, ?_, hsh⟩
    simp [loadVar, run_aggT e1, run_sizeT e2, hll]
  · rename_i e1 e2
    cases hs
    obtain ⟨v, rfl, hv'⟩ := hsh
    refine ⟨v, ?_, hv'⟩
    have := hc 0 v rfl
    simp [Addr.add] at this
    simp [loadVar, run_aggT e1, this]
  · cases hs

theorem sim_load {t : TypeId} {n : Option Nat} {av r : AV} {v : Value} (hr : HR w0 ro μ H w) (hs : shp P t = some n) (hv : VR w0 ro μ av v) (h : loadAt H n av = some r) :
    ∃ v', (Instr.loadAt t v).run P w = .ok v' w ∧ VR w0 ro μ r v' := by
  unfold loadAt at h
  split at h
  · rename_i b o
    rw [Option.bind_eq_some_iff] at h
    obtain ⟨cs, h1, h2⟩ := h
    rw [Option.bind_eq_some_iff] at h2
    obtain ⟨c, h2, h3⟩ := h2
    cases hv with
    | ptr hm =>
      obtain ⟨v', e, k⟩ := sim_loadVar hs (hr.lie hm h1 h2) (cut_len h2) h3
      exact ⟨v', by simp [Instr.loadAt, Instr.sureAddr, e], k⟩
  · rename_i cs
    rw [Option.bind_eq_some_iff] at h
    obtain ⟨c, h2, h3⟩ := h
    cases hv with
    | tp h0 hrd =>
      have := hrd.lie hr h0 h2
      simp only [Nat.add_zero] at this
      obtain ⟨v', e, k⟩ := sim_loadVar hs this (cut_len h2) h3
      exact ⟨v', by simp [Instr.loadAt, Instr.sureAddr, e], k⟩
  · cases h

/-! ## Stores -/
theorem setFrom_len : ∀ (vs cs : List AV) (o : Nat), (setFrom cs o vs).length = cs.length
  | [], cs, o => rfl
  | v :: vs, cs, o => by rw [setFrom, setFrom_len vs]; simp
theorem setFrom_get : ∀ (vs cs : List AV) (o j : Nat), o + vs.length ≤ cs.length → (setFrom cs o vs)[j]? = if o ≤ j ∧ j < o + vs.length then vs[j - o]? else cs[j]?
  | [], cs, o, j, _ => by
    rw [if_neg (by simp only [List.length_nil]; omega)]; rfl
  | v :: vs, cs, o, j, h => by
    rw [setFrom, setFrom_get vs _ (o + 1) j (by simp at h ⊢; omega), List.getElem?_set]
    simp only [List.length_cons] at h ⊢
    by_cases q : o ≤ j ∧ j < o + (vs.length + 1)
    · rw [if_pos q]
      by_cases q2 : o = j
      · subst q2
        rw [if_neg (by omega), if_pos rfl, if_pos (by omega)]
        simp
      · rw [if_pos (by omega), show j - o = (j - (o + 1)) + 1 from by omega]
        simp
    · rw [if_neg q, if_neg (by omega), if_neg (by omega)]

theorem row_get (arr : List Value) (o : Nat) (vs : List Value) (h : o + vs.length ≤ arr.length) (j : Nat) :
    (arr.take o ++ vs ++ arr.drop (o + vs.length))[j]? = if o ≤ j ∧ j < o + vs.length then vs[j - o]? else arr[j]? := by
  by_cases q1 : j < o
  · rw [if_neg (by omega), List.append_assoc, List.getElem?_append_left (by simp; omega), List.getElem?_take, if_pos q1]
  · by_cases q2 : j < o + vs.length
    · rw [if_pos ⟨by omega, q2⟩, List.append_assoc, List.getElem?_append_right (by simp; omega), List.getElem?_append_left (by simp; omega)]
      congr 1
      simp; omega
    · rw [if_neg (by omega), List.getElem?_append_right (by simp; omega), List.getElem?_drop]
      congr 1
      simp; omega

theorem oneCell_of {vs : List AV} {vs' : List Value} (h : VRs w0 ro μ vs vs') (k : ∀ v ∈ vs, v.one = true) : ∀ v ∈ vs', v.oneCell' = true := by
  intro v hv
  obtain ⟨i, hi, rfl⟩ := List.mem_iff_getElem.1 hv
  have hl := h.len
  have e : vs[i]? = some (vs[i]'(by omega)) := List.getElem?_eq_getElem _
  obtain ⟨v', h1, h2⟩ := h.get e
  rw [List.getElem?_eq_getElem hi] at h1
  cases h1
  have := h2.one (k _ (List.getElem_mem _))
  revert this
  cases vs'[i] <;> simp [Value.one, Value.oneCell']

/-- Cells of a block of ours are written. -/
theorem sim_storeCells {b o : Nat} {g : Bool} {cs vs : List AV} {vs' : List Value} {loc : Loc} (hr : HR w0 ro μ H w) (hlim : lim ≤ b) (hm : μ[b]? = some (some loc)) (hb : H[b]? = some (.cells g cs))
    (hv : VRs w0 ro μ vs vs') (hone : ∀ v ∈ vs, v.one = true) (hfit : o + vs.length ≤ cs.length) :
    ∃ w', (storeCells ⟨loc.c, loc.k + o, none⟩ vs' 0).run P w = .ok () w' ∧ Post w0 ro lim μ H w μ (H.set b (.cells g (setFrom cs o vs))) w' := by
  have hbr := hr.blk b loc hm
  rw [hb] at hbr
  obtain ⟨hnro, arr, t, h3, h4, h5, h6⟩ := hbr
  have hlen := hv.len
  have hrun := run_storeCells_at (P := P) loc.c (loc.k + o) t vs' 0 arr w h3 (by omega) (oneCell_of hv hone)
  refine ⟨_, hrun, ?_⟩
  simp only [Nat.add_zero]
  have hh := setRow_heap w loc.c arr (arr.toList.take (loc.k + o) ++ vs' ++ arr.toList.drop (loc.k + o + vs'.length)).toArray t (0, 0) h3
  refine Post.turn hr hlim hm (.inl ⟨g, cs, hb⟩) ?_ ?_ rfl rfl rfl ?_
  · simp [World.setRow]
  · intro c hc
    simp only [World.setRow, Array.getElem?_modify]
    rw [if_neg (fun e => hc e.symm)]
  · refine ⟨hnro, _, t, hh, ?_, ?_, ?_⟩
    · simp; omega
    · rw [setFrom_len]; simp; omega
    · intro j v hj
      rw [setFrom_get _ _ _ _ hfit] at hj
      rw [List.getElem?_toArray, row_get _ _ _ (by simp; omega)]
      split at hj
      · rename_i q
        rw [if_pos (by omega)]
        obtain ⟨v', k1, k2⟩ := hv.get hj
        refine ⟨hone v (List.mem_of_getElem? hj), v', ?_, k2⟩
        rw [← k1]; congr 1; omega
      · rename_i q
        rw [if_neg (by omega)]
        obtain ⟨k0, v', k1, k2⟩ := h6 j v hj
        exact ⟨k0, v', by rw [Array.getElem?_toList]; exact k1, k2⟩

theorem sim_store {t : TypeId} {n : Nat} {a v : AV} {a' v' : Value} {H' : Heap} (hr : HR w0 ro μ H w) (hs : sizeT P t = some n) (ha : VR w0 ro μ a a') (hv : VR w0 ro μ v v') (h : storeAt lim H n a v = some H') :
    ∃ w', (Instr.storeAt t a' v').run P w = .ok () w' ∧ Post w0 ro lim μ H w μ H' w' := by
  unfold storeAt at h
  split at h
  · rename_i b o
    split at h
    · rename_i hlim
      split at h
      · rename_i g cs e
        split at h
        · rename_i q
          cases h
          cases ha with
          | ptr hm =>
            have hc := hv.cells q.2.2
            obtain ⟨w', h1, h2⟩ := sim_storeCells (P := P) hr hlim hm e hc (fun x hx => List.all_eq_true.1 q.2.2 x hx) (by rw [q.1]; exact q.2.1)
            refine ⟨w', ?_, h2⟩
            have hsz : v'.cells.size = n := by
              have := hc.len
              simp only [Array.length_toList] at this
              exact this.symm.trans q.1
            simp [Instr.storeAt, Instr.sureAddr, storeVar, run_sizeT hs, hsz, h1]
        · cases h
      · cases h
    · cases h
  · cases h

/-! ## New variables -/
theorem sim_newRow {vs : List AV} {arr : Array Value} {t : TypeId} {g : Bool} (lim : Nat) (hr : HR w0 ro μ H w) (hv : VRs w0 ro μ vs (arr.toList.take vs.length)) (hl : vs.length ≤ arr.size) (hone : ∀ v ∈ vs, v.one = true) :
    Post w0 ro lim μ H w (μ ++ [some ⟨w.heap.size, 0, arr.size⟩]) (H ++ [.cells g vs]) (w.alloc (.cells arr t (0, 0))) := by
  refine Post.new hr (by simp) (fun c hc => Below.heap_alloc _ _ _ hc) rfl rfl rfl (Nat.le_refl _) ⟨fun h => ?_, arr, t, ?_, rfl, by simpa using hl, fun j v hj => ⟨hone v (List.mem_of_getElem? hj), ?_⟩⟩
  · have := (hr.old _ h).1; have := hr.grow; simp at *; omega
  · show (w.heap.push _)[w.heap.size]? = _
    simp
  · obtain ⟨v', h1, h2⟩ := hv.get hj
    refine ⟨v', ?_, h2.ext (Ext.app _ _)⟩
    rw [List.getElem?_take] at h1
    split at h1
    · simpa using h1
    · cases h1
theorem new_VR {arr : Array Value} (hr : HR w0 ro μ H w) : VR w0 ro (μ ++ [some ⟨w.heap.size, 0, arr.size⟩]) (.ptr (some (H.length, 0))) (.pointer (some ⟨w.heap.size, 0, none⟩)) := by
  have := VR.ptr (w0 := w0) (ro := ro) (μ := μ ++ [some (⟨w.heap.size, 0, arr.size⟩ : Loc)]) (b := H.length) (o := 0) (loc := ⟨w.heap.size, 0, arr.size⟩) (by rw [← hr.len]; simp)
  simpa using this

theorem zero_run {t : TypeId} {z : Value} (h : (P.info? t).bind (·.zero) = some z) (w : World) : (zeroValue t).run P w = .ok z w := by
  rw [Option.bind_eq_some_iff] at h
  obtain ⟨i, h1, h2⟩ := h
  simp [zeroValue, typeInfo, h1, h2]

end
end Go.Proofs.YtdbgebbofpgjmaaGreatA

/- How the small machine's values and memory lie in the program's, and that this lasts. No statement about the program is proved here. -/
import Derived.Test.YtdbgebbofpgjmaaGreatA0
import Derived.Below
import Derived.Laws.World
namespace Go.Proofs.YtdbgebbofpgjmaaGreatA
open Go
set_option linter.unusedVariables false

/-- Where a block lies: its block, the cell at which it begins, how many cells that block has. -/
structure Loc where
  c : Nat
  k : Nat
  sz : Nat

abbrev Mu := List (Option Loc)

section
variable (w0 : World) (ro : Nat → Prop)

/-! Values that are only read: no place of ours is in them. -/
mutual
inductive TR : AV → Value → Prop
  | bool (b) : TR (.bool b) (.bool b)
  | int (k n) : TR (.int k n) (.int k n)
  | str {l s} (h : s.data.toList = l) : TR (.str l) (.string s)
  | ptrn : TR (.ptr none) (.pointer none)
  | ro0 {cs} (a cap) (h : cs = []) : TR (.ro 0 cs) (.slice a 0 cap)
  | ro {n cs c off cap} (h0 : ro c) (hn : n ≤ cap) (h : RD cs c off) : TR (.ro n cs) (.slice (some ⟨c, off, none⟩) n cap)
  | mapn : TR (.mapv none) (.map none)
  | fn (f) : TR (.fn f [] []) (.func f #[] #[])
  | nilfn : TR .nilfn .nilFunc
  | niliface : TR .niliface .nilIface
  | agg {cs vs} (h : TRs cs vs) : TR (.agg cs) (.agg vs.toArray)
inductive TRs : List AV → List Value → Prop
  | nil : TRs [] []
  | cons {v v' vs vs'} (h : TR v v') (t : TRs vs vs') : TRs (v :: vs) (v' :: vs')
inductive RD : List AV → Nat → Nat → Prop
  | nil (c off) : RD [] c off
  | cons {v v' vs c off} (h0 : w0.cell? ⟨c, off, none⟩ = some v') (h : TR v v') (t : RD vs c (off + 1)) : RD (v :: vs) c off
end

mutual
inductive VR (μ : Mu) : AV → Value → Prop
  | undef (v) : VR μ .undef v
  | noval : VR μ .noval Go.undef
  | bool (b) : VR μ (.bool b) (.bool b)
  | int (k n) : VR μ (.int k n) (.int k n)
  | str {l s} (h : s.data.toList = l) : VR μ (.str l) (.string s)
  | ptrn : VR μ (.ptr none) (.pointer none)
  | ptr {b o loc} (h : μ[b]? = some (some loc)) : VR μ (.ptr (some (b, o))) (.pointer (some ⟨loc.c, loc.k + o, none⟩))
  | tp {cs c off} (h0 : ro c) (h : RD w0 ro cs c off) : VR μ (.tp cs) (.pointer (some ⟨c, off, none⟩))
  | nilsl (a) : VR μ .nilsl (.slice a 0 0)
  | sl {b o n es loc cap} (h : μ[b]? = some (some loc)) (hn : n ≤ cap) (hc : loc.k + o + cap * es ≤ loc.sz) : VR μ (.sl b o n es) (.slice (some ⟨loc.c, loc.k + o, none⟩) n cap)
  | sl0 {b o es} (a) : VR μ (.sl b o 0 es) (.slice a 0 0)
  | slc {b o n c es loc} (h : μ[b]? = some (some loc)) (hn : n ≤ c) (hc : loc.k + o + c * es ≤ loc.sz) : VR μ (.slc b o n c es) (.slice (some ⟨loc.c, loc.k + o, none⟩) n c)
  | ro0 {cs} (a cap) (h : cs = []) : VR μ (.ro 0 cs) (.slice a 0 cap)
  | ro {n cs c off cap} (h0 : ro c) (hn : n ≤ cap) (h : RD w0 ro cs c off) : VR μ (.ro n cs) (.slice (some ⟨c, off, none⟩) n cap)
  | mapn : VR μ (.mapv none) (.map none)
  | map {b loc} (h : μ[b]? = some (some loc)) : VR μ (.mapv (some b)) (.map (some loc.c))
  | fn {f as bs as' bs'} (h : VRs μ as as') (h' : VRs μ bs bs') : VR μ (.fn f as bs) (.func f as'.toArray bs'.toArray)
  | nilfn : VR μ .nilfn .nilFunc
  | iface {t v v'} (h : VR μ v v') : VR μ (.iface t v) (.iface t v')
  | niliface : VR μ .niliface .nilIface
  | agg {cs vs} (h : VRs μ cs vs) : VR μ (.agg cs) (.agg vs.toArray)
  | tup {cs vs} (h : VRs μ cs vs) : VR μ (.tup cs) (.tuple vs.toArray)
inductive VRs (μ : Mu) : List AV → List Value → Prop
  | nil : VRs μ [] []
  | cons {v v' vs vs'} (h : VR μ v v') (t : VRs μ vs vs') : VRs μ (v :: vs) (v' :: vs')
end
end

section
variable {w0 : World} {ro : Nat → Prop}

mutual
theorem TR.toVR {μ : Mu} : ∀ {v v'}, TR w0 ro v v' → VR w0 ro μ v v'
  | _, _, .bool b => .bool b
  | _, _, .int k n => .int k n
  | _, _, .str h => .str h
  | _, _, .ptrn => .ptrn
  | _, _, .ro0 a c h => .ro0 a c h
  | _, _, .ro h0 hn h => .ro h0 hn h
  | _, _, .mapn => .mapn
  | _, _, .fn f => .fn (as' := []) (bs' := []) .nil .nil
  | _, _, .nilfn => .nilfn
  | _, _, .niliface => .niliface
  | _, _, .agg h => .agg (TRs.toVRs h)
theorem TRs.toVRs {μ : Mu} : ∀ {v v'}, TRs w0 ro v v' → VRs w0 ro μ v v'
  | _, _, .nil => .nil
  | _, _, .cons h t => .cons (TR.toVR h) (TRs.toVRs t)
end

/-- What is only read lasts where its blocks last. -/
def Stays (w0 : World) (ro : Nat → Prop) (w1 : World) (ro1 : Nat → Prop) : Prop := ∀ c, ro c → ro1 c ∧ w1.heap[c]? = w0.heap[c]?

theorem cell_stays {w0 w1 : World} {c off : Nat} (h : w1.heap[c]? = w0.heap[c]?) : w1.cell? ⟨c, off, none⟩ = w0.cell? ⟨c, off, none⟩ := by
  unfold World.cell?
  simp only [h]

mutual
theorem TR.stays {w1 : World} {ro1 : Nat → Prop} (S : Stays w0 ro w1 ro1) : ∀ {v v'}, TR w0 ro v v' → TR w1 ro1 v v'
  | _, _, .bool b => .bool b
  | _, _, .int k n => .int k n
  | _, _, .str h => .str h
  | _, _, .ptrn => .ptrn
  | _, _, .ro0 a c h => .ro0 a c h
  | _, _, .ro h0 hn h => .ro (S _ h0).1 hn (RD.stays S h0 h)
  | _, _, .mapn => .mapn
  | _, _, .fn f => .fn f
  | _, _, .nilfn => .nilfn
  | _, _, .niliface => .niliface
  | _, _, .agg h => .agg (TRs.stays S h)
theorem TRs.stays {w1 : World} {ro1 : Nat → Prop} (S : Stays w0 ro w1 ro1) : ∀ {v v'}, TRs w0 ro v v' → TRs w1 ro1 v v'
  | _, _, .nil => .nil
  | _, _, .cons h t => .cons (TR.stays S h) (TRs.stays S t)
theorem RD.stays {w1 : World} {ro1 : Nat → Prop} (S : Stays w0 ro w1 ro1) {c : Nat} (hc : ro c) : ∀ {v off}, RD w0 ro v c off → RD w1 ro1 v c off
  | _, _, .nil c off => .nil c off
  | _, _, .cons h0 h t => .cons ((cell_stays (S _ hc).2).trans h0) (TR.stays S h) (RD.stays S hc t)
end

def Ext (μ μ' : Mu) : Prop := ∀ (b : Nat) (loc : Loc), μ[b]? = some (some loc) → μ'[b]? = some (some loc)
theorem Ext.refl (μ : Mu) : Ext μ μ := fun _ _ h => h
theorem Ext.trans {a b c : Mu} (h : Ext a b) (k : Ext b c) : Ext a c := fun _ _ e => k _ _ (h _ _ e)
theorem Ext.app (μ ν : Mu) : Ext μ (μ ++ ν) := fun b loc h => by
  have hb : b < μ.length := by
    rcases Nat.lt_or_ge b μ.length with q | q
    · exact q
    · rw [List.getElem?_eq_none q] at h; cases h
  rw [List.getElem?_append_left hb]; exact h

mutual
theorem VR.ext {μ μ' : Mu} (E : Ext μ μ') : ∀ {v v'}, VR w0 ro μ v v' → VR w0 ro μ' v v'
  | _, _, .undef v => .undef v
  | _, _, .noval => .noval
  | _, _, .bool b => .bool b
  | _, _, .int k n => .int k n
  | _, _, .str h => .str h
  | _, _, .ptrn => .ptrn
  | _, _, .ptr h => .ptr (E _ _ h)
  | _, _, .tp h0 h => .tp h0 h
  | _, _, .nilsl a => .nilsl a
  | _, _, .sl h hn hc => .sl (E _ _ h) hn hc
  | _, _, .sl0 a => .sl0 a
  | _, _, .slc h hn hc => .slc (E _ _ h) hn hc
  | _, _, .ro0 a c h => .ro0 a c h
  | _, _, .ro h0 hn h => .ro h0 hn h
  | _, _, .mapn => .mapn
  | _, _, .map h => .map (E _ _ h)
  | _, _, .fn h h' => .fn (VRs.ext E h) (VRs.ext E h')
  | _, _, .nilfn => .nilfn
  | _, _, .iface h => .iface (VR.ext E h)
  | _, _, .niliface => .niliface
  | _, _, .agg h => .agg (VRs.ext E h)
  | _, _, .tup h => .tup (VRs.ext E h)
theorem VRs.ext {μ μ' : Mu} (E : Ext μ μ') : ∀ {v v'}, VRs w0 ro μ v v' → VRs w0 ro μ' v v'
  | _, _, .nil => .nil
  | _, _, .cons h t => .cons (VR.ext E h) (VRs.ext E t)
end

theorem VRs.len {μ : Mu} : ∀ {v v'}, VRs w0 ro μ v v' → v.length = v'.length
  | _, _, .nil => rfl
  | _, _, .cons _ t => by simp [VRs.len t]
theorem VRs.get {μ : Mu} : ∀ {vs : List AV} {vs' : List Value}, VRs w0 ro μ vs vs' → ∀ {i : Nat} {v : AV}, vs[i]? = some v → ∃ v' : Value, vs'[i]? = some v' ∧ VR w0 ro μ v v'
  | _, _, .nil, i, v, h => by simp at h
  | _, _, .cons h t, 0, v, e => by simp at e; subst e; exact ⟨_, rfl, h⟩
  | _, _, .cons h t, i + 1, v, e => by simp at e; simpa using VRs.get t e
theorem VRs.app {μ : Mu} : ∀ {a a' b b'}, VRs w0 ro μ a a' → VRs w0 ro μ b b' → VRs w0 ro μ (a ++ b) (a' ++ b')
  | _, _, _, _, .nil, k => k
  | _, _, _, _, .cons h t, k => .cons h (VRs.app t k)
theorem VRs.take {μ : Mu} : ∀ {a a'} (n : Nat), VRs w0 ro μ a a' → VRs w0 ro μ (a.take n) (a'.take n)
  | _, _, 0, _ => by simp; exact .nil
  | _, _, n + 1, .nil => by simp; exact .nil
  | _, _, n + 1, .cons h t => .cons h (VRs.take n t)
theorem VRs.drop {μ : Mu} : ∀ {a a'} (n : Nat), VRs w0 ro μ a a' → VRs w0 ro μ (a.drop n) (a'.drop n)
  | _, _, 0, h => by simpa using h
  | _, _, n + 1, .nil => by simp; exact .nil
  | _, _, n + 1, .cons h t => by simpa using VRs.drop n t
theorem VRs.set {μ : Mu} : ∀ {a a'} (i : Nat) {v v'}, VRs w0 ro μ a a' → VR w0 ro μ v v' → VRs w0 ro μ (a.set i v) (a'.set i v')
  | _, _, _, _, _, .nil, _ => by simp; exact .nil
  | _, _, 0, _, _, .cons h t, k => .cons k t
  | _, _, i + 1, _, _, .cons h t, k => .cons h (VRs.set i t k)
theorem VRs.of_get {μ : Mu} : ∀ {vs : List AV} {vs' : List Value}, vs.length = vs'.length → (∀ (i : Nat) (v : AV), vs[i]? = some v → ∃ v', vs'[i]? = some v' ∧ VR w0 ro μ v v') → VRs w0 ro μ vs vs'
  | [], [], _, _ => .nil
  | [], _ :: _, h, _ => by simp at h
  | _ :: _, [], h, _ => by simp at h
  | v :: vs, v' :: vs', h, k => by
    obtain ⟨u, hu, r⟩ := k 0 v rfl
    simp at hu; subst hu
    exact .cons r (VRs.of_get (by simpa using h) fun i x hx => by simpa using k (i + 1) x (by simpa using hx))
theorem RD.get : ∀ {cs : List AV} {c off : Nat}, RD w0 ro cs c off → ∀ {i : Nat} {v : AV}, cs[i]? = some v → ∃ v', w0.cell? ⟨c, off + i, none⟩ = some v' ∧ TR w0 ro v v'
  | _, _, _, .nil _ _, i, v, h => by simp at h
  | _, _, _, .cons h0 h t, 0, v, e => by simp at e; subst e; exact ⟨_, h0, h⟩
  | _, _, _, .cons h0 h t, i + 1, v, e => by
    simp at e
    obtain ⟨v', a, b⟩ := RD.get t e
    exact ⟨v', by rw [← a]; congr 2; omega, b⟩
theorem RD.drop : ∀ {cs c off} (n : Nat), RD w0 ro cs c off → RD w0 ro (cs.drop n) c (off + n)
  | _, _, _, 0, h => by simpa using h
  | _, _, _, n + 1, .nil _ _ => by simp; exact .nil _ _
  | _, _, off, n + 1, .cons h0 h t => by
    have := RD.drop n t
    rw [show off + 1 + n = off + (n + 1) from by omega] at this
    simpa using this
theorem RD.take : ∀ {cs c off} (n : Nat), RD w0 ro cs c off → RD w0 ro (cs.take n) c off
  | _, _, _, 0, h => by simp; exact .nil _ _
  | _, _, _, n + 1, .nil _ _ => by simp; exact .nil _ _
  | _, _, _, n + 1, .cons h0 h t => .cons h0 h (RD.take n t)
theorem RD.of_get : ∀ {cs : List AV} {c off : Nat}, (∀ (i : Nat) (v : AV), cs[i]? = some v → ∃ v', w0.cell? ⟨c, off + i, none⟩ = some v' ∧ TR w0 ro v v') → RD w0 ro cs c off
  | [], c, off, _ => .nil _ _
  | v :: vs, c, off, k => by
    obtain ⟨u, hu, r⟩ := k 0 v rfl
    refine .cons hu r (RD.of_get fun i x hx => ?_)
    obtain ⟨u', hu', r'⟩ := k (i + 1) x (by simpa using hx)
    exact ⟨u', by rw [← hu']; congr 2; omega, r'⟩

/-- May it lie in one cell (of the program's memory)? -/
def Value.one : Value → Bool
  | .agg _ | .tuple _ => false
  | _ => true
theorem VR.one {μ : Mu} {v v'} (h : VR w0 ro μ v v') (k : v.one = true) : Value.one v' = true := by
  cases h <;> first | rfl | simp [AV.one] at k
theorem VR.cells {μ : Mu} {v v'} (h : VR w0 ro μ v v') (k : v.cells.all AV.one = true) : VRs w0 ro μ v.cells v'.cells.toList := by
  cases h <;> first | (simp [AV.cells, Value.cells]; assumption) | (simp only [AV.cells, Value.cells]; refine .cons ?_ .nil; constructor <;> assumption) | (simp [AV.cells, AV.one] at k)

/-- A block and its place. -/
def BR (w0 : World) (ro : Nat → Prop) (μ : Mu) (loc : Loc) (w : World) : Option ABlk → Prop
  | some (.cells _ cs) => ¬ ro loc.c ∧ ∃ arr t, w.heap[loc.c]? = some (.cells arr t (0, 0)) ∧ arr.size = loc.sz ∧ loc.k + cs.length ≤ arr.size ∧
      ∀ (j : Nat) (v : AV), cs[j]? = some v → v.one = true ∧ ∃ v', arr[loc.k + j]? = some v' ∧ VR w0 ro μ v v'
  | some (.map es clock) => ¬ ro loc.c ∧ ∃ ces, w.heap[loc.c]? = some (.map ces clock) ∧ ces.size = es.length ∧
      ∀ (i : Nat) (k v : AV) (b : Nat), es[i]? = some (k, v, b) → ∃ e : MapEntry, ces[i]? = some e ∧ e.born = b ∧ VR w0 ro μ k e.key ∧ VR w0 ro μ v e.val
  | some (.iter m since seen last) => ¬ ro loc.c ∧ loc.k = 0 ∧ ∃ m' : Option Nat, w.heap[loc.c]? = some (.mapIter m' since seen.toArray last) ∧
      match m, m' with | none, none => True | some b, some c => ∃ l : Loc, μ[b]? = some (some l) ∧ l.c = c | _, _ => False
  | some .dead => True
  | none => False

def alive (H : Heap) (b : Nat) : Prop := (∃ g cs, H[b]? = some (.cells g cs)) ∨ (∃ es c, H[b]? = some (.map es c)) ∨ ∃ m s l k, H[b]? = some (.iter m s l k)

structure HR (w0 : World) (ro : Nat → Prop) (μ : Mu) (H : Heap) (w : World) : Prop where
  len : μ.length = H.length
  grow : w0.heap.size ≤ w.heap.size
  old : ∀ c, ro c → c < w0.heap.size ∧ w.heap[c]? = w0.heap[c]?
  blk : ∀ (b : Nat) (loc : Loc), μ[b]? = some (some loc) → BR w0 ro μ loc w H[b]?
  inj : ∀ (b b' : Nat) (loc loc' : Loc), alive H b → alive H b' → μ[b]? = some (some loc) → μ[b']? = some (some loc') → loc.c = loc'.c → b = b'

/-- Which blocks may be written. -/
def Owned (μ : Mu) (H : Heap) (lim c : Nat) : Prop := ∃ (b : Nat) (loc : Loc), lim ≤ b ∧ alive H b ∧ μ[b]? = some (some loc) ∧ loc.c = c

structure Post (w0 : World) (ro : Nat → Prop) (lim : Nat) (μ : Mu) (H : Heap) (w : World) (μ' : Mu) (H' : Heap) (w' : World) : Prop where
  app : ∃ ν, μ' = μ ++ ν
  hr : HR w0 ro μ' H' w'
  os : w'.os = w.os
  tape : w'.tape = w.tape
  output : w'.output = w.output
  size : w.heap.size ≤ w'.heap.size
  frame : ∀ c, c < w.heap.size → ¬ Owned μ H lim c → w'.heap[c]? = w.heap[c]?
  sub : ∀ c, c < w.heap.size → Owned μ' H' lim c → Owned μ H lim c
  low : ∀ b, b < lim → b < H.length → H'[b]? = H[b]?
  more : H.length ≤ H'.length

theorem Post.ext {lim : Nat} {μ μ' : Mu} {H H' : Heap} {w w' : World} (h : Post w0 ro lim μ H w μ' H' w') : Ext μ μ' := by
  obtain ⟨ν, rfl⟩ := h.app
  exact Ext.app _ _
theorem Post.refl {lim : Nat} {μ : Mu} {H : Heap} {w : World} (h : HR w0 ro μ H w) : Post w0 ro lim μ H w μ H w :=
  ⟨⟨[], by simp⟩, h, rfl, rfl, rfl, Nat.le_refl _, fun _ _ _ => rfl, fun _ _ h => h, fun _ _ _ => rfl, Nat.le_refl _⟩
theorem Post.trans {lim : Nat} {μ : Mu} {H : Heap} {w : World} {μ1 : Mu} {H1 : Heap} {w1 : World} {μ2 : Mu} {H2 : Heap} {w2 : World} (h : Post w0 ro lim μ H w μ1 H1 w1) (k : Post w0 ro lim μ1 H1 w1 μ2 H2 w2) : Post w0 ro lim μ H w μ2 H2 w2 where
  app := by
    obtain ⟨ν, rfl⟩ := h.app
    obtain ⟨ν', rfl⟩ := k.app
    exact ⟨ν ++ ν', by simp⟩
  hr := k.hr
  os := k.os.trans h.os
  tape := k.tape.trans h.tape
  output := k.output.trans h.output
  size := Nat.le_trans h.size k.size
  frame := fun c hc ho => (k.frame c (Nat.lt_of_lt_of_le hc h.size) fun o => ho (h.sub c hc o)).trans (h.frame c hc ho)
  sub := fun c hc o => h.sub c hc (k.sub c (Nat.lt_of_lt_of_le hc h.size) o)
  low := fun b hb hl => (k.low b hb (Nat.lt_of_lt_of_le hl h.more)).trans (h.low b hb hl)
  more := Nat.le_trans h.more k.more

theorem HR.get {μ : Mu} {H : Heap} {w : World} {b : Nat} {loc : Loc} (h : HR w0 ro μ H w) (hm : μ[b]? = some (some loc)) : b < H.length := by
  rw [← h.len]
  rcases Nat.lt_or_ge b μ.length with q | q
  · exact q
  · rw [List.getElem?_eq_none q] at hm; cases hm

theorem BR.ext {μ : Mu} {μ' : Mu} {loc : Loc} {w : World} {blk : Option ABlk} (E : Ext μ μ') (h : BR w0 ro μ loc w blk) : BR w0 ro μ' loc w blk := by
  match blk, h with
  | some (.cells g cs), ⟨h0, arr, t, h1, h2, h3, h4⟩ => exact ⟨h0, arr, t, h1, h2, h3, fun j v e => let ⟨o, v', a, r⟩ := h4 j v e; ⟨o, v', a, r.ext E⟩⟩
  | some (.map es c), ⟨h0, ces, h1, h2, h3⟩ => exact ⟨h0, ces, h1, h2, fun i k v b e => let ⟨x, a, b, r, s⟩ := h3 i k v b e; ⟨x, a, b, r.ext E, s.ext E⟩⟩
  | some (.iter m s l k), ⟨h0, hk, m', h1, h2⟩ => exact ⟨h0, hk, m', h1, by
      cases m <;> cases m' <;> first | exact h2 | (obtain ⟨q, h3, h4⟩ := h2; exact ⟨q, E _ _ h3, h4⟩)⟩
  | some .dead, _ => trivial
theorem BR.world {μ : Mu} {loc : Loc} {w : World} {w' : World} {blk : Option ABlk} (e : w'.heap[loc.c]? = w.heap[loc.c]?) (h : BR w0 ro μ loc w blk) : BR w0 ro μ loc w' blk := by
  match blk, h with
  | some (.cells g cs), ⟨h0, arr, t, h1, h2⟩ => exact ⟨h0, arr, t, e.trans h1, h2⟩
  | some (.map es c), ⟨h0, ces, h1, h2⟩ => exact ⟨h0, ces, e.trans h1, h2⟩
  | some (.iter m s l k), ⟨h0, hk, m', h1, h2⟩ => exact ⟨h0, hk, m', e.trans h1, h2⟩
  | some .dead, _ => trivial
theorem BR.lt {μ : Mu} {loc : Loc} {w : World} {H : Heap} {b : Nat} (ha : alive H b) (h : BR w0 ro μ loc w H[b]?) : loc.c < w.heap.size := by
  have : ∀ o, w.heap[loc.c]? = some o → loc.c < w.heap.size := fun o e => (Array.getElem?_eq_some_iff.1 e).1
  rcases ha with ⟨g, cs, e⟩ | ⟨es, c, e⟩ | ⟨m, s, l, k, e⟩
  · rw [e] at h; obtain ⟨_, arr, t, h1, _⟩ := h; exact this _ h1
  · rw [e] at h; obtain ⟨_, ces, h1, _⟩ := h; exact this _ h1
  · rw [e] at h; obtain ⟨_, _, m', h1, _⟩ := h; exact this _ h1

/-- The world goes on, but no block of ours (or that we read) turns. -/
theorem HR.later {μ : Mu} {H : Heap} {w : World} {w' : World} (h : HR w0 ro μ H w) (hs : w.heap.size ≤ w'.heap.size) (hk : ∀ c, c < w.heap.size → w'.heap[c]? = w.heap[c]?) : HR w0 ro μ H w' where
  len := h.len
  grow := Nat.le_trans h.grow hs
  old := fun c hc => ⟨(h.old c hc).1, (hk c (Nat.lt_of_lt_of_le (h.old c hc).1 h.grow)).trans (h.old c hc).2⟩
  blk := fun b loc hm => by
    have hb := h.blk b loc hm
    cases e : H[b]? with
    | none => rw [e] at hb; exact hb.elim
    | some x =>
      rw [e] at hb
      cases x with
      | dead => trivial
      | cells g cs => exact BR.world (hk _ (BR.lt (H := H) (b := b) (.inl ⟨g, cs, e⟩) (by rw [e]; exact hb))) hb
      | map es c => exact BR.world (hk _ (BR.lt (H := H) (b := b) (.inr (.inl ⟨es, c, e⟩)) (by rw [e]; exact hb))) hb
      | iter m s l k => exact BR.world (hk _ (BR.lt (H := H) (b := b) (.inr (.inr ⟨m, s, l, k, e⟩)) (by rw [e]; exact hb))) hb
  inj := h.inj

theorem getElem?_snoc {α : Type} (l : List α) (x : α) (i : Nat) : (l ++ [x])[i]? = if i = l.length then some x else l[i]? := by
  rcases Nat.lt_trichotomy i l.length with h | h | h
  · rw [if_neg (by omega), List.getElem?_append_left h]
  · subst h; simp
  · rw [if_neg (by omega), List.getElem?_eq_none (by simp; omega), List.getElem?_eq_none (by omega)]

/-- A new block. -/
theorem HR.new {μ : Mu} {H : Heap} {w : World} {w1 : World} {loc : Loc} {blk : ABlk} (h : HR w0 ro μ H w) (hs : w.heap.size ≤ w1.heap.size) (hk : ∀ c, c < w.heap.size → w1.heap[c]? = w.heap[c]?)
    (hc : w.heap.size ≤ loc.c) (hb : BR w0 ro (μ ++ [some loc]) loc w1 (some blk)) : HR w0 ro (μ ++ [some loc]) (H ++ [blk]) w1 := by
  have hl := h.later hs hk
  refine ⟨by simp [h.len], hl.grow, hl.old, fun b l hm => ?_, fun b b' l l' ha ha' hm hm' e => ?_⟩
  · rw [getElem?_snoc] at hm ⊢
    rw [← h.len]
    split at hm
    · rename_i q; rw [if_pos q]; cases hm; exact hb
    · rename_i q; rw [if_neg q]; exact (hl.blk b l hm).ext (Ext.app _ _)
  · have lt : ∀ b l, alive (H ++ [blk]) b → b ≠ μ.length → μ[b]? = some (some l) → l.c < w.heap.size := fun b l ha q hm => by
      have ha' : alive H b := by
        unfold alive at ha ⊢
        rw [getElem?_snoc, if_neg (by rw [← h.len]; exact q)] at ha
        exact ha
      exact BR.lt ha' (h.blk b l hm)
    have back : ∀ b, alive (H ++ [blk]) b → b ≠ μ.length → alive H b := fun b ha q => by
      unfold alive at ha ⊢
      rw [getElem?_snoc, if_neg (by rw [← h.len]; exact q)] at ha
      exact ha
    rw [getElem?_snoc] at hm hm'
    split at hm <;> split at hm'
    · omega
    · rename_i q q'; cases hm; have := lt b' l' ha' q' hm'; omega
    · rename_i q q'; cases hm'; have := lt b l ha q hm; omega
    · rename_i q q'; exact h.inj b b' l l' (back b ha q) (back b' ha' q') hm hm' e

theorem Post.new {lim : Nat} {μ : Mu} {H : Heap} {w : World} {w1 : World} {loc : Loc} {blk : ABlk} (h : HR w0 ro μ H w) (hs : w.heap.size ≤ w1.heap.size) (hk : ∀ c, c < w.heap.size → w1.heap[c]? = w.heap[c]?)
    (hos : w1.os = w.os) (htape : w1.tape = w.tape) (hout : w1.output = w.output)
    (hc : w.heap.size ≤ loc.c) (hb : BR w0 ro (μ ++ [some loc]) loc w1 (some blk)) : Post w0 ro lim μ H w (μ ++ [some loc]) (H ++ [blk]) w1 where
  app := ⟨_, rfl⟩
  hr := h.new hs hk hc hb
  os := hos
  tape := htape
  output := hout
  size := hs
  frame := fun c hc _ => hk c hc
  sub := fun c hlt ⟨b, l, hb, ha, hm, e⟩ => by
    rw [getElem?_snoc] at hm
    split at hm
    · cases hm; omega
    · rename_i q
      refine ⟨b, l, hb, ?_, hm, e⟩
      unfold alive at ha ⊢
      rw [getElem?_snoc, if_neg (by rw [← h.len]; exact q)] at ha
      exact ha
  low := fun b _ hl => by rw [List.getElem?_append_left hl]
  more := by simp

theorem getElem?_set' {α : Type} (l : List α) (i j : Nat) (x : α) (hi : i < l.length) : (l.set i x)[j]? = if j = i then some x else l[j]? := by
  rw [List.getElem?_set]
  by_cases e : i = j
  · subst e; simp [hi]
  · rw [if_neg e, if_neg (Ne.symm e)]

/-- One block of ours turns. -/
theorem HR.turn {μ : Mu} {H : Heap} {w : World} {w1 : World} {b : Nat} {loc : Loc} {blk : ABlk} (h : HR w0 ro μ H w) (hm : μ[b]? = some (some loc)) (ha : alive H b) (hs : w1.heap.size = w.heap.size)
    (hk : ∀ c, c ≠ loc.c → w1.heap[c]? = w.heap[c]?) (hb : BR w0 ro μ loc w1 (some blk)) : HR w0 ro μ (H.set b blk) w1 := by
  have hro : ∀ c, ro c → c ≠ loc.c := fun c hc e => by
    have := h.blk b loc hm
    rcases ha with ⟨g, cs, q⟩ | ⟨es, k, q⟩ | ⟨m, s, l, k, q⟩ <;> rw [q] at this <;> exact this.1 (e ▸ hc)
  have hbl := h.get hm
  refine ⟨by simp [h.len], by rw [hs]; exact h.grow, fun c hc => ⟨(h.old c hc).1, (hk c (hro c hc)).trans (h.old c hc).2⟩, fun b' l hm' => ?_, fun b1 b2 l1 l2 a1 a2 m1 m2 e => ?_⟩
  · rw [getElem?_set' _ _ _ _ hbl]
    split
    · rename_i q; subst q; rw [hm] at hm'; cases hm'; exact hb
    · rename_i q
      have hb' := h.blk b' l hm'
      cases e : H[b']? with
      | none => rw [e] at hb'; exact hb'.elim
      | some x =>
        rw [e] at hb'
        cases x with
        | dead => trivial
        | cells g cs => exact BR.world (hk _ fun e' => q (h.inj b' b l loc (.inl ⟨g, cs, e⟩) ha hm' hm e')) hb'
        | map es c => exact BR.world (hk _ fun e' => q (h.inj b' b l loc (.inr (.inl ⟨es, c, e⟩)) ha hm' hm e')) hb'
        | iter m s l2 k => exact BR.world (hk _ fun e' => q (h.inj b' b l loc (.inr (.inr ⟨m, s, l2, k, e⟩)) ha hm' hm e')) hb'
  · have back : ∀ b', alive (H.set b blk) b' → alive H b' := fun b' a => by
      by_cases q : b' = b
      · subst q; exact ha
      · unfold alive at a ⊢
        rw [getElem?_set' _ _ _ _ hbl, if_neg q] at a
        exact a
    exact h.inj b1 b2 l1 l2 (back _ a1) (back _ a2) m1 m2 e

theorem Post.turn {lim : Nat} {μ : Mu} {H : Heap} {w : World} {w1 : World} {b : Nat} {loc : Loc} {blk : ABlk} (h : HR w0 ro μ H w) (hlim : lim ≤ b) (hm : μ[b]? = some (some loc)) (ha : alive H b) (hs : w1.heap.size = w.heap.size)
    (hk : ∀ c, c ≠ loc.c → w1.heap[c]? = w.heap[c]?) (hos : w1.os = w.os) (htape : w1.tape = w.tape) (hout : w1.output = w.output)
    (hb : BR w0 ro μ loc w1 (some blk)) : Post w0 ro lim μ H w μ (H.set b blk) w1 where
  app := ⟨[], by simp⟩
  hr := h.turn hm ha hs hk hb
  os := hos
  tape := htape
  output := hout
  size := by omega
  frame := fun c _ ho => hk c fun e => ho ⟨b, loc, hlim, ha, hm, e.symm⟩
  sub := fun c _ ⟨b', l, q, a, m, e⟩ => ⟨b', l, q, by
    by_cases qq : b' = b
    · subst qq; exact ha
    · unfold alive at a ⊢
      rw [getElem?_set' _ _ _ _ (h.get hm), if_neg qq] at a
      exact a, m, e⟩
  low := fun b' q _ => by rw [getElem?_set' _ _ _ _ (h.get hm), if_neg (by omega)]
  more := by simp

end
end Go.Proofs.YtdbgebbofpgjmaaGreatA

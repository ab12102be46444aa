/- The small machine's operations come to what the program's come to (rows that grow, structs put together, lengths, maxima). No statement about the program is proved here. -/
import Derived.Test.YtdbgebbofpgjmaaGreatA4
import Derived.Laws.AppendOwn
import Derived.Laws.Tables
namespace Go.Proofs.YtdbgebbofpgjmaaGreatA
open Go Go.RowKit
set_option linter.unusedVariables false

section
variable {w0 : World} {ro : Nat → Prop} {P : Program} {μ : Mu} {H : Heap} {w : World} {T : Tmps} {lim : Nat}

theorem alive_dead {b : Nat} {H : Heap} (hb : b < H.length) : ¬ alive (H.set b .dead) b := by
  unfold alive
  rw [getElem?_set' _ _ _ _ hb, if_pos rfl]
  simp
theorem alive_other {b b' : Nat} {H : Heap} {x : ABlk} (hb : b < H.length) (hne : b' ≠ b) : alive (H.set b x) b' ↔ alive H b' := by
  unfold alive
  rw [getElem?_set' _ _ _ _ hb, if_neg hne]

/-- A block of ours is given up. -/
theorem Post.kill {b : Nat} {loc : Loc} (hr : HR w0 ro μ H w) (hlim : lim ≤ b) (hm : μ[b]? = some (some loc)) (ha : alive H b) : Post w0 ro lim μ H w μ (H.set b .dead) w :=
  Post.turn hr hlim hm ha rfl (fun _ _ => rfl) rfl rfl rfl trivial

theorem Post.kill' {b : Nat} (hr : HR w0 ro μ H w) (hlim : lim ≤ b) (hb : b < H.length) : Post w0 ro lim μ H w μ (H.set b .dead) w where
  app := ⟨[], by simp⟩
  hr := by
    refine ⟨by simp [hr.len], hr.grow, hr.old, fun i l h => ?_, fun i j l l' hi hj h h' e => ?_⟩
    · rw [getElem?_set' _ _ _ _ hb]
      split
      · trivial
      · exact hr.blk i l h
    · have hib : i ≠ b := fun q => alive_dead hb (q ▸ hi)
      have hjb : j ≠ b := fun q => alive_dead hb (q ▸ hj)
      exact hr.inj i j l l' ((alive_other hb hib).1 hi) ((alive_other hb hjb).1 hj) h h' e
  os := rfl
  tape := rfl
  output := rfl
  size := Nat.le_refl _
  frame := fun _ _ _ => rfl
  sub := fun c _ ⟨i, l, hi, ai, h, e⟩ => by
    have hib : i ≠ b := fun q => alive_dead hb (q ▸ ai)
    exact ⟨i, l, hi, (alive_other hb hib).1 ai, h, e⟩
  low := fun i hi _ => by rw [getElem?_set' _ _ _ _ hb, if_neg (by omega)]
  more := by simp

/-- A block of ours goes on under another number. -/
theorem Post.move {b : Nat} {loc : Loc} {k : Nat} {w1 : World} {g : Bool} {cs : List AV} (hr : HR w0 ro μ H w) (hlim : lim ≤ b) (hm : μ[b]? = some (some loc)) (ha : alive H b) (hs : w1.heap.size = w.heap.size)
    (hk : ∀ c, c ≠ loc.c → w1.heap[c]? = w.heap[c]?) (hos : w1.os = w.os) (htape : w1.tape = w.tape) (hout : w1.output = w.output)
    (hb : BR w0 ro (μ ++ [some ⟨loc.c, k, loc.sz⟩]) ⟨loc.c, k, loc.sz⟩ w1 (some (.cells g cs))) : Post w0 ro lim μ H w (μ ++ [some ⟨loc.c, k, loc.sz⟩]) (H.set b .dead ++ [.cells g cs]) w1 := by
  have hbl := hr.get hm
  have hl : (H.set b .dead).length = H.length := by simp
  have hkill := hr.turn (w1 := w1) (blk := .dead) hm ha hs hk trivial
  have get : ∀ i, (H.set b .dead ++ [ABlk.cells g cs])[i]? = if i = H.length then some (.cells g cs) else (H.set b .dead)[i]? := fun i => by rw [getElem?_snoc, hl]
  have back : ∀ i, alive (H.set b .dead ++ [ABlk.cells g cs]) i → i ≠ H.length → alive H i ∧ i ≠ b := fun i a q => by
    have a' : alive (H.set b .dead) i := by
      unfold alive at a ⊢; rw [get, if_neg q] at a; exact a
    by_cases e : i = b
    · subst e; exact absurd a' (alive_dead hbl)
    · exact ⟨(alive_other hbl e).1 a', e⟩
  refine ⟨⟨_, rfl⟩, ⟨by simp [hr.len], hkill.grow, hkill.old, fun i l h => ?_, fun i j l l' hi hj h h' e => ?_⟩, hos, htape, hout, by omega, fun c _ ho => hk c fun e => ho ⟨b, loc, hlim, ha, hm, e.symm⟩, fun c hc ⟨i, l, hi, ai, h, e⟩ => ?_, fun i hi hil => ?_, by simp⟩
  · rw [getElem?_snoc] at h
    rw [get, ← hr.len]
    split at h
    · rename_i q; rw [if_pos q]; cases h; exact hb
    · rename_i q; rw [if_neg q]; exact (hkill.blk i l h).ext (Ext.app _ _)
  · rw [getElem?_snoc, hr.len] at h h'
    split at h <;> split at h'
    · omega
    · rename_i q q'; cases h
      obtain ⟨a, ne⟩ := back j hj q'
      exact absurd (hr.inj j b l' loc a ha h' hm e.symm) ne
    · rename_i q q'; cases h'
      obtain ⟨a, ne⟩ := back i hi q
      exact absurd (hr.inj i b l loc a ha h hm e) ne
    · rename_i q q'
      exact hr.inj i j l l' (back i hi q).1 (back j hj q').1 h h' e
  · rw [getElem?_snoc, hr.len] at h
    split at h
    · cases h; exact ⟨b, loc, hlim, ha, hm, e⟩
    · rename_i q
      exact ⟨i, l, hi, (back i ai q).1, h, e⟩
  · rw [get, if_neg (by omega), getElem?_set' _ _ _ _ hbl, if_neg (by omega)]

/-! ## The elements of a row -/
theorem run_firstCells_heap {es m : Nat} {a : Addr} {n c : Nat} {vs : List Value} (hl : vs.length = m * es) (h : ∀ (j : Nat) (v : Value), vs[j]? = some v → w.cell? (a.add j) = some v) (w1 : World) (hw : w1.heap = w.heap) :
    (Builtin.firstCells es m (.slice (some a) n c)).run P w1 = .ok vs.toArray w1 :=
  run_firstCells_some w1 es m a n c vs hl fun j v e => by
    have := h j v e
    unfold World.cell? at this ⊢
    rw [hw]; exact this
theorem elems_run {es m : Nat} {x : AV} {x' : Value} {new : List AV} (hr : HR w0 ro μ H w) (hx : VR w0 ro μ x x') (h : elems H es x = some (m, new)) :
    ∃ base cap news, x' = .slice base m cap ∧ VRs w0 ro μ new news ∧ new.length = m * es ∧ ∀ w1 : World, w1.heap = w.heap → (Builtin.firstCells es m x').run P w1 = .ok news.toArray w1 := by
  have empty : ∀ (base : Option Addr) (cap : Nat) (w1 : World), (Builtin.firstCells es 0 (.slice base 0 cap)).run P w1 = .ok #[] w1 := fun base cap w1 => by
    cases base with
    | none => simp [Builtin.firstCells]
    | some a => simp [Builtin.firstCells, loadCells, loadCellsFrom]
  cases hx <;> simp only [elems] at h <;> try (cases h; done)
  case nilsl a =>
    cases h
    exact ⟨a, 0, [], rfl, .nil, by simp, fun w1 _ => empty _ _ _⟩
  case sl b o n es' loc cap hm hn hc =>
    split at h
    · rename_i q
      subst q
      rw [Option.bind_eq_some_iff] at h
      obtain ⟨cs, h1, h2⟩ := h
      rw [Option.map_eq_some_iff] at h2
      obtain ⟨c, h2, h3⟩ := h2
      cases h3
      obtain ⟨vs, hv, hl⟩ := hr.lie hm h1 h2
      have hlen := cut_len h2
      exact ⟨_, cap, vs, rfl, hv, hlen, fun w1 hw => run_firstCells_heap (by rw [← hv.len]; exact hlen) hl w1 hw⟩
    · cases h
  case slc b o n cap es' loc hm hn hc =>
    split at h
    · rename_i q
      subst q
      rw [Option.bind_eq_some_iff] at h
      obtain ⟨cs, h1, h2⟩ := h
      rw [Option.map_eq_some_iff] at h2
      obtain ⟨c, h2, h3⟩ := h2
      cases h3
      obtain ⟨vs, hv, hl⟩ := hr.lie hm h1 h2
      have hlen := cut_len h2
      exact ⟨_, cap, vs, rfl, hv, hlen, fun w1 hw => run_firstCells_heap (by rw [← hv.len]; exact hlen) hl w1 hw⟩
    · cases h
  case sl0 b o es' a =>
    split at h
    · rename_i q
      subst q
      rw [Option.bind_eq_some_iff] at h
      obtain ⟨cs, h1, h2⟩ := h
      rw [Option.map_eq_some_iff] at h2
      obtain ⟨c, h2, h3⟩ := h2
      cases h3
      have hlen := cut_len h2
      have : new = [] := List.length_eq_zero_iff.1 (by simpa using hlen)
      subst this
      exact ⟨a, 0, [], rfl, .nil, by simp, fun w1 _ => empty _ _ _⟩
    · cases h
  case ro0 cs a cap e0 =>
    subst e0
    split at h
    · cases h
      exact ⟨a, cap, [], rfl, .nil, by simp, fun w1 _ => empty _ _ _⟩
    · cases h
  case ro n cs c off cap h0 hn hd =>
    split at h
    · rename_i q
      cases h
      have hl := RD.lie (o := 0) (n := new.length) hr h0 hd (c := new) (by unfold cut; rw [if_pos (by omega)]; simp)
      simp only [Nat.add_zero] at hl
      obtain ⟨vs, hv, hl⟩ := hl
      exact ⟨_, cap, vs, rfl, hv, q, fun w1 hw => run_firstCells_heap (by rw [← hv.len]; exact q) hl w1 hw⟩
    · cases h

/-- The first ones alone. -/
theorem elems_part {es m : Nat} {x : AV} {x' : Value} {new : List AV} (hr : HR w0 ro μ H w) (hx : VR w0 ro μ x x') (h : elems H es x = some (m, new)) :
    ∃ base cap news, x' = .slice base m cap ∧ VRs w0 ro μ new news ∧ new.length = m * es ∧ ∀ k, k ≤ m → ∀ w1 : World, w1.heap = w.heap → (Builtin.firstCells es k x').run P w1 = .ok (news.take (k * es)).toArray w1 := by
  have empty : ∀ (base : Option Addr) (cap : Nat) (w1 : World), (Builtin.firstCells es 0 (.slice base 0 cap)).run P w1 = .ok #[] w1 := fun base cap w1 => by
    cases base with
    | none => simp [Builtin.firstCells]
    | some a => simp [Builtin.firstCells, loadCells, loadCellsFrom]
  cases hx <;> simp only [elems] at h <;> try (cases h; done)
  case nilsl a =>
    cases h
    exact ⟨a, 0, [], rfl, .nil, by simp, fun k hk w1 _ => (by obtain rfl : k = 0 := (by omega); simpa using empty _ _ _)⟩
  case sl b o n es' loc cap hm hn hc =>
    split at h
    · rename_i q
      subst q
      rw [Option.bind_eq_some_iff] at h
      obtain ⟨cs, h1, h2⟩ := h
      rw [Option.map_eq_some_iff] at h2
      obtain ⟨c, h2, h3⟩ := h2
      cases h3
      obtain ⟨vs, hv, hl⟩ := hr.lie hm h1 h2
      have hlen := cut_len h2
      exact ⟨_, cap, vs, rfl, hv, hlen, fun k hk w1 hw => run_firstCells_heap (by rw [List.length_take, ← hv.len, hlen]; exact Nat.min_eq_left (Nat.mul_le_mul_right _ hk)) (fun j v e => hl j v (by rw [List.getElem?_take] at e; split at e; exact e; cases e)) w1 hw⟩
    · cases h
  case slc b o n cap es' loc hm hn hc =>
    split at h
    · rename_i q
      subst q
      rw [Option.bind_eq_some_iff] at h
      obtain ⟨cs, h1, h2⟩ := h
      rw [Option.map_eq_some_iff] at h2
      obtain ⟨c, h2, h3⟩ := h2
      cases h3
      obtain ⟨vs, hv, hl⟩ := hr.lie hm h1 h2
      have hlen := cut_len h2
      exact ⟨_, cap, vs, rfl, hv, hlen, fun k hk w1 hw => run_firstCells_heap (by rw [List.length_take, ← hv.len, hlen]; exact Nat.min_eq_left (Nat.mul_le_mul_right _ hk)) (fun j v e => hl j v (by rw [List.getElem?_take] at e; split at e; exact e; cases e)) w1 hw⟩
    · cases h
  case sl0 b o es' a =>
    split at h
    · rename_i q
      subst q
      rw [Option.bind_eq_some_iff] at h
      obtain ⟨cs, h1, h2⟩ := h
      rw [Option.map_eq_some_iff] at h2
      obtain ⟨c, h2, h3⟩ := h2
      cases h3
      have hlen := cut_len h2
      have : new = [] := List.length_eq_zero_iff.1 (by simpa using hlen)
      subst this
      exact ⟨a, 0, [], rfl, .nil, by simp, fun k hk w1 _ => (by obtain rfl : k = 0 := (by omega); simpa using empty _ _ _)⟩
    · cases h
  case ro0 cs a cap e0 =>
    subst e0
    split at h
    · cases h
      exact ⟨a, cap, [], rfl, .nil, by simp, fun k hk w1 _ => (by obtain rfl : k = 0 := (by omega); simpa using empty _ _ _)⟩
    · cases h
  case ro n cs c off cap h0 hn hd =>
    split at h
    · rename_i q
      cases h
      have hl := RD.lie (o := 0) (n := new.length) hr h0 hd (c := new) (by unfold cut; rw [if_pos (by omega)]; simp)
      simp only [Nat.add_zero] at hl
      obtain ⟨vs, hv, hl⟩ := hl
      exact ⟨_, cap, vs, rfl, hv, q, fun k hk w1 hw => run_firstCells_heap (by rw [List.length_take, ← hv.len, q]; exact Nat.min_eq_left (Nat.mul_le_mul_right _ hk)) (fun j v e => hl j v (by rw [List.getElem?_take] at e; split at e; exact e; cases e)) w1 hw⟩
    · cases h

/-! ## append -/
theorem run_append_gen {t t2 ty e e2 : TypeId} {i : TypeInfo} {z : Value} {es n m cap cap2 : Nat} {base base2 : Option Addr} {olds news : List Value} (ht : P.underlying t = some (.slice e)) (ht2 : P.underlying t2 = some (.slice e2)) (hi : P.info? e = some i) (hz : i.zero = some z) (hes : i.size = es)
    (ho : (Builtin.firstCells es n (.slice base n cap)).run P w.drew = .ok olds.toArray w.drew) (hn : (Builtin.firstCells es m (.slice base2 m cap2)).run P w.drew = .ok news.toArray w.drew)
    (hg : cap < n + m) (h63 : n + m ≤ 9223372036854775807) (hfit : (n + m) * i.bytes ≤ 140737488355328) :
    (Builtin.append_ #[t, t2] ty #[.slice base n cap, .slice base2 m cap2]).run P w =
      .ok (.slice (some ⟨w.heap.size, 0, none⟩) (n + m) (grownCap w (n + m) cap e)) (w.drew.alloc (.cells (olds.toArray ++ news.toArray ++ Builtin.zeroCells z.cells (grownCap w (n + m) cap e - (n + m))) e)) := by
  have hn1 : ¬ (n + m ≤ cap) := by omega
  have h63' : ¬ (9223372036854775807 < ((n : Int) + (m : Int))) := by omega
  have h48 := growslice_fits hg hfit
  have h48' : ¬ (281474976710656 < Builtin.nextslicecap (n + m) cap * i.bytes) := by omega
  subst hes
  simp [Builtin.append_, run_underlying ht, run_underlying ht2, sizeOf, typeInfo, zeroValue, hi, hz, Builtin.lenOf, hn1, h63', h48', Question.forced, ho, hn, newRow, grownCap]
  congr 2
  apply Array.ext'
  simp [List.append_assoc]

theorem run_append_in {t t2 ty e e2 : TypeId} {i : TypeInfo} {es n m cap cap2 : Nat} {base base2 : Option Addr} {news : List Value} (ht : P.underlying t = some (.slice e)) (ht2 : P.underlying t2 = some (.slice e2)) (hi : P.info? e = some i) (hes : i.size = es)
    (hn : (Builtin.firstCells es m (.slice base2 m cap2)).run P w = .ok news.toArray w) (hg : n + m ≤ cap) :
    (Builtin.append_ #[t, t2] ty #[.slice base n cap, .slice base2 m cap2]).run P w =
      (match base with | some a => (storeCells (a.add (n * es)) news).run P w | none => .ok () w).andThen fun _ w' => .ok (.slice base (n + m) cap) w' := by
  subst hes
  cases base <;> simp [Builtin.append_, run_underlying ht, run_underlying ht2, sizeOf, typeInfo, hi, Builtin.lenOf, hg, hn, Result.andThen]

theorem vs_grow {t t2 ty e e2 : TypeId} {i : TypeInfo} {z : Value} {es n m cap cap2 : Nat} {base base2 : Option Addr} {old new : List AV} {olds news : List Value} (hr : HR w0 ro μ H w) (ht : P.underlying t = some (.slice e)) (ht2 : P.underlying t2 = some (.slice e2)) (hi : P.info? e = some i) (hz : i.zero = some z) (hes : i.size = es) (hzs : z.cells.size = es) (h0 : 0 < es)
    (ho : (Builtin.firstCells es n (.slice base n cap)).run P w.drew = .ok olds.toArray w.drew) (hn : (Builtin.firstCells es m (.slice base2 m cap2)).run P w.drew = .ok news.toArray w.drew)
    (hv : VRs w0 ro μ old olds) (hv2 : VRs w0 ro μ new news) (hlo : old.length = n * es) (hln : new.length = m * es) (ho1 : ∀ v ∈ old, v.one = true) (hn1 : ∀ v ∈ new, v.one = true)
    (hg : cap < n + m) (h63 : n + m ≤ 9223372036854775807) (hfit : (n + m) * i.bytes ≤ 140737488355328) :
    VS w0 ro P lim μ H w (Builtin.append_ #[t, t2] ty #[.slice base n cap, .slice base2 m cap2]) (.sl H.length 0 (n + m) es) (H ++ [.cells true (old ++ new)]) := by
  have hrun := run_append_gen (ty := ty) ht ht2 hi hz hes ho hn hg h63 hfit
  have hcap : n + m ≤ grownCap w (n + m) cap e := by simp only [grownCap, Question.cut]; omega
  have hr' : HR w0 ro μ H w.drew := hr.later (Nat.le_refl _) (fun _ _ => rfl)
  generalize hG : grownCap w (n + m) cap e = G at *
  have hsz : (olds.toArray ++ news.toArray ++ Builtin.zeroCells z.cells (G - (n + m))).size = G * es := by
    simp only [Array.size_append, List.size_toArray, size_zeroCells, hzs, ← hv.len, ← hv2.len, hlo, hln]
    rw [← Nat.add_mul, ← Nat.add_mul]; congr 1; omega
  have hnew := sim_newRow (g := true) (t := e) lim (arr := olds.toArray ++ news.toArray ++ Builtin.zeroCells z.cells (G - (n + m))) hr' (vs := old ++ new)
    (by
      have hz2 : (olds.toArray ++ news.toArray ++ Builtin.zeroCells z.cells (G - (n + m))).toList.take (old ++ new).length = olds ++ news := by
        rw [Array.toList_append, Array.toList_append, List.take_append_of_le_length (by simp [hv.len, hv2.len]), List.take_of_length_le (by simp [hv.len, hv2.len])]
      rw [hz2]; exact hv.app hv2)
    (by simp only [Array.size_append, List.size_toArray, List.length_append, hv.len, hv2.len]; omega)
    (fun v hm => by rcases List.mem_append.1 hm with q | q; exact ho1 v q; exact hn1 v q)
  refine ⟨_, _, μ ++ [some ⟨w.drew.heap.size, 0, (olds.toArray ++ news.toArray ++ Builtin.zeroCells z.cells (G - (n + m))).size⟩], hrun, ?_, ?_⟩
  · have hd : Post w0 ro lim μ H w μ H w.drew := ⟨⟨[], by simp⟩, hr', rfl, rfl, rfl, Nat.le_refl _, fun _ _ _ => rfl, fun _ _ h => h, fun _ _ _ => rfl, Nat.le_refl _⟩
    exact hd.trans hnew
  · have := VR.sl (w0 := w0) (ro := ro) (μ := μ ++ [some (⟨w.drew.heap.size, 0, (olds.toArray ++ news.toArray ++ Builtin.zeroCells z.cells (G - (n + m))).size⟩ : Loc)]) (b := H.length) (o := 0) (n := n + m) (es := es) (cap := G)
      (loc := ⟨w.drew.heap.size, 0, (olds.toArray ++ news.toArray ++ Builtin.zeroCells z.cells (G - (n + m))).size⟩) (by rw [← hr.len]; simp) hcap (by simp only [hsz]; omega)
    simpa using this

theorem all_one {vs : List AV} (h : vs.all AV.one = true) : ∀ v ∈ vs, v.one = true := fun v hv => List.all_eq_true.1 h v hv

theorem vs_append {t t2 ty e e2 : TypeId} {i : TypeInfo} {z : Value} {es : Nat} {s x r : AV} {s' x' : Value} {H' : Heap} (hr : HR w0 ro μ H w) (ht : P.underlying t = some (.slice e)) (ht2 : P.underlying t2 = some (.slice e2)) (hi : P.info? e = some i) (hz : i.zero = some z) (hes : i.size = es) (hzs : z.cells.size = es)
    (hs : VR w0 ro μ s s') (hx : VR w0 ro μ x x') (h : appendAV lim H es i.bytes s x = some (r, H')) : VS w0 ro P lim μ H w (Builtin.append_ #[t, t2] ty #[s', x']) r H' := by
  simp only [appendAV, Option.bind_eq_some_iff] at h
  obtain ⟨⟨m, new⟩, hel, h⟩ := h
  obtain ⟨base2, cap2, news, rfl, hv2, hln, hfc⟩ := elems_run (P := P) hr hx hel
  by_cases hm : m = 0
  · subst hm
    simp only [if_true] at h
    have hnil : news = [] := List.length_eq_zero_iff.1 (by rw [← hv2.len, hln]; simp)
    subst hnil
    have hrun : ∀ base n cap, n ≤ cap → (∃ a, base = some a ∨ True) → (Builtin.append_ #[t, t2] ty #[.slice base n cap, .slice base2 0 cap2]).run P w = .ok (.slice base n cap) w := fun base n cap hc _ => by
      rw [run_append_in ht ht2 hi hes (hfc w rfl) (by omega)]
      cases base <;> simp [storeCells, Result.andThen]
    cases hs <;> simp only at h <;> try (cases h; done)
    case nilsl a => cases h; exact VS.same hr (hrun a 0 0 (by omega) ⟨⟨0, 0, none⟩, .inr trivial⟩) (.nilsl a)
    case sl b o n es' loc cap hmu hn hc => cases h; exact VS.same hr (hrun _ n cap hn ⟨⟨0, 0, none⟩, .inr trivial⟩) (.sl hmu hn hc)
    case sl0 b o es' a => cases h; exact VS.same hr (hrun a 0 0 (by omega) ⟨⟨0, 0, none⟩, .inr trivial⟩) (.sl0 a)
    case ro0 cs a cap e0 => cases h; exact VS.same hr (hrun a 0 cap (by omega) ⟨⟨0, 0, none⟩, .inr trivial⟩) (.ro0 a cap e0)
    case ro n cs c off cap h0 hn hd => cases h; exact VS.same hr (hrun _ n cap hn ⟨⟨0, 0, none⟩, .inr trivial⟩) (.ro h0 hn hd)
  · rw [if_neg hm] at h
    have fcn : ∀ (base : Option Addr), (Builtin.firstCells es 0 (.slice base 0 0)).run P w.drew = .ok ([] : List Value).toArray w.drew := fun base => by
      cases base with
      | none => simp [Builtin.firstCells]
      | some a => simp [Builtin.firstCells, loadCells, loadCellsFrom]
    cases s <;> simp only at h <;> try (cases h; done)
    case nilsl =>
      cases hs with
      | nilsl a =>
        split at h
        · rename_i q
          cases h
          have := vs_grow (lim := lim) (n := 0) (cap := 0) (ty := ty) hr ht ht2 hi hz hes hzs q.2.2.1 (fcn a) (hfc w.drew rfl) .nil hv2 (by simp) hln (by simp) (all_one q.2.2.2) (by omega)
            (by have := q.2.1; simp only [most] at this; omega) (by have := q.1; simp only [most] at this; rw [Nat.zero_add]; omega)
          simpa using this
        · cases h
    case sl b o n es' =>
      split at h
      · rename_i q
        obtain ⟨rfl, h0, hlim, q1, q2, q3⟩ := q
        split at h
        · rename_i cs hb
          rw [Option.map_eq_some_iff] at h
          obtain ⟨old, hcut, h⟩ := h
          · cases h
            have hcl : H.cells? b = some cs := by simp [Heap.cells?, hb]
            have hbl : b < H.length := by
              rcases Nat.lt_or_ge b H.length with z | z
              · exact z
              · rw [List.getElem?_eq_none z] at hb; cases hb
            have hkill := Post.kill' (lim := lim) hr hlim hbl
            have hlenk : (H.set b .dead).length = H.length := by simp
            cases hs with
            | sl0 a =>
              have hd0 : old = [] := List.length_eq_zero_iff.1 (by simpa using cut_len hcut)
              obtain ⟨v', w', μ', g1, g2, g3⟩ := vs_grow (lim := lim) (n := 0) (cap := 0) (ty := ty) (old := []) (olds := []) hkill.hr ht ht2 hi hz hes hzs h0 (fcn a) (hfc w.drew rfl) .nil hv2 (by simp) hln (by simp) (all_one q3) (by omega)
                (by simp only [most] at q2; omega) (by simp only [most] at q1; omega)
              rw [hlenk] at g3
              refine ⟨v', w', μ', g1, ?_, g3⟩
              rw [hd0]
              exact hkill.trans g2
            | sl hmu hn hc =>
              rename_i loc cap
              have hbr := hr.blk b loc hmu
              rw [hb] at hbr
              obtain ⟨hnro, arr, ta, h3, h4, h5, h6⟩ := hbr
              have hone : ∀ v ∈ old, v.one = true := fun v hv => by
                obtain ⟨j, hj, rfl⟩ := List.mem_iff_getElem.1 hv
                exact (h6 (o + j) _ (cut_get hcut (List.getElem?_eq_getElem hj))).1
              have hdl : old.length = n * es' := cut_len hcut
              have hle := (cut_eq hcut).1
              obtain ⟨olds, hov, hol⟩ := hr.lie hmu hcl hcut
              by_cases hroom : n + m ≤ cap
              · have hrun := run_append_in (ty := ty) (base := some ⟨loc.c, loc.k + o, none⟩) ht ht2 hi hes (hfc w rfl) hroom
                have hmul : (n + m) * es' ≤ cap * es' := Nat.mul_le_mul_right _ hroom
                rw [Nat.add_mul] at hmul
                have hnl := hv2.len
                have hst := run_storeCells_at (P := P) loc.c (loc.k + o + n * es') ta news 0 arr w h3 (by omega) (oneCell_of hv2 (all_one q3))
                simp only [add_at, Nat.add_zero] at hrun hst
                rw [hst] at hrun
                refine ⟨_, _, μ ++ [some ⟨loc.c, loc.k + o, loc.sz⟩], hrun, ?_, ?_⟩
                · have hh := setRow_heap w loc.c arr (arr.toList.take (loc.k + o + n * es') ++ news ++ arr.toList.drop (loc.k + o + n * es' + news.length)).toArray ta (0, 0) h3
                  refine Post.move hr hlim hmu (.inl ⟨true, cs, hb⟩) (by simp [World.setRow]) (fun c hc => ?_) rfl rfl rfl ⟨hnro, _, ta, hh, by simp; omega, by simp; omega, fun j v hj => ?_⟩
                  · simp only [World.setRow, Array.getElem?_modify]
                    rw [if_neg (fun e => hc e.symm)]
                  · dsimp only
                    rw [List.getElem?_toArray, row_get _ _ _ (by simp; omega)]
                    by_cases q5 : j < old.length
                    · rw [List.getElem?_append_left q5] at hj
                      rw [if_neg (by omega)]
                      have hj := cut_get hcut hj
                      obtain ⟨k0, v', k1, k2⟩ := h6 (o + j) v hj
                      exact ⟨k0, v', by rw [Array.getElem?_toList, ← k1]; congr 1; omega, k2.ext (Ext.app _ _)⟩
                    · rw [List.getElem?_append_right (by omega)] at hj
                      obtain ⟨v', k1, k2⟩ := hv2.get hj
                      have hjl : j - old.length < news.length := by
                        rcases Nat.lt_or_ge (j - old.length) news.length with z | z
                        · exact z
                        · rw [List.getElem?_eq_none z] at k1; cases k1
                      rw [if_pos (by omega)]
                      refine ⟨all_one q3 v (List.mem_of_getElem? hj), v', ?_, k2.ext (Ext.app _ _)⟩
                      rw [← k1]; congr 1; omega
                · have := VR.sl (w0 := w0) (ro := ro) (μ := μ ++ [some (⟨loc.c, loc.k + o, loc.sz⟩ : Loc)]) (b := H.length) (o := 0) (n := n + m) (es := es') (cap := cap) (loc := ⟨loc.c, loc.k + o, loc.sz⟩) (by rw [← hr.len]; simp) hroom (by simp only; omega)
                  simpa using this
              · obtain ⟨v', w', μ', g1, g2, g3⟩ := vs_grow (lim := lim) (n := n) (cap := cap) (ty := ty) (base := some ⟨loc.c, loc.k + o, none⟩) hkill.hr ht ht2 hi hz hes hzs h0 (run_firstCells_heap (by rw [← hov.len]; exact hdl) hol w.drew rfl) (hfc w.drew rfl) hov hv2 hdl hln hone (all_one q3) (by omega)
                  (by simp only [most] at q2; omega) (by simp only [most] at q1; omega)
                rw [hlenk] at g3
                exact ⟨v', w', μ', g1, hkill.trans g2, g3⟩
        · cases h
      · cases h

end
end Go.Proofs.YtdbgebbofpgjmaaGreatA

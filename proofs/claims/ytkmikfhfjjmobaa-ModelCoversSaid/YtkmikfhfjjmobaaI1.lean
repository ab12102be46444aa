/- slices.Insert of rows of 11 cells: a walk through its code, on each of its four roads. No statement about the program is proved here. -/
import Derived.Test.YtkmikfhfjjmobaaFJ
import Derived.Test.YtkmikfhfjjmobaaA32
import Derived.KernelRfl
namespace Go.Proofs.YtkmikfhfjjmobaaA
open Go
set_option linter.unusedSimpArgs false
set_option maxRecDepth 1000000

def envI88 : AEnv := mkEnv [(88, .code fd88), (117, .ext overlapsG)] []
theorem fnI88 : envI88.fn 88 = some (.code fd88) := rfl
theorem fnV88 : envI88.fn 117 = some (.ext overlapsG) := rfl
theorem elems_one88 {H : Heap} {v : AV} {m : Nat} {new : List AV} {b o n es : Nat} (hv : v = .sl b o n es) (hel : elems H 11 v = some (m, new)) : n = m ∧ es = 11 ∧ new.length = m * 11 := by
  subst hv
  simp only [elems] at hel
  split at hel
  · rename_i e
    simp only [Option.bind_eq_some_iff, Option.map_eq_some_iff, Prod.mk.injEq] at hel
    obtain ⟨cs, _, c, h2, e1, e2⟩ := hel
    subst e1; subst e2
    exact ⟨rfl, e, cut_len h2⟩
  · cases hel

theorem ins_nil88 (lim : Nat) (H : Heap) (v r : AV) (H' : Heap) (h : insertG 11 96 [.nilsl, .int .i64 0, v] lim H = some (r, H')) : Cl envI88 88 [.nilsl, .int .i64 0, v] lim H r H' := by
  simp only [insertG, Option.bind_eq_some_iff] at h
  obtain ⟨⟨m, new⟩, hel, h⟩ := h
  simp only at h
  split at h
  · rename_i b' o' n' es' e
    split at h
    · rename_i q
      obtain ⟨_, rfl, q1, q2, q3⟩ := q
      cases h
      obtain ⟨rfl, rfl, _⟩ := elems_one88 rfl hel
      have happ : appendAV lim H 11 96 .nilsl (.sl b' o' 1 11) = some (.sl H.length 0 1 11, H ++ [.cells true new]) := by
        simp only [appendAV, hel, Option.bind_some, most]
        simp at q3
        simp [q3]
        exact q3
      refine cl_is fnI88 rfl ?_
      rw [fr_init (by simp [fd88])]
      simp [fd88, b88, happ]
    · cases h
  · rename_i e; cases e
  · cases h
theorem ins_last88 (lim : Nat) (H : Heap) (b o n : Nat) (v r : AV) (H' : Heap) (h : insertG 11 96 [.sl b o n 11, .int .i64 n, v] lim H = some (r, H')) : Cl envI88 88 [.sl b o n 11, .int .i64 n, v] lim H r H' := by
  simp only [insertG, Option.bind_eq_some_iff] at h
  obtain ⟨⟨m, new⟩, hel, h⟩ := h
  simp only at h
  split at h
  · rename_i e; cases e
  · rename_i b' o' n' es' b2 o2 n2 es2 e
    cases e
    split at h
    · rename_i q
      obtain ⟨_, _, rfl, q1, q2, q3, q4, q5, _, _⟩ := q
      split at h
      · rename_i cs hb
        split at h
        · rename_i hlen
          cases h
          obtain ⟨rfl, rfl, _⟩ := elems_one88 rfl hel
          have hcut : cut cs o (n * 11) = some (cs.drop o) := by unfold cut; rw [if_pos (by omega), List.take_of_length_le (by simp; omega)]
          have happ : appendAV lim H 11 96 (.sl b o n 11) (.sl b' o' 1 11) = some (.sl H.length 0 (n + 1) 11, H.set b .dead ++ [.cells true (cs.drop o ++ new)]) := by
            simp only [appendAV, hel, Option.bind_some, hb, hcut, Option.map_some]
            simp at q4
            simp [q1, q2, q3]
            simpa using q4
          refine cl_is fnI88 rfl ?_
          rw [fr_init (by simp [fd88])]
          have e1 : (cs.drop o).take (n * 11) = cs.drop o := List.take_of_length_le (by simp; omega)
          have e2 : cs.drop (o + n * 11) = [] := List.drop_of_length_le (by omega)
          simp [fd88, b88, happ, e1, e2]
        · cases h
      · cases h
    · cases h
  · cases h
theorem ins_grow88 (lim : Nat) (H : Heap) (b o n c i b' o' : Nat) (cs new : List AV) (hb : H[b]? = some (.cells true cs)) (hel : elems H 11 (.sl b' o' 1 11) = some (1, new)) (h0 : 0 < 11) (hlen : o + n * 11 = cs.length) (hi : i < n) (hc : c < n + 1) (hlim : lim ≤ H.length) (hbb : b' ≠ b) (hm1 : (n + 1) * 96 ≤ most) (hm2 : n + 1 ≤ most) (hnew : new.all AV.one = true) (hcs : cs.all AV.one = true) (hnc : n ≤ c) :
    Cl envI88 88 [.slc b o n c 11, .int .i64 i, .sl b' o' 1 11] lim H (.sl H.length 0 (n + 1) 11) (H ++ [.cells true ((cs.drop o).take (i * 11) ++ new ++ cs.drop (o + i * 11))]) := by
  obtain rfl : c = n := by omega
  obtain ⟨_, _, hnl⟩ := elems_one88 rfl hel
  refine cl_is fnI88 rfl ?_
  rw [fr_init (by simp [fd88])]
  obtain ⟨r, rfl⟩ : ∃ r, c = i + r := ⟨c - i, by omega⟩
  obtain ⟨p, hp⟩ : ∃ p, p = i + r + 1 := ⟨_, rfl⟩
  obtain ⟨j, hj⟩ : ∃ j, j = i + 1 := ⟨_, rfl⟩
  obtain ⟨q, hq⟩ : ∃ q, q = r + 1 := ⟨_, rfl⟩
  have hr : 0 < r := by omega
  have hc1 : ((i : Int) == (i : Int) + r) = false := by simp; omega
  have hw : IntKind.i64.wrap ((i : Int) + r + 1) = (p : Int) := by rw [wrap_i64] <;> simp [most] at * <;> omega
  have hw2 : IntKind.i64.wrap ((p : Int) - i) = (q : Int) := by rw [wrap_i64] <;> simp [most] at * <;> omega
  have hw3 : IntKind.i64.wrap ((i : Int) + 1) = (j : Int) := by rw [wrap_i64] <;> simp [most] at * <;> omega
  have g1 : (i : Int) + r < p := by omega
  have g0 : ¬ r = 0 := by omega
  have g4 : 0 < q := by omega
  have g5 : r < q := by omega
  have g6 : (i : Int) + q ≤ most := by omega
  have g7 : ((i : Int) + q) * 96 ≤ most := by omega
  have g9 : j ≤ i + q := by omega
  have g10 : i + q - j = r := by omega
  have g11 : 0 < i + r := by omega
  have k1 : H.cells? b = some cs := by simp [Heap.cells?, hb]
  have k2 : o + i * 11 ≤ cs.length := by omega
  have k3 : (H ++ [.cells true ((cs.drop o).take (i * 11) ++ (List.replicate q [I 0, I 0, .str [], I 0, I 0, I 0, I 0, I 0, I 0, I 0, I 0]).flatten)])[H.length]? = some (.cells true ((cs.drop o).take (i * 11) ++ (List.replicate q [I 0, I 0, .str [], I 0, I 0, I 0, I 0, I 0, I 0, I 0, I 0]).flatten)) := by simp
  have k4 : i * 11 ≤ ((cs.drop o).take (i * 11) ++ (List.replicate q [I 0, I 0, .str [], I 0, I 0, I 0, I 0, I 0, I 0, I 0, I 0]).flatten).length := by simp; omega
  have k5 : new.take 11 = new := List.take_of_length_le (by omega)
  have k6 : Nat.min 1 q = 1 := by simp [Nat.min_def]; omega
  simp [fd88, b88, hi, hw, hw2, hw3, hr, hc1, g0, g1, g4, g5, g6, g7, g9, g10, g11, k1, k2, elems_app hel, copyTo_at k3 hlim g4 hnew k4, k5, k6]
  refine ⟨by omega, ?_⟩
  rw [elems_slc (get_app hb) (by omega)]
  have hone : ((cs.drop (o + i * 11)).take (r * 11)).all AV.one = true := by
    rw [List.all_eq_true] at hcs ⊢
    exact fun x hx => hcs x (List.mem_of_mem_drop (List.mem_of_mem_take hx))
  simp only [Option.bind_some]
  rw [copyTo_at (g := true) (List.getElem?_concat_length ..) hlim hr hone (by simp; omega)]
  have e1 : Nat.min r r = r := by simp
  simp [e1]
  refine ⟨by omega, ?_⟩
  have e2 : (List.take (r * 11) (List.drop (o + i * 11) cs)) = List.drop (o + i * 11) cs := List.take_of_length_le (by simp; omega)
  have e3 : j * 11 = i * 11 + 11 := by omega
  rw [e2, e2, e3]
  exact ins_cells (by simp; omega) (by omega) (by simp; omega) (by simp; omega)
theorem ins_room88 (lim : Nat) (H : Heap) (b o n c i b' o' : Nat) (cs new : List AV) (hb : H[b]? = some (.cells true cs)) (hel : elems H 11 (.sl b' o' 1 11) = some (1, new)) (h0 : 0 < 11) (hlen : o + n * 11 = cs.length) (hi : i < n) (hc : n + 1 ≤ c) (hlim : lim ≤ b) (hbb : b' ≠ b) (hm2 : n + 1 ≤ most) (hnew : new.all AV.one = true) (hcs : cs.all AV.one = true) :
    Cl envI88 88 [.slc b o n c 11, .int .i64 i, .sl b' o' 1 11] lim H (.slc b o (n + 1) c 11) (H.set b (.cells true (cs.take (o + i * 11) ++ new ++ cs.drop (o + i * 11)))) := by
  obtain ⟨_, _, hnl⟩ := elems_one88 rfl hel
  refine cl_is fnI88 rfl ?_
  rw [fr_init (by simp [fd88])]
  obtain ⟨r, rfl⟩ : ∃ r, n = i + r := ⟨n - i, by omega⟩
  obtain ⟨p, hp⟩ : ∃ p, p = i + r + 1 := ⟨_, rfl⟩
  obtain ⟨j, hj⟩ : ∃ j, j = i + 1 := ⟨_, rfl⟩
  have hr : 0 < r := by omega
  have hc1 : ((i : Int) == (i : Int) + r) = false := by simp; omega
  have hw : IntKind.i64.wrap ((i : Int) + r + 1) = (p : Int) := by rw [wrap_i64] <;> simp [most] at * <;> omega
  have hw3 : IntKind.i64.wrap ((i : Int) + 1) = (j : Int) := by rw [wrap_i64] <;> simp [most] at * <;> omega
  have g1 : ¬ c < p := by omega
  have g2 : p ≤ c := by omega
  have g3 : i < c := by omega
  have g4 : 0 < c := by omega
  have g5 : j ≤ p := by omega
  have g6 : j < c := by omega
  have g7 : p - j = r := by omega
  have g8 : Nat.min (p - i) r = r := by simp [Nat.min_def]; omega
  have g9 : i ≤ p := by omega
  have g10 : 0 < p - i := by omega
  simp [fd88, b88, hi, hw, hw3, hr, hc1, g1, g2, g3, g4, g5, g6, g7, g8, g9, g10, callee]
  have ho : overlapsG [.sl b' o' 1 11, .slc b (o + j * 11) r (c - j) 11] H = some (.bool false) := by
    have r1 := row1_of hel (by omega)
    have r2 := row1 hb (by omega)
    simp [overlapsG, rowAt, hbb, hr, r1, r2]
  refine WCl.of (cl_ext fnV88 ho) ?_
  have q1 : b < H.length := (List.getElem?_eq_some_iff.1 hb).1
  have q2 : lim ≤ H.length := by omega
  have hone : ((cs.drop (o + i * 11)).take (r * 11)).all AV.one = true := by
    rw [List.all_eq_true] at hcs ⊢
    exact fun x hx => hcs x (List.mem_of_mem_drop (List.mem_of_mem_take hx))
  have q3 : o + j * 11 ≤ cs.length := by omega
  have q4 : o + i * 11 + r * 11 ≤ cs.length := by omega
  have q5 : Nat.min r r = r := by simp
  have q6 := elems_slc (n := r) (c := c - i) hb q4
  simp [hw3, g6, g5, g9, g3, g7, g8, q2, q5, q6, copyTo_at hb hlim hr hone q3]
  have s1 : (cs.drop (o + i * 11)).take (r * 11) = cs.drop (o + i * 11) := List.take_of_length_le (by simp; omega)
  rw [elems_set hbb, hel]
  simp only [Option.bind_some]
  have s2 : Nat.min 1 (p - i) = 1 := by simp [Nat.min_def]; omega
  rw [copyTo_at (List.getElem?_set_self q1) hlim g10 hnew (by simp; omega)]
  have s3 : new.take 11 = new := List.take_of_length_le (by omega)
  have s4 : o + j * 11 = o + i * 11 + 11 := by omega
  simp [s2, s3, s1, s4]
  refine ⟨by omega, ?_⟩
  exact congrArg _ (congrArg _ (ins_cells2 (cs := cs) (new := new) (src := cs.drop (o + i * 11)) (a := o + i * 11) (e := 11) (k := r * 11) (by omega) (by simp; omega) (by omega) rfl (by omega)))

theorem ins_walk88 : InsertWalk envI88 88 11 96 := ⟨ins_nil88, ins_last88, ins_grow88, ins_room88⟩
theorem mixed88 : Try.prog.follows .mixedOrders = true := by kernel_rfl
theorem over117 : ExtOK Try.prog 117 overlapsG := overlaps_ok (fn := Try.f117) (tS := 133) (tR := 4) (e := 136) (size := 11) Try.func117 (by kernel_rfl) (by kernel_rfl) (by kernel_rfl) (by kernel_rfl) (by kernel_rfl) (by kernel_rfl)
theorem envI_ok88 : EnvOK Try.prog envI88 := env_ok mixed88 (.code ok88 (.ext over117 .nil)) .nil
theorem ins_good88 : FnGood Try.prog 88 (.prim (insertG 11 96)) := ⟨⟨Try.f88, Try.func88, by kernel_rfl, by kernel_rfl⟩, insert_prim envI88 envI_ok88 fnI88 ins_walk88⟩
end Go.Proofs.YtkmikfhfjjmobaaA

/- The first bag, the first ring with one part set; what a merge does there. No statement about the program is proved here. -/
import Derived.Test.YtflgfiieaoeknaaT3
import Derived.Test.YtflgfiieaoeknaaE1
import Derived.Test.YtflgfiieaoeknaaA33
import Derived.KernelRfl
namespace Go.Proofs.YtflgfiieaoeknaaA
open Go Go.RowKit
set_option linter.unusedVariables false
set_option linter.unusedSimpArgs false
set_option maxRecDepth 1000000

def bN (n : Nat) : Bag := ⟨fun i => if i = n then 1 else 0, [⟨(n : Int), 1, [120]⟩]⟩
theorem put12 (lim : Nat) (H : Heap) : ∀ n : Nat, n < 7 → Cl envE 12 [.agg (bagV zeroV (.ro 0 [])), .agg (vecC zeroV), .agg [I n, I 1], .str [120]] lim H (.tup [.agg (bagV (bN n).known (.sl H.length 0 1 3)), I 0]) (H ++ [.cells true [I n, I 1, .str [120]]])
  | 0, _ => cl_runH 1000 (by kernel_rfl)
  | 1, _ => cl_runH 1000 (by kernel_rfl)
  | 2, _ => cl_runH 1000 (by kernel_rfl)
  | 3, _ => cl_runH 1000 (by kernel_rfl)
  | 4, _ => cl_runH 1000 (by kernel_rfl)
  | 5, _ => cl_runH 1000 (by kernel_rfl)
  | 6, _ => cl_runH 1000 (by kernel_rfl)
  | n + 7, h => absurd h (by omega)
theorem k12 {n : Nat} (hn : n < 7) {H : Heap} {K : AV → Heap → Prop} : wPu envE 12 (some [.agg (bagV zeroV (.ro 0 [])), .agg (vecC zeroV), .agg [I n, I 1], .str [120]]) H K = K (.tup [.agg (bagV (bN n).known (.sl H.length 0 1 3)), I 0]) (H ++ [.cells true [I n, I 1, .str [120]]]) := by
  have hd : mapO (frz H deep) [.agg (bagV zeroV (.ro 0 [])), .agg (vecC zeroV), .agg [I n, I 1], .str [120]] = some [.agg (bagV zeroV (.ro 0 [])), .agg (vecC zeroV), .agg [I n, I 1], .str [120]] := by kernel_rfl
  rw [← hd, ← WCl_pure (lim := 0) e12 rfl, WCl_eq (put12 0 H n hn)]
theorem b_facts : ∀ n : Nat, n < 7 → bagMay (bN n).known (bN n).vals = true ∧ joinE zeroV [] (bN n).known (bN n).vals = 0 ∧ belowB (bN n).known (bN n).vals zeroV [] = false ∧ bagMay (joinK zeroV [] (bN n).known (bN n).vals) (joinR zeroV [] (bN n).known (bN n).vals) = true ∧ bagSame (joinK zeroV [] (bN n).known (bN n).vals) (joinR zeroV [] (bN n).known (bN n).vals) (bN n).known (bN n).vals = true := by decide +kernel
theorem r_facts : ∀ P : Nat, P < 16 → ∀ e : Nat, e < 10 → ∀ o : Nat, o < 7 → 0 < e → ringMay (setP (firstR 0) P e o) = true ∧ ownerF (setP (firstR 0) P e o) P = o := by decide +kernel
def withRing (R : Ring) : VSt := { emptyS 9 with ds := [ringD R], ring := R, rings := 1 }
theorem wrote_ring {R : Ring} (h : ringMay R = true) : writeE (ringD R) (emptyS 9).ds (emptyS 9).room = 0 ∧ wroteS (emptyS 9) (ringD R) = withRing R := by
  have hz : writeE (ringD R) (emptyS 9).ds (emptyS 9).room = 0 := write_ok (ringD_may h) (by simp [emptyS])
  refine ⟨hz, ?_⟩
  rw [wroteS, if_pos hz]
  simp [countS, ringD, withRing, emptyS]
theorem bagOf_empty {R : Ring} {key : List UInt8} : bagOf (withRing R) key = zBagS := by simp [bagOf, withRing, emptyS, lookB]
theorem mayE_eq {kd f P e o : Nat} {ep : Int} {key : List UInt8} {b : Bag} (hP : P < 16) (he : e < 10) (ho : o < 7) (h0 : 0 < e) : mayE (gM kd f P ep key b) (setP (firstR 0) P e o) = (decide ((e : Int) < ep) || (decide (ep = (e : Int)) && decide ((o : Int) = (f : Int)))) := by
  have h1 := (r_facts P hP e he o ho h0).2
  have h2 : (setP (firstR 0) P e o).epoch P = (e : Int) := by simp [setP, upd]
  simp only [mayE, gM, Int.toNat_natCast, h1, h2]
structure Merged (R : Ring) (key : List UInt8) (n : Nat) (s' : VSt) : Prop where
  bag : bagOf s' key = ⟨joinK zeroV [] (bN n).known (bN n).vals, joinR zeroV [] (bN n).known (bN n).vals⟩
  ring : s'.ring = R
  rings : s'.rings = 1
  ok : VOk s'
theorem merge_ok {R : Ring} {key : List UInt8} {n : Nat} (hk : keyOk key = true) (hn : n < 7) (ok : VOk (withRing R)) : ∃ s', mergeO (withRing R) key (bN n) = ⟨0, s'⟩ ∧ Merged R key n s' := by
  obtain ⟨f1, f2, f3, f4, f5⟩ := b_facts n hn
  have hb := bagOf_empty (R := R) (key := key)
  have hfull : fullS (withRing R) key = false := by simp [fullS, withRing, emptyS]
  have hd : mergeD (withRing R) key (bN n) = bagD 0 key ⟨joinK zeroV [] (bN n).known (bN n).vals, joinR zeroV [] (bN n).known (bN n).vals⟩ := by
    rw [mergeD, hb]
    rfl
  have hw : writeE (bagD 0 key ⟨joinK zeroV [] (bN n).known (bN n).vals, joinR zeroV [] (bN n).known (bN n).vals⟩) (withRing R).ds (withRing R).room = 0 := write_ok (bagD_may hk f4 (by omega) (by omega)) (by simp [withRing, emptyS])
  refine ⟨wroteS (withRing R) (bagD 0 key ⟨joinK zeroV [] (bN n).known (bN n).vals, joinR zeroV [] (bN n).known (bN n).vals⟩), ?_, ?_⟩
  · have hz : zBagS.known = zeroV ∧ zBagS.vals = [] := ⟨rfl, rfl⟩
    unfold mergeO
    rw [if_neg (by simp [hk, f1]), if_neg (by simp [hfull]), if_neg (by rw [hb, hz.1, hz.2]; simp [f2, f3]), hd, hw]
  · have hok := ok.wrote (d := bagD 0 key ⟨joinK zeroV [] (bN n).known (bN n).vals, joinR zeroV [] (bN n).known (bN n).vals⟩) ⟨joinR_fit, Nat.zero_le _⟩
    rw [wroteS, if_pos hw] at hok ⊢
    constructor
    · simp [countS, bagD, bagOf, lookB_set]
    · simp [countS, bagD, withRing]
    · simp [countS, bagD, withRing]
    · exact hok
end Go.Proofs.YtflgfiieaoeknaaA

/- Puts that go well. No statement about the program is proved here. -/
import Derived.Test.YtflgfiieaoeknaaGreatV6
namespace Go.Proofs.YtflgfiieaoeknaaGreatA
open Go
set_option linter.unusedSimpArgs false
set_option linter.unusedVariables false
set_option maxRecDepth 1000000

structure PutWell (s s' : VSt) (key : List UInt8) (b : Bag) : Prop where
  bag : bagOf s' key = b
  bags : s'.bags = setB s.bags key b
  dots : s'.dots = s.dots + 1
  ds : s'.ds.length = s.ds.length + 1
  ring : s'.ring = s.ring
  rings : s'.rings = s.rings
  room : s'.room = s.room
theorem putO_ok {s : VSt} {node : Int} {key : List UInt8} {known : Nat → Int} {data : List UInt8} (hk : keyOk key = true) (h0 : 0 ≤ node) (h8 : node < 8) (hd0 : 0 ≤ s.dots) (hd : s.dots < 1000000) (hf : fullS s key = false)
    (he : putE (bagOf s key).known (bagOf s key).vals known node (s.dots + 1) data = 0) (hr : (s.ds.length : Int) < s.room) :
    ∃ s', putO s node key known data = ⟨node, s.dots + 1, 0, s'⟩ ∧ PutWell s s' key ⟨putK (bagOf s key).known (bagOf s key).vals known node (s.dots + 1) data, putR (bagOf s key).known (bagOf s key).vals known node (s.dots + 1) data⟩ := by
  obtain ⟨m1, m2, m3, m4⟩ := put_ok he
  have h1 : ¬ (node < 0 ∨ 8 ≤ node ∨ keyOk key = false) := by simp [hk]; omega
  have hw : writeE (bagD (s.dots + 1) key ⟨putK (bagOf s key).known (bagOf s key).vals known node (s.dots + 1) data, putR (bagOf s key).known (bagOf s key).vals known node (s.dots + 1) data⟩) s.ds s.room = 0 := write_ok (bagD_may hk m4 (by omega) (by omega)) hr
  refine ⟨wroteS s (bagD (s.dots + 1) key ⟨putK (bagOf s key).known (bagOf s key).vals known node (s.dots + 1) data, putR (bagOf s key).known (bagOf s key).vals known node (s.dots + 1) data⟩), ?_, ?_⟩
  · unfold putO
    rw [if_neg h1, if_neg (by omega), if_neg (by simp [hf]), if_pos he, if_pos hw]
  · rw [wroteS, if_pos hw]
    constructor <;> simp [countS, bagD, bagOf, lookB_set]
    omega
theorem has_zero {a c : Int} : has zeroV a c = false := by
  rw [Bool.eq_false_iff, Ne, has_iff]
  intro h
  simp [zeroV] at h
  omega
theorem kept_zero {l : List Val} : keptL zeroV l = l := List.filter_eq_self.2 fun v _ => by simp [has_zero]
theorem insV_end {l : List Val} {v : Val} (h : ∀ u ∈ l, below v.node v.n u = true) : insV l v = l ++ [v] := by
  have e : pos l v.node v.n = l.length := by
    unfold pos
    have : l.takeWhile (below v.node v.n) = l := by
      induction l with
      | nil => rfl
      | cons a l ih =>
        rw [List.takeWhile_cons, if_pos (h a (List.mem_cons_self ..)), ih fun u hu => h u (List.mem_cons_of_mem _ hu)]
    rw [this]
  unfold insV
  rw [e, List.take_length, List.drop_length]
theorem putE_ok {k known : Nat → Int} {l : List Val} {a c : Int} {data : List UInt8} (h1 : bagMay k l = true) (h2 : vecMay known = true) (h3 : dotOk a c = true) (h4 : has k a c = false) (h5 : data.length ≤ 64) (h6 : (putL l known a c data).length ≤ 32) : putE k l known a c data = 0 := by
  have hm := putMay_iff.2 ⟨h1, h2, h3, h4, h5⟩
  unfold putE
  rw [if_pos hm, if_neg (by omega)]
theorem insV_len' {l : List Val} {v : Val} : (insV l v).length = l.length + 1 := insV_len
end Go.Proofs.YtflgfiieaoeknaaGreatA

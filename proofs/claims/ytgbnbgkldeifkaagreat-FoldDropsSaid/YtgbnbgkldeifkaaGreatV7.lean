/- Puts and Drops that go well. No statement about the program is proved here. -/
import Derived.Test.YtgbnbgkldeifkaaGreatVK
namespace Go.Proofs.YtgbnbgkldeifkaaGreatA
open Go
set_option linter.unusedSimpArgs false
set_option linter.unusedVariables false
set_option maxRecDepth 1000000
theorem write_ok {d : Deed} {ds : List Deed} {room : Int} (hm : deedMay d = true) (hl : (ds.length : Int) < room) : writeE d ds room = 0 := by
 unfold writeE
 rw [if_pos hm, if_neg (by omega)]
theorem bagD_may {n : Int} {key : List UInt8} {b : Bag} (hk : keyOk key = true) (hb : bagMay b.known b.vals = true) (h0 : 0 ≤ n) (h1 : n ≤ 1000000) : deedMay (bagD n key b) = true := by
 have e : namedD (bagD n key b) = bagD n key b := by simp [namedD, bagD]
 simp only [deedMay, e, deedSame_refl, Bool.true_and]
 simp [bagD, hk, hb, withinB, h0, h1]
structure PutWell (s s' : VSt) (key : List UInt8) (b : Bag) : Prop where
 bag : bagOf s' key = b
 bags : s'.bags = setB s.bags key b
 dots : s'.dots = s.dots + 1
 ds : s'.ds.length = s.ds.length + 1
 ring : s'.ring = s.ring
 rings : s'.rings = s.rings
 room : s'.room = s.room
theorem putO_ok {s : VSt} {node : Int} {key : List UInt8} {known : Nat → Int} {data : List UInt8} (hk : keyOk key = true) (h0 : 0 ≤ node) (h8 : node < 8) (hd0 : 0 ≤ s.dots) (hd : s.dots < 1000000) (hf : fullS s key = false)
 (he : putE (bagOf s key).known (bagOf s key).vals known node (s.dots + 1) data = 0) (hr : (s.ds.length : Int) < s.room) :
 ∃ s', putO s node key known data = ⟨node, s.dots + 1, 0, s'⟩ ∧ PutWell s s' key ⟨putK (bagOf s key).known (bagOf s key).vals known node (s.dots + 1) data, putR (bagOf s key).known (bagOf s key).vals known node (s.dots + 1) data⟩ := by
 obtain ⟨m1, m2, m3, m4⟩ := put_ok he
 have h1 : ¬ (node < 0 ∨ 8 ≤ node ∨ keyOk key = false) := by simp [hk]; omega
 have hw : writeE (bagD (s.dots + 1) key ⟨putK (bagOf s key).known (bagOf s key).vals known node (s.dots + 1) data, putR (bagOf s key).known (bagOf s key).vals known node (s.dots + 1) data⟩) s.ds s.room = 0 := write_ok (bagD_may hk m4 (by omega) (by omega)) hr
 refine ⟨wroteS s (bagD (s.dots + 1) key ⟨putK (bagOf s key).known (bagOf s key).vals known node (s.dots + 1) data, putR (bagOf s key).known (bagOf s key).vals known node (s.dots + 1) data⟩), ?_, ?_⟩
 · unfold putO
   rw [if_neg h1, if_neg (by omega), if_neg (by simp [hf]), if_pos he, if_pos hw]
 · rw [wroteS, if_pos hw]
   constructor <;> simp [countS, bagD, bagOf, lookB_set]
   omega
theorem put_ds {s : VSt} {node : Int} {key : List UInt8} {known : Nat → Int} {data : List UInt8} : (putO s node key known data).s.ds.length ≤ s.ds.length + 1 ∧ (putO s node key known data).s.room = s.room := by
 rcases put_keys (s := s) (node := node) (key := key) (known := known) (data := data) with ⟨_, _, _, h, hr⟩ | ⟨_, e⟩
 · exact ⟨by omega, hr⟩
 · rw [e]; exact ⟨by omega, rfl⟩
theorem lookB_rest {part : Int} {key : List UInt8} : ∀ {l : List (List UInt8 × Bag)} {b : Bag}, lookB (restB part l) key = some b → lookB l key = some b
 | [], b, h => h
 | (k, x) :: l, b, h => by
  unfold restB at h
  by_cases g : spotF k = part
  · rw [List.filter_cons_of_neg (by simp [g])] at h
    have ih := lookB_rest (part := part) (key := key) (l := l) h
    unfold lookB
    by_cases e : key = k
    · subst e
      have hno : ∀ l : List (List UInt8 × Bag), lookB (restB part l) key = none := fun l => lookB_mem.2 fun hm => by
       rw [rest_fst, List.mem_filter] at hm
       simp [g] at hm
      have := hno l
      unfold restB at this
      rw [this] at h
      cases h
    · have e' : (key == k) = false := by simpa using e
      rw [e']
      exact ih
  · rw [List.filter_cons_of_pos (by simp [g])] at h
    unfold lookB at h ⊢
    split at h
    · rename_i q; rw [if_pos q]; exact h
    · rename_i q; rw [if_neg q]; exact lookB_rest h
theorem VOk.dropV {s : VSt} (ok : VOk s) {part : Int} : VOk (dropS s part) := by
 unfold dropS
 split
 · rename_i h
   have hr : (s.ds.length : Int) < s.room := by
    have hle := ok.le
    unfold writeE at h
    split at h
    · split at h
      · cases h
      · omega
    · cases h
   have hrn := ok.ringsN
   have hs := ok.sureN
   exact ⟨ok.r0, ok.r1, by simp; omega, fun d hd => by
    rcases List.mem_append.1 hd with q | q
    · exact ok.fit d q
    · rw [List.mem_singleton.1 q]; exact drop_fits, ok.rfit, fun key b hb => ok.bfit key b (lookB_rest hb), by simp; omega, ok.d0, ok.d1, by simp; omega⟩
 · exact ok
theorem drop_bags {s : VSt} {part : Int} (h0 : 0 ≤ part) (h1 : part < 16) (hr : (s.ds.length : Int) < s.room) : writeE (dropD part) s.ds s.room = 0 ∧ (dropS s part).bags = restB part s.bags := by
 have hw : writeE (dropD part) s.ds s.room = 0 := write_ok (drop_may h0 h1) hr
 exact ⟨hw, by unfold dropS; rw [if_pos hw]⟩
end Go.Proofs.YtgbnbgkldeifkaaGreatA

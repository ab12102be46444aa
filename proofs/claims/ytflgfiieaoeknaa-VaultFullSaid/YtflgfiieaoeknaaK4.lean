/- A vault that is filled up, in plain words. No program is in sight here. -/
import Derived.Test.YtflgfiieaoeknaaK3
import Derived.Test.YtflgfiieaoeknaaP1
namespace Go.Proofs.YtflgfiieaoeknaaA
open Go
set_option linter.unusedSimpArgs false
set_option linter.unusedVariables false
set_option maxRecDepth 1000000

theorem write_ok {d : Deed} {ds : List Deed} {room : Int} (hm : deedMay d = true) (hl : (ds.length : Int) < room) : writeE d ds room = 0 := by
  unfold writeE
  rw [if_pos hm, if_neg (by omega)]
theorem bagD_may {n : Int} {key : List UInt8} {b : Bag} (hk : keyOk key = true) (hb : bagMay b.known b.vals = true) (h0 : 0 ≤ n) (h1 : n ≤ 1000000) : deedMay (bagD n key b) = true := by
  have e : namedD (bagD n key b) = bagD n key b := by simp [namedD, bagD]
  simp only [deedMay, e, deedSame_refl, Bool.true_and]
  simp [bagD, hk, hb, withinB, h0, h1]
structure PutWell (s s' : VSt) (key : List UInt8) (b : Bag) : Prop where
  bag : bagOf s' key = b
  bags : s'.bags = setB s.bags key b
  dots : s'.dots = s.dots + 1
  ds : s'.ds.length = s.ds.length + 1
  ring : s'.ring = s.ring
  rings : s'.rings = s.rings
  room : s'.room = s.room
theorem putO_ok {s : VSt} {node : Int} {key : List UInt8} {known : Nat → Int} {data : List UInt8} (hk : keyOk key = true) (h0 : 0 ≤ node) (h8 : node < 8) (hd0 : 0 ≤ s.dots) (hd : s.dots < 1000000) (hf : fullS s key = false)
    (he : putE (bagOf s key).known (bagOf s key).vals known node (s.dots + 1) data = 0) (hr : (s.ds.length : Int) < s.room) :
    ∃ s', putO s node key known data = ⟨node, s.dots + 1, 0, s'⟩ ∧ PutWell s s' key ⟨putK (bagOf s key).known (bagOf s key).vals known node (s.dots + 1) data, putR (bagOf s key).known (bagOf s key).vals known node (s.dots + 1) data⟩ := by
  obtain ⟨m1, m2, m3, m4⟩ := put_ok he
  have h1 : ¬ (node < 0 ∨ 8 ≤ node ∨ keyOk key = false) := by simp [hk]; omega
  have hw : writeE (bagD (s.dots + 1) key ⟨putK (bagOf s key).known (bagOf s key).vals known node (s.dots + 1) data, putR (bagOf s key).known (bagOf s key).vals known node (s.dots + 1) data⟩) s.ds s.room = 0 := write_ok (bagD_may hk m4 (by omega) (by omega)) hr
  refine ⟨wroteS s (bagD (s.dots + 1) key ⟨putK (bagOf s key).known (bagOf s key).vals known node (s.dots + 1) data, putR (bagOf s key).known (bagOf s key).vals known node (s.dots + 1) data⟩), ?_, ?_⟩
  · unfold putO
    rw [if_neg h1, if_neg (by omega), if_neg (by simp [hf]), if_pos he, if_pos hw]
  · rw [wroteS, if_pos hw]
    constructor <;> simp [countS, bagD, bagOf, lookB_set]
    omega
theorem has_zero {a c : Int} : has zeroV a c = false := by
  rw [Bool.eq_false_iff, Ne, has_iff]
  intro h
  simp [zeroV] at h
  omega
theorem kept_zero {l : List Val} : keptL zeroV l = l := List.filter_eq_self.2 fun v _ => by simp [has_zero]
theorem insV_end {l : List Val} {v : Val} (h : ∀ u ∈ l, below v.node v.n u = true) : insV l v = l ++ [v] := by
  have e : pos l v.node v.n = l.length := by
    unfold pos
    have : l.takeWhile (below v.node v.n) = l := by
      induction l with
      | nil => rfl
      | cons a l ih =>
        rw [List.takeWhile_cons, if_pos (h a (List.mem_cons_self ..)), ih fun u hu => h u (List.mem_cons_of_mem _ hu)]
    rw [this]
  unfold insV
  rw [e, List.take_length, List.drop_length]
theorem putE_ok {k known : Nat → Int} {l : List Val} {a c : Int} {data : List UInt8} (h1 : bagMay k l = true) (h2 : vecMay known = true) (h3 : dotOk a c = true) (h4 : has k a c = false) (h5 : data.length ≤ 64) (h6 : (putL l known a c data).length ≤ 32) : putE k l known a c data = 0 := by
  have hm := putMay_iff.2 ⟨h1, h2, h3, h4, h5⟩
  unfold putE
  rw [if_pos hm, if_neg (by omega)]

/-! ## The names -/
def nmF (i : Nat) : List UInt8 := [UInt8.ofNat (97 + i % 26), UInt8.ofNat (97 + i / 26)]
theorem nm_inj {i j : Nat} (hi : i < 300) (hj : j < 300) (h : nmF i = nmF j) : i = j := by
  unfold nmF at h
  simp only [List.cons.injEq, and_true] at h
  have h1 := congrArg UInt8.toNat h.1
  have h2 := congrArg UInt8.toNat h.2
  simp only [UInt8.toNat_ofNat'] at h1 h2
  omega
theorem nm_ok (i : Nat) : keyOk (nmF i) = true := rfl
theorem look_mem {key : List UInt8} {b : Bag} : ∀ {l : List (List UInt8 × Bag)}, lookB l key = some b → (key, b) ∈ l
  | (k, x) :: l, h => by
    unfold lookB at h
    by_cases q : key = k
    · subst q
      simp at h
      subst h
      exact .head _
    · have q' : (key == k) = false := by simpa using q
      rw [q'] at h
      exact .tail _ (look_mem h)
theorem mem_look {key : List UInt8} {b : Bag} : ∀ {l : List (List UInt8 × Bag)}, (l.map Prod.fst).Nodup → (key, b) ∈ l → lookB l key = some b
  | (k, x) :: l, hn, h => by
    rw [List.map_cons, List.nodup_cons] at hn
    unfold lookB
    rcases List.mem_cons.1 h with q | q
    · cases q
      simp
    · have hk : key ≠ k := fun e => hn.1 (by rw [← e]; exact List.mem_map.2 ⟨_, q, rfl⟩)
      have q' : (key == k) = false := by simpa using hk
      rw [q']
      exact mem_look hn.2 q
def fresh5 : List UInt8 := [102, 114, 101, 115, 104]
theorem nm_fresh (i : Nat) : nmF i ≠ fresh5 := fun h => by
  have := congrArg List.length h
  simp [nmF, fresh5] at this
def names (n : Nat) : List (List UInt8) := (List.range n).map nmF
theorem names_mem {n j : Nat} (hn : n ≤ 300) (hj : j < 300) : nmF j ∈ names n ↔ j < n := by
  unfold names
  rw [List.mem_map]
  constructor
  · rintro ⟨i, hi, e⟩
    rw [List.mem_range] at hi
    rw [← nm_inj (by omega) hj e]
    exact hi
  · exact fun h => ⟨j, List.mem_range.2 h, rfl⟩
theorem names_nd {n : Nat} (hn : n ≤ 300) : (names n).Nodup := by
  unfold names List.Nodup
  rw [List.pairwise_map]
  refine List.Pairwise.imp_of_mem (fun {a b} ha hb h e => ?_) (List.nodup_range (n := n))
  rw [List.mem_range] at ha hb
  exact h (nm_inj (by omega) (by omega) e)
theorem names_len {n : Nat} : (names n).length = n := by simp [names]
theorem names_succ {n : Nat} : names (n + 1) = names n ++ [nmF n] := by simp [names, List.range_succ]
theorem fresh_no {n : Nat} : fresh5 ∉ names n := fun h => by
  unfold names at h
  obtain ⟨i, _, e⟩ := List.mem_map.1 h
  exact nm_fresh i e

/-! ## The bags -/
def oneB (j : Nat) : Bag := ⟨putK zeroV [] zeroV 0 ((j : Int) + 1) [120], putR zeroV [] zeroV 0 ((j : Int) + 1) [120]⟩
theorem one_e {j : Nat} (hj : j < 1000000) {data : List UInt8} (hd : data.length ≤ 64) : putE zeroV [] zeroV 0 ((j : Int) + 1) data = 0 :=
  putE_ok (by decide) (by decide) (by rw [dotOk_iff]; omega) has_zero hd (by simp [putL, insV_len, keptL])
theorem one_ok {j : Nat} (hj : j < 1000000) : BagOk (oneB j).known (oneB j).vals := (put_okB zero_ok (one_e (data := [120]) hj (by simp)) rfl).1
theorem one_len {j : Nat} (hj : j < 1000000) : (oneB j).vals.length = 1 := by
  obtain ⟨_, _, h3, _⟩ := put_ok (one_e (data := [120]) hj (by simp))
  unfold oneB
  simp only
  rw [h3]
  simp [putL, insV_len, keptL]
theorem look_none {s : VSt} {key : List UInt8} (h : key ∉ s.bags.map Prod.fst) : bagOf s key = zBagS := by
  unfold bagOf
  rw [lookB_mem.2 h]
  rfl
theorem full_no {s : VSt} {key : List UInt8} (h : s.bags.length < 200) : fullS s key = false := by
  unfold fullS
  have : decide (200 ≤ s.bags.length) = false := by simp; omega
  rw [this, Bool.and_false]
theorem full_there {s : VSt} {key : List UInt8} (h : key ∈ s.bags.map Prod.fst) : fullS s key = false := by
  unfold fullS
  cases e : lookB s.bags key with
  | none => exact absurd h (lookB_mem.1 e)
  | some b => rfl
theorem full_yes {s : VSt} {key : List UInt8} (h : key ∉ s.bags.map Prod.fst) (h2 : 200 ≤ s.bags.length) : fullS s key = true := by
  unfold fullS
  rw [lookB_mem.2 h]
  simp [h2]
theorem put_full {s : VSt} {key : List UInt8} {data : List UInt8} (hk : keyOk key = true) (hd : s.dots ≠ 1000000) (hf : fullS s key = true) : putO s 0 key zeroV data = ⟨0, 0, 5, s⟩ := by
  unfold putO
  rw [if_neg (by simp [hk]), if_neg hd, if_pos hf]
theorem merge_full {s : VSt} {key : List UInt8} {b : Bag} (hk : keyOk key = true) (hb : bagMay b.known b.vals = true) (hf : fullS s key = true) : mergeO s key b = ⟨5, s⟩ := by
  unfold mergeO
  rw [if_neg (by simp [hk, hb]), if_pos hf]

/-- So many were put. -/
structure Fu (s : VSt) (i : Nat) : Prop where
  ok : VOk s
  keys : s.bags.map Prod.fst = names i
  dots : s.dots = i
  len : s.ds.length = i
  room : s.room = 3000
  bag : ∀ j, j < i → bagOf s (nmF j) = oneB j
theorem fu_zero : Fu (emptyS 3000) 0 := ⟨empty_ok (by omega) (by omega), rfl, rfl, rfl, rfl, fun j hj => by omega⟩
theorem Fu.put {s : VSt} {i : Nat} (h : Fu s i) (hi : i < 200) : ∃ s', putO s 0 (nmF i) zeroV [120] = ⟨0, (i : Int) + 1, 0, s'⟩ ∧ Fu s' (i + 1) := by
  have hno : nmF i ∉ s.bags.map Prod.fst := by rw [h.keys, names_mem (by omega) (by omega)]; omega
  have hb := look_none hno
  have hl : s.bags.length = i := by have := congrArg List.length h.keys; rw [List.length_map, names_len] at this; exact this
  have he : putE (bagOf s (nmF i)).known (bagOf s (nmF i)).vals zeroV 0 (s.dots + 1) [120] = 0 := by rw [hb, h.dots]; exact one_e (by omega) (by simp)
  have hlen := h.len
  have hroom := h.room
  obtain ⟨s', h1, h2⟩ := putO_ok (nm_ok i) (by omega) (by omega) (by rw [h.dots]; omega) (by rw [h.dots]; omega) (full_no (by omega)) he (by omega)
  have hok : VOk (putO s 0 (nmF i) zeroV [120]).s := h.ok.putV
  rw [h.dots] at h1
  rw [h1] at hok
  refine ⟨s', h1, hok, ?_, ?_, ?_, h2.room.trans hroom, fun j hj => ?_⟩
  · rw [h2.bags, setB_fst, if_neg hno, h.keys, names_succ]
  · rw [h2.dots, h.dots]; simp
  · rw [h2.ds, hlen]
  · by_cases e : j = i
    · subst e
      rw [h2.bag, hb, h.dots]
      rfl
    · have hne : nmF j ≠ nmF i := fun q => e (nm_inj (by omega) (by omega) q)
      have : bagOf s' (nmF j) = bagOf s (nmF j) := by
        unfold bagOf
        rw [h2.bags, lookB_set]
        have : (nmF j == nmF i) = false := by simpa using hne
        rw [this]
        rfl
      rw [this, h.bag j (by omega)]
/-- One that is there is written to once more. -/
structure Fv (s : VSt) : Prop where
  ok : VOk s
  keys : s.bags.map Prod.fst = names 200
  dots : s.dots = 201
  few : s.ds.length ≤ 202
  room : s.room = 3000
theorem Fu.again {s : VSt} (h : Fu s 200) : ∃ s', putO s 0 (nmF 0) zeroV [121] = ⟨0, 201, 0, s'⟩ ∧ Fv s' ∧ s'.ds.length = 201 ∧ bagOf s' (nmF 1) = oneB 1 := by
  have hin : nmF 0 ∈ s.bags.map Prod.fst := by rw [h.keys, names_mem (by omega) (by omega)]; omega
  have hb := h.bag 0 (by omega)
  have h1 := one_ok (j := 0) (by omega)
  have hhas : has (oneB 0).known 0 201 = false := by decide +kernel
  have he : putE (bagOf s (nmF 0)).known (bagOf s (nmF 0)).vals zeroV 0 (s.dots + 1) [121] = 0 := by
    rw [hb, h.dots]
    refine putE_ok h1.may (by decide) (by decide) hhas (by simp) ?_
    have := one_len (j := 0) (by omega)
    unfold putL
    rw [insV_len, kept_zero, this]
    omega
  have hlen := h.len
  have hroom := h.room
  obtain ⟨s', h2, h3⟩ := putO_ok (nm_ok 0) (by omega) (by omega) (by rw [h.dots]; omega) (by rw [h.dots]; omega) (full_there hin) he (by omega)
  have hok : VOk (putO s 0 (nmF 0) zeroV [121]).s := h.ok.putV
  rw [h2] at hok
  rw [h.dots] at h2
  have hds := h3.ds
  refine ⟨s', h2, ⟨hok, ?_, ?_, ?_, h3.room.trans hroom⟩, by omega, ?_⟩
  · rw [h3.bags, setB_fst, if_pos hin, h.keys]
  · rw [h3.dots, h.dots]; rfl
  · omega
  · have hne : (nmF 1 == nmF 0) = false := by decide
    unfold bagOf
    rw [h3.bags, lookB_set, hne]
    exact h.bag 1 (by omega)
def five1 : Nat → Int := upd zeroV 1 5
theorem five_ok : BagOk five1 [] := ⟨by decide, by simp⟩
theorem merge_okV {s : VSt} {key : List UInt8} {b : Bag} (ok : VOk s) : VOk (mergeO s key b).s := by
  unfold mergeO
  split
  · exact ok
  · split
    · exact ok
    · split
      · exact ok
      · exact ok.wrote ⟨joinR_fit, Nat.zero_le _⟩
theorem Fv.merge {s : VSt} (h : Fv s) (hl : s.ds.length = 201) (hb : bagOf s (nmF 1) = oneB 1) : ∃ s', mergeO s (nmF 1) ⟨five1, []⟩ = ⟨0, s'⟩ ∧ Fv s' := by
  have hin : nmF 1 ∈ s.bags.map Prod.fst := by rw [h.keys, names_mem (by omega) (by omega)]; omega
  have h1 := one_ok (j := 1) (by omega)
  have hlen := one_len (j := 1) (by omega)
  have hjl : (joinL (oneB 1).known (oneB 1).vals five1 []).length ≤ 32 := by
    unfold joinL
    have a := fold_len (s := staysL [] (oneB 1).known (oneB 1).vals) (l := staysL (oneB 1).vals five1 [])
    have b := stays_len (l := (oneB 1).vals) (r := []) (k := five1)
    have c := stays_len (l := []) (r := (oneB 1).vals) (k := (oneB 1).known)
    simp only [List.length_nil] at c
    omega
  rcases joinE_cases h1 five_ok with ⟨_, q⟩ | ⟨q1, q2, q3, q4⟩
  · omega
  have hok : VOk (mergeO s (nmF 1) ⟨five1, []⟩).s := merge_okV h.ok
  have hfull := full_there hin
  by_cases hbel : belowB five1 [] (bagOf s (nmF 1)).known (bagOf s (nmF 1)).vals = true
  · refine ⟨s, ?_, h⟩
    unfold mergeO
    rw [if_neg (by simp [nm_ok, five_ok.may]), if_neg (by simp [hfull]), if_pos (.inr hbel), hb, q1]
  · have hD : mergeD s (nmF 1) ⟨five1, []⟩ = bagD s.dots (nmF 1) ⟨joinV (oneB 1).known five1, joinL (oneB 1).known (oneB 1).vals five1 []⟩ := by
      rw [mergeD, hb]
      simp only
      rw [q3, q4]
    have hw : writeE (mergeD s (nmF 1) ⟨five1, []⟩) s.ds s.room = 0 := by
      rw [hD]
      have hd := h.dots
      have hr := h.room
      exact write_ok (bagD_may (nm_ok 1) (join_ok h1 five_ok hjl).may (by omega) (by omega)) (by omega)
    have hm : mergeO s (nmF 1) ⟨five1, []⟩ = ⟨writeE (mergeD s (nmF 1) ⟨five1, []⟩) s.ds s.room, wroteS s (mergeD s (nmF 1) ⟨five1, []⟩)⟩ := by
      unfold mergeO
      rw [if_neg (by simp [nm_ok, five_ok.may]), if_neg (by simp [hfull]), if_neg]
      rintro (q | q)
      · rw [hb] at q; exact q q1
      · exact hbel q
    rw [hm] at hok ⊢
    refine ⟨wroteS s (mergeD s (nmF 1) ⟨five1, []⟩), by rw [hw], hok, ?_, ?_, ?_, ?_⟩
    · rw [wroteS, if_pos hw, hD]
      simp only [countS, bagD]
      simp
      have := setB_fst (key := nmF 1) (x := ⟨joinV (oneB 1).known five1, joinL (oneB 1).known (oneB 1).vals five1 []⟩) (l := s.bags)
      rw [if_pos hin] at this
      rw [this, h.keys]
    · rw [wroteS, if_pos hw, hD]
      simp [countS, bagD, h.dots]
    · rw [wroteS, if_pos hw, hD]
      simp [countS, bagD]
      omega
    · rw [wroteS, if_pos hw, hD]
      simp [countS, bagD, h.room]
/-- A part that has keys. -/
theorem Fv.part {s : VSt} (h : Fv s) {p : Nat} (hp : ∀ j, j < p → keysS s j = []) (h15 : p = 15) : keysS s p ≠ [] := fun e => by
  have h0 : total (names 200) 16 = 200 := by
    rw [total_all, names_len]
    intro k hk
    unfold names at hk
    obtain ⟨i, _, rfl⟩ := List.mem_map.1 hk
    exact nm_ok i
  have hz : ∀ j, j ≤ 16 → total (names 200) j = 0 := fun j => by
    induction j with
    | zero => intro _; rfl
    | succ j ih =>
      intro hj
      have h1 : (keysS s (j : Nat)).length = 0 := by
        by_cases q : j = p
        · rw [q, e]; rfl
        · rw [hp j (by omega)]; rfl
      rw [keysS_len, h.keys] at h1
      simp only [total, ih (by omega), h1]
  rw [hz 16 (by omega)] at h0
  omega
theorem Fv.drop {s : VSt} (h : Fv s) {p : Nat} (hp : p < 16) (hk : keysS s p ≠ []) : writeE (dropD p) s.ds s.room = 0 ∧ VOk (dropS s p) ∧ ∃ a c s', putO (dropS s p) 0 fresh5 zeroV [120] = ⟨a, c, 0, s'⟩ := by
  have hr := h.room
  have hf := h.few
  have hw : writeE (dropD p) s.ds s.room = 0 := write_ok (drop_may (by omega) (by omega)) (by omega)
  have hD : dropS s p = { s with ds := s.ds ++ [dropD p], bags := restB p s.bags } := if_pos hw
  have hsub : (restB p s.bags).Sublist s.bags := List.filter_sublist
  have hbl : s.bags.length = 200 := by have := congrArg List.length h.keys; rw [List.length_map, names_len] at this; exact this
  have hlt : (restB p s.bags).length < 200 := by
    have h1 := part_split (s.bags.map Prod.fst) (p : Int)
    rw [← rest_fst, ← keysS_len, List.length_map, List.length_map, hbl] at h1
    have : (keysS s p).length ≠ 0 := fun e => hk (List.length_eq_zero_iff.1 e)
    omega
  have ok : VOk (dropS s p) := by
    rw [hD]
    have o := h.ok
    refine ⟨o.r0, o.r1, by simp; omega, fun d hd => ?_, o.rfit, fun key b hb => ?_, by have := o.ringsN; simp; omega, o.d0, o.d1, by have := o.sureN; simp; omega⟩
    · rcases List.mem_append.1 hd with q | q
      · exact o.fit d q
      · rw [List.mem_singleton.1 q]; exact drop_fits
    · simp only at hb
      exact o.bfit key b (mem_look (by rw [h.keys]; exact names_nd (by omega)) (hsub.subset (look_mem hb)))
  refine ⟨hw, ok, ?_⟩
  have hno : fresh5 ∉ (dropS s p).bags.map Prod.fst := by
    rw [hD]
    simp only
    rw [rest_fst, h.keys]
    exact fun q => fresh_no (List.mem_filter.1 q).1
  have hb := look_none hno
  have hd : (dropS s p).dots = 201 := by rw [hD]; exact h.dots
  have he : putE (bagOf (dropS s p) fresh5).known (bagOf (dropS s p) fresh5).vals zeroV 0 ((dropS s p).dots + 1) [120] = 0 := by rw [hb, hd]; exact one_e (j := 201) (by omega) (by simp)
  have hfu : fullS (dropS s p) fresh5 = false := full_no (by rw [hD]; exact hlt)
  have hroom : ((dropS s p).ds.length : Int) < (dropS s p).room := by rw [hD]; simp; omega
  obtain ⟨s', h1, _⟩ := putO_ok (key := fresh5) rfl (by omega) (by omega) (by omega) (by omega) hfu he hroom
  exact ⟨_, _, s', h1⟩
end Go.Proofs.YtflgfiieaoeknaaA

/- A giver's messages as trees; what a new giver tells; rows sorted by number. No statement about the program is proved here. -/
import Derived.Test.YtgbnbgkldeifkaaGreatGAW
namespace Go.Proofs.YtgbnbgkldeifkaaGreatA
open Go
set_option linter.unusedSimpArgs false
set_option linter.unusedVariables false
set_option maxRecDepth 1000000
section
variable {H : Heap}
theorem fld_ld {b : Nat} {g : Bool} {z : List AV} {a : AV} {o : Nat} (h : H[b]? = some (.cells g z)) (hc : cut z o 1 = some [a]) : loadAt H none (.ptr (some (b, o))) = some a := by
 simp only [loadAt, cells_of h, Option.bind_some, Option.getD_none, hc, shapeOf]
theorem row_ld {b : Nat} {g : Bool} {z y : List AV} {o n : Nat} (h : H[b]? = some (.cells g z)) (hc : cut z o n = some y) : loadAt H (some n) (.ptr (some (b, o))) = some (.agg y) := by
 simp only [loadAt, cells_of h, Option.bind_some, Option.getD_some, hc, shapeOf]
end
def msgTZ : List AV := [I 0, I 0, I 0, I 0, I 0, I 0, I 0, I 0, I 0, I 0, .ro 0 [], I 0, I 0, I 0, I 0, I 0, I 0, I 0, I 0, I 0, I 0, I 0, I 0, I 0, I 0, I 0, I 0, I 0, I 0, I 0, I 0, I 0, I 0, I 0, I 0, I 0, I 0, I 0, I 0, I 0, I 0, I 0, I 0, .ro 0 []]
def msgZ (g : Giv) (x : MsgP) : List AV := I x.1 :: I g.self :: I g.to :: I x.2.1 :: I 0 :: I 0 :: I g.part :: I g.epoch :: .str x.2.2.1 :: (bagV x.2.2.2.1 (roL valC x.2.2.2.2) ++ msgTZ)
theorem msgZ_len (g : Giv) (x : MsgP) : (msgZ g x).length = 62 := hard rfl
theorem msgZ_one (g : Giv) (x : MsgP) : (msgZ g x).all AV.one = true := by
 unfold msgZ
 simp only [List.all_cons, List.all_append, bagV_one]
 rfl
theorem msgT_frz {H : Heap} {d : Nat} : mapO (frz H (d + 1)) msgT = some msgTZ := by
 unfold msgT msgTZ
 simp
theorem msg_frz {H : Heap} {d lim : Nat} {g : Giv} {m : MsgM} (h : Row lim H 3 valC m.vals m.r) : mapO (frz H (d + 2)) (msgOf g m) = some (msgZ g m.p) := by
 have h1 : frz H (d + 2) m.r = some (roL valC m.vals) := h.frz valC_len val_flat
 have h2 : mapO (frz H (d + 2)) (bagV m.known m.r) = some (bagV m.known (roL valC m.vals)) := by rw [bagV_frz, h1]; rfl
 have h3 := mapO_app (b := msgT) (b' := msgTZ) h2 msgT_frz
 unfold msgOf msgZ msgG
 rw [oneR_of h.one]
 simp only [mapO, frz_int, frz_str, Option.bind_some, h3, Option.map_some, MsgM.p]
theorem msgs_frz {H : Heap} {d lim : Nat} {g : Giv} : ∀ {ms : List MsgM}, (∀ m ∈ ms, Row lim H 3 valC m.vals m.r) → mapO (frz H (d + 2)) (ms.flatMap (msgOf g)) = some ((ms.map MsgM.p).flatMap (msgZ g))
 | [], _ => rfl
 | m :: ms, h => by
  rw [List.flatMap_cons, List.map_cons, List.flatMap_cons]
  exact mapO_app (msg_frz (h _ (.head _))) (msgs_frz fun x hx => h x (.tail _ hx))
theorem MRow.frz {H : Heap} {d lim : Nat} {g : Giv} {ms : List MsgM} {r : AV} (h : MRow lim H g ms r) : Go.Proofs.YtgbnbgkldeifkaaGreatA.frz H (d + 3) r = some (roL (msgZ g) (ms.map MsgM.p)) := by
 rcases h.row with ⟨rfl, rfl⟩ | ⟨ne, b, g1, rfl, g3⟩
 · rfl
 · have e : ¬ ms.length = 0 := fun e => ne (List.eq_nil_of_length_eq_zero e)
   have hc := cut_all (flatMap_len (msgOf_len g) ms)
   unfold Go.Proofs.YtgbnbgkldeifkaaGreatA.frz
   simp only [e, if_false, Heap.cells?, g3, Option.bind_some, hc, msgs_frz h.vals, Option.map_some]
   unfold roL
   rw [List.length_map]
theorem msgZ_cut (g : Giv) (x : MsgP) : cut (msgZ g x) 0 1 = some [I x.1] ∧ cut (msgZ g x) 1 1 = some [I g.self] ∧ cut (msgZ g x) 2 1 = some [I g.to] ∧ cut (msgZ g x) 3 1 = some [I x.2.1] ∧ cut (msgZ g x) 6 1 = some [I g.part] ∧ cut (msgZ g x) 7 1 = some [I g.epoch] ∧ cut (msgZ g x) 8 1 = some [.str x.2.2.1] ∧ cut (msgZ g x) 9 9 = some (bagV x.2.2.2.1 (roL valC x.2.2.2.2)) ∧ cut (msgZ g x) 4 1 = some [I 0] ∧ cut (msgZ g x) 5 1 = some [I 0] ∧ cut (msgZ g x) 61 1 = some [.ro 0 []] :=
 ⟨hard rfl, hard rfl, hard rfl, hard rfl, hard rfl, hard rfl, hard rfl, hard rfl, hard rfl, hard rfl, hard rfl⟩
set_option maxHeartbeats 1000000 in
theorem c48 (g : Giv) (ps : List MsgP) (few : ps.length < 1000000000000) (hv : ∀ x ∈ ps, x.2.2.2.2.length ≤ 4398046511104) : Pu envE 48 [roL (msgZ g) ps, roL (msgZ g) ps] (I 0) := by
 refine pu_is e48 rfl ?_
 rw [fr_init (by simp [fd48])]
 simp [fd48, b48]
 refine loop_go [1, 13, 14, 15] rfl (fun m vs H => ∃ i, m + i = ps.length ∧ vs = [roL (msgZ g) ps, roL (msgZ g) ps, I ps.length, I i]) ?_ ps.length ⟨0, rfl, rfl⟩
 rintro J hJ m vs H f ⟨i, hm, rfl⟩
 by_cases hi : i < ps.length
 · have hw := wrap_succ (i := i) (by omega)
   have hld := fun H => load_roL (msgZ_len g) hi (H := H)
   obtain ⟨x, hx⟩ : ∃ x, x = ps[i] := ⟨_, rfl⟩
   have hxv : x.2.2.2.2.length ≤ 4398046511104 := hv x (by rw [hx]; exact List.getElem_mem _)
   obtain ⟨B, hB⟩ : ∃ B, B = msgZ g x := ⟨_, rfl⟩
   obtain ⟨f0, f1, f2, f3, f6, f7, f8, f9, f4, f5, f61⟩ := msgZ_cut g x
   rw [← hB] at f0 f1 f2 f3 f6 f7 f8 f9 f4 f5 f61
   have Blen : B.length = 62 := by rw [hB]; exact msgZ_len _ _
   have hone : (∀ x : AV, x ∈ B → x.one = true) = True := eq_true (List.all_eq_true.1 (by rw [hB]; exact msgZ_one _ _))
   have hover : ∀ c : List AV, c.length = 62 → setFrom c 0 B = B := fun c hc => setFrom_all _ _ (by rw [hc, Blen])
   rw [← hx, ← hB] at hld
   obtain ⟨H1, hH1⟩ : ∃ H1, H1 = H ++ [ABlk.cells false B] := ⟨_, rfl⟩
   have l1 : H1.length = H.length + 1 := by rw [hH1]; simp
   have k25' := fun H' K' => k25 (k := x.2.2.2.1) (k' := x.2.2.2.1) (l := x.2.2.2.2) (l' := x.2.2.2.2) (by omega) (H := H') (K := K')
   have hs : bagSame x.2.2.2.1 x.2.2.2.2 x.2.2.2.1 x.2.2.2.2 = true := bagSame_refl (b := ⟨x.2.2.2.1, x.2.2.2.2⟩)
   rw [hs] at k25'
   have c1 : (H1 ++ [ABlk.cells false B])[H.length]? = some (.cells false B) := get_app (by rw [hH1]; simp)
   have c2 : (H1 ++ [ABlk.cells false B])[H1.length]? = some (.cells false B) := by simp
   have l0 := fld_ld c1 f0
   have l1' := fld_ld c1 f1
   have l2 := fld_ld c1 f2
   have l3 := fld_ld c1 f3
   have l6 := fld_ld c1 f6
   have l7 := fld_ld c1 f7
   have l8 := fld_ld c1 f8
   have l4 := fld_ld c1 f4
   have l5 := fld_ld c1 f5
   have l61 := fld_ld c1 f61
   have m0 := fld_ld c2 f0
   have m1 := fld_ld c2 f1
   have m2 := fld_ld c2 f2
   have m3 := fld_ld c2 f3
   have m6 := fld_ld c2 f6
   have m7 := fld_ld c2 f7
   have m8 := fld_ld c2 f8
   have l9 := row_ld (n := 9) c1 f9
   have m9 := row_ld (n := 9) c2 f9
   simp [lp48_0, hi, idxSl_roL hi, hld, -load_tp, -load_ptr, msg_zero, msgG_len, Blen, hone, hover, ← hH1, l0, l1', l2, l3, l4, l5, l6, l7, l8, l9, l61, m0, m1, m2, m3, m6, m7, m8, m9, k25', binStr, hw]
   exact nxt hJ (m - 1) (by omega) ⟨i + 1, by omega, rfl⟩
 · simp [lp48_0, hi]
theorem tells_at {K : List (List UInt8)} (hs : Strict K) (hn : ∀ k ∈ K, k ≠ []) : ∀ (n i : Nat), i ≤ K.length → tellsF K n [] (lastAt K i) = ((K.drop i).take n, [], lastAt K (min (i + n) K.length))
 | 0, i, hi => by simp [tellsF, Nat.min_eq_left hi]
 | n + 1, i, hi => by
  have ha := ahead_at hs hn hi
  by_cases h : i < K.length
  · rw [List.getElem?_eq_getElem h] at ha
    have hl : lastAt K (i + 1) = K[i] := by
     unfold lastAt
     rw [if_neg (by omega), Nat.add_sub_cancel, List.getElem?_eq_getElem h]
     rfl
    have hn1 : nextF K [] (lastAt K i) = (some K[i], [], lastAt K (i + 1)) := by rw [hl]; simp [nextF, ha]
    have ih := tells_at hs hn n (i + 1) h
    simp only [tellsF, hn1, ih]
    rw [List.drop_eq_getElem_cons h, List.take_succ_cons, show i + 1 + n = i + (n + 1) by omega]
  · obtain rfl : i = K.length := by omega
    rw [List.getElem?_eq_none (Nat.le_refl _)] at ha
    have hn1 : nextF K [] (lastAt K K.length) = (none, [], lastAt K K.length) := by simp [nextF, ha]
    simp only [tellsF, hn1]
    simp
theorem toldP_at {s : VSt} : ∀ {ks : List (List UInt8)} {n : Int} {i : Nat} (hi : i < ks.length), (toldP s n ks)[i]? = some (5, n + i + 1, ks[i], (bagOf s ks[i]).known, (bagOf s ks[i]).vals)
 | k :: ks, n, 0, _ => by simp [toldP]
 | k :: ks, n, i + 1, hi => by
  have hi' : i < ks.length := by simpa using hi
  have := toldP_at (s := s) (n := n + 1) hi'
  rw [show n + 1 + (i : Int) = n + ((i + 1 : Nat) : Int) by omega] at this
  simpa [toldP] using this
theorem toldP_lt {s : VSt} {ks : List (List UInt8)} {n : Int} : (toldP s n ks).Pairwise fun a b => a.2.1 < b.2.1 := by
 refine List.pairwise_iff_getElem.2 fun i j hi hj hij => ?_
 rw [toldP_len] at hi hj
 have h1 := toldP_at (s := s) (n := n) hi
 have h2 := toldP_at (s := s) (n := n) hj
 rw [List.getElem?_eq_getElem (by rw [toldP_len]; exact hi)] at h1
 rw [List.getElem?_eq_getElem (by rw [toldP_len]; exact hj)] at h2
 rw [Option.some.inj h1, Option.some.inj h2]
 show n + (i : Int) + 1 < n + (j : Int) + 1
 omega
theorem sorted_one : ∀ {a b : List MsgP}, a.Perm b → a.Pairwise (fun x y => x.2.1 ≤ y.2.1) → b.Pairwise (fun x y => x.2.1 < y.2.1) → a = b
 | [], b, h, _, _ => h.symm.eq_nil.symm
 | x :: a, [], h, _, _ => absurd h.eq_nil (by simp)
 | x :: a, y :: b, h, h1, h2 => by
  obtain ⟨p1, p2⟩ := List.pairwise_cons.1 h1
  obtain ⟨q1, q2⟩ := List.pairwise_cons.1 h2
  have e : x = y := by
   rcases List.mem_cons.1 (h.subset (.head _)) with e | hx
   · exact e
   · rcases List.mem_cons.1 (h.symm.subset (.head _)) with e | hy
     · exact e.symm
     · have a1 := q1 x hx
       have a2 := p1 y hy
       omega
  subst e
  rw [sorted_one h.cons_inv p2 q2]
theorem srt_pair {l : List OutM} (h : SrtTo l l.length) : (l.map OutM.p).Pairwise fun x y => x.2.1 ≤ y.2.1 := by
 refine List.pairwise_iff_getElem.2 fun i j hi hj hij => ?_
 simp only [List.length_map] at hi hj
 have := h i j l[i] l[j] hij hj (List.getElem?_eq_getElem hi) (List.getElem?_eq_getElem hj)
 simp only [oLess, decide_eq_false_iff_not] at this
 rw [List.getElem_map, List.getElem_map]
 show l[i].seq ≤ l[j].seq
 omega
end Go.Proofs.YtgbnbgkldeifkaaGreatA

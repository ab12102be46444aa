/- What always wakes: a cursor over one key. No statement about the program is proved here. -/
import Derived.Test.YtgbnbgkldeifkaaGreatFO
namespace Go.Proofs.YtgbnbgkldeifkaaGreatA
open Go
set_option linter.unusedSimpArgs false
set_option linter.unusedVariables false
set_option maxRecDepth 1000000
attribute [local simp] vec_zero
def s34 : VSt := (putO (emptyS 9) 0 [97] zeroV [49]).s
theorem p34 : (putO (emptyS 9) 0 [97] zeroV [49]).e = 0 := by kernel_rfl
theorem s34_keys : keysS s34 (spotF [97]) = [[97]] := by
 have hput := put_keys (s := emptyS 9) (node := 0) (key := [97]) (known := zeroV) (data := [49])
 rcases hput with ⟨_, _, hb, _⟩ | ⟨he, _⟩
 · have e : s34.bags.map Prod.fst = [[97]] := hb
   unfold keysS
   rw [e]
   simp [sortS]
 · exact absurd p34 he
theorem s34_len : s34.bags.length = 1 := by
 have hput := put_keys (s := emptyS 9) (node := 0) (key := [97]) (known := zeroV) (data := [49])
 rcases hput with ⟨_, _, hb, _⟩ | ⟨he, _⟩
 · have e : s34.bags.map Prod.fst = [[97]] := hb
   have := congrArg List.length e
   simpa using this
 · exact absurd p34 he
theorem pair_load {k : List UInt8} {kn : Nat → Int} {q : AV} : cut (pairC k kn q) 0 1 = some [.str k] := rfl
set_option maxHeartbeats 1000000 in
theorem wake34 : Pu envE 34 [] (.bool true) := by
 refine pu_is e34 rfl ?_
 have nr := fun K => new_room (room := 9) (H := []) (lim := 0) (K := K) (by omega) (by omega)
 rw [fr_init (by simp [fd34])]
 simp [fd34, b34, nr]
 refine open_new 9 [] (by omega) (by omega) ?_
 intro X hv
 have ok0 := empty_ok (room := 9) (by omega) (by omega)
 simp only [List.nil_append, List.length_nil, Nat.zero_add] at hv ⊢
 simp
 refine WCl.mono (c24 hv ok0 0 [97] zeroV [49]) ?_
 rintro _ H1 ⟨rfl, k1, v1, q1, es1, ck1, hv1⟩
 have ok1 : VOk s34 := ok0.putV
 have hs1 : (putO (emptyS 9) 0 [97] zeroV [49]).s = s34 := rfl
 rw [hs1] at hv1
 obtain ⟨p0, p1⟩ := spot_ok (s := [97]) (by rfl)
 have kN := fun K => WCl_eq (K := K) (c26 (spotF [97]) 0 H1 p0 p1)
 have hc := cur_new (X := []) (H := H1 ++ [curB (spotF [97]) .nilsl []]) (cb := H1.length) (part := spotF [97]) (by simp)
 have hv2 := hv1.app (X := [curB (spotF [97]) .nilsl []])
 have few : s34.bags.length < 1000000000 := by rw [s34_len]; omega
 simp [kN]
 refine WCl.mono (c28 hv2 ok1 few p0 hc) ?_
 rintro r H3 ⟨hr, v3, h3, fr3⟩
 rw [s34_keys] at hr h3
 have hn : nextF [[97]] [] [] = (some [97], [], [97]) := rfl
 rw [hn] at hr h3
 rcases hr with ⟨e, _⟩ | ⟨k, q', e, rfl, hrow⟩
 · cases e
 cases e
 have o1 := hrow.one
 have hv3 : Vlt H3 2 0 1 s34 v1 q1 es1 ck1 := hv2.keepC fun b z hb hi => fr3.still hc hb hi
 obtain ⟨B, hB⟩ : ∃ B, B = pairC [97] (bagOf s34 [97]).known q' := ⟨_, rfl⟩
 have hover : ∀ (l : List AV), l.length = 10 → setFrom l 0 B = B := fun l a => setFrom_all _ _ (by rw [a, hB, pairC_len])
 have Bone : (∀ x : AV, x ∈ B → x.one = true) = True := eq_true (List.all_eq_true.1 (by rw [hB]; exact pairC_one o1))
 have Blen : B.length = 10 := by rw [hB]; exact pairC_len
 obtain ⟨H4, hH4⟩ : ∃ H4, H4 = H3 ++ [ABlk.cells false B] := ⟨_, rfl⟩
 have hc4 : CurM H4 H1.length (spotF [97]) [] [97] v3 := by rw [hH4]; exact h3.app
 have hv4 : Vlt H4 2 0 1 s34 v1 q1 es1 ck1 := by rw [hH4]; exact hv3.app
 have b4 : H4[H3.length]? = some (.cells false B) := by rw [hH4]; simp
 rw [← hB]
 simp [hover, Blen, Bone, ← hH4]
 refine WCl.mono (c28 hv4 ok1 few p0 hc4) ?_
 rintro r H5 ⟨hr, v5, h5, fr5⟩
 rw [s34_keys] at hr h5
 have hn2 : nextF [[97]] [] [97] = (none, [], [97]) := by
  simp [nextF, aheadF, strLess]
 rw [hn2] at hr h5
 obtain ⟨_, rfl⟩ := hr.resolve_right (by rintro ⟨_, _, e, _⟩; cases e)
 have b5 := fr5.still hc4 b4 (by rw [hB]; rfl)
 have hv5 : Vlt H5 2 0 1 s34 v1 q1 es1 ck1 := hv4.keepC fun b z hb hi => fr5.still hc4 hb hi
 obtain ⟨H6, hH6⟩ : ∃ H6, H6 = H5 ++ [ABlk.cells false pairZ] := ⟨_, rfl⟩
 have hc6 : CurM H6 H1.length (spotF [97]) [] [97] v5 := by rw [hH6]; exact h5.app
 have hv6 : Vlt H6 2 0 1 s34 v1 q1 es1 ck1 := by rw [hH6]; exact hv5.app
 have b6 : H6[H3.length]? = some (.cells false B) := by rw [hH6]; exact get_app b5
 have hz : ∀ (l : List AV), l.length = 10 → setFrom l 0 pairZ = pairZ := fun l a => setFrom_all _ _ (by rw [a, pairZ_len])
 have zone : (∀ x : AV, x ∈ pairZ → x.one = true) = True := eq_true (List.all_eq_true.1 pairZ_one)
 have l0 : cut B 0 1 = some [.str [97]] := by rw [hB]; rfl
 have hb6 := cells_of b6
 simp [hz, pairZ_len, zone, ← hH6, hb6, l0, shapeOf, binStr]
 refine WCl.mono (c30 hc6 [97] (by simp)) ?_
 rintro _ H7 ⟨rfl, v7, h7, fr7⟩
 have hok : backOk (spotF [97]) [97] [97] = true := by simp [backOk, sless_irr]
 have hv7 : Vlt H7 2 0 1 s34 v1 q1 es1 ck1 := hv6.keepC fun b z hb hi => fr7.still hc6 hb hi
 simp [hok]
 refine WCl.mono (c32 hv7 few p0 h7 0 (Nat.zero_le _)) ?_
 rintro _ _ ⟨rfl, Y, rfl⟩
 have hov : overF (keysS s34 (spotF [97])) (backF (spotF [97]) [] [97] [97]) [97] = false := by
  rw [s34_keys, backF, hok]
  simp [overF, insF, aheadF, sless_irr]
 simp [hov]
theorem k34 {H : Heap} {K : AV → Heap → Prop} : wPu envE 34 (some []) H K = K (.bool true) H := (wPu_eq wake34).trans (by simp)
end Go.Proofs.YtgbnbgkldeifkaaGreatA

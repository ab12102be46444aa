/- A ledger that there isn't. No statement about the program is proved here. -/
import Derived.Test.YtdbgebbofpgjmaaE0
import Derived.Test.YtdbgebbofpgjmaaG0
namespace Go.Proofs.YtdbgebbofpgjmaaA
open Go
set_option linter.unusedSimpArgs false
set_option maxRecDepth 1000000

structure Call17 where
  what : Int
  n : Int
  d : Deed
def call17C (c : Call17) : List AV := [I c.what, I c.n] ++ deedC c.d
theorem call17C_len (c : Call17) : (call17C c).length = 58 := hard rfl
theorem call17C_one (c : Call17) : (call17C c).all AV.one = true := hard rfl
theorem call17_f0 (c : Call17) : (call17C c).take 1 = [I c.what] := hard rfl
theorem call17_f1 (c : Call17) : ((call17C c).drop 1).take 1 = [I c.n] := hard rfl
theorem call17_f2 (c : Call17) : ((call17C c).drop 2).take 56 = deedC c.d := hard rfl
theorem call17_t1 (c : Call17) : (call17C c).tail.take 1 = [I c.n] := hard rfl
theorem call17_all (c : Call17) : (call17C c).take 58 = call17C c := hard rfl
theorem frz_call17 {H : Heap} {d : Nat} (c : Call17) : mapO (frz H (d + 1)) (call17C c) = some (call17C c) := by
  unfold call17C
  refine mapO_app ?_ (frz_deed _)
  simp only [mapO, frz_int, Option.bind_some, Option.map_some]
def shCall17 : Sh := .cat [iS, iS, (56, shDeed)]
theorem of_call17 {cs : List AV} (h : Fits shCall17 cs) : ∃ c, cs = call17C c ∧ c.d.bag.vals.length * 32 ≤ reachBytes := by
  obtain ⟨a, r, rfl, h1⟩ := of_cat_int h
  obtain ⟨b, r, rfl, h2⟩ := of_cat_int h1
  obtain ⟨r, rest, rfl, _, h3, h4⟩ := fits_cons h2
  obtain ⟨d, rfl, h5, _⟩ := of_deed h3
  have := fits_nil h4; subst this
  exact ⟨⟨a, b, d⟩, by simp [call17C], h5⟩

theorem light17 {E : AEnv} (hf : E.fn 7 = some (.code fd7)) (h35 : E.fn 35 = some (.code fd35)) (h46 : E.fn 46 = some (.code fd46)) (h38 : E.fn 38 = some (.code fd38)) (l : List Call17) (hl : l.length < 4611686018427387904) (hb : ∀ c ∈ l, c.d.bag.vals.length < 4611686018427387904) : WPu E 7 [roL call17C l] fun r => ∃ b, r = .bool b := by
  refine pu_of hf rfl ?_
  rw [fr_init (by simp [fd7])]
  simp [fd7, b7, fr_set, fr_get, fr_getD, look, enumA, aop, AX.ev, nextP_some, optP_some, callP_some, eitherP_tt, eitherP_tf, eitherP_ft, eitherP_ff, eitherP_no, resAll, resL, resOne, own_bool, own_int, own_str, own_nilsl, noTwo, len_roL, len_nil, len_sl, len_ro, binAV, binInt, unAV, cells_new, cells_new0, cells_hd, cells_tl1, cells_tl2, storeAt_new, storeAt_new0, storeAt_hd, storeAt_tl1, storeAt_tl2, storeAt_tl3, load_ptr, load_tp, setFrom_all, AV.cells, AV.one, cut, shape_some, shape_none, faddr_ptr, faddr_tp, roL_one, callee, afterP_eq, nextD_same, nextD_set, nextD_new, thaw_int, thaw_bool, thaw_str, thaw_nilsl, nextD_pre, nextD_true, fillAV, setFrom, valC_len, valC_one, intC_len, bagC_len, bagC_one, ringC_len, ringC_one, deedC_len, deedC_one, val_f0, val_f1, val_f2, val_f01, bag_f0, bag_f8, plan_f0, plan_f1, plan_f2, ring_f0, ring_f8, ring_f8a, ring_f9, ring_f10, ring_f11, deed_f0, deed_f1, deed_f2, deed_f3, deed_f11, deed_f12, deed_f22, deed_f55, val_all, bag_all, plan_all, ring_all, deed_all, val_t1, plan_t1, deed_t1]
  refine loop_fr (n := 22) [5, 6, 7] rfl (fun m vs H => ∃ i, m + i = l.length ∧ vs = [roL call17C l, I l.length, I i]) ?_ ⟨l.length, [roL call17C l, I l.length, I 0], ⟨0, rfl, rfl⟩, rfl, _, fr_pick [5, 6, 7]⟩
  rintro m vs H b - ⟨i, hm, rfl⟩
  by_cases hi : i < l.length
  · have hbi := hb l[i] (List.getElem_mem _)
    have hw := wrap_succ (i := i) (by omega)
    by_cases h80 : (80 : Int) ≤ i
    · simp [lp7_0, fr_set, fr_get, fr_getD, look, enumA, aop, AX.ev, nextP_some, optP_some, callP_some, eitherP_tt, eitherP_tf, eitherP_ft, eitherP_ff, eitherP_no, resAll, resL, resOne, own_bool, own_int, own_str, own_nilsl, noTwo, len_roL, len_nil, len_sl, len_ro, binAV, binInt, unAV, cells_new, cells_new0, cells_hd, cells_tl1, cells_tl2, storeAt_new, storeAt_new0, storeAt_hd, storeAt_tl1, storeAt_tl2, storeAt_tl3, load_ptr, load_tp, setFrom_all, AV.cells, AV.one, cut, shape_some, shape_none, faddr_ptr, faddr_tp, roL_one, callee, afterP_eq, nextD_same, nextD_set, nextD_new, thaw_int, thaw_bool, thaw_str, thaw_nilsl, nextD_pre, nextD_true, fillAV, setFrom, valC_len, valC_one, intC_len, bagC_len, bagC_one, ringC_len, ringC_one, deedC_len, deedC_one, val_f0, val_f1, val_f2, val_f01, bag_f0, bag_f8, plan_f0, plan_f1, plan_f2, ring_f0, ring_f8, ring_f8a, ring_f9, ring_f10, ring_f11, deed_f0, deed_f1, deed_f2, deed_f3, deed_f11, deed_f12, deed_f22, deed_f55, val_all, bag_all, plan_all, ring_all, deed_all, val_t1, plan_t1, deed_t1, hi, idxSl_roL hi, load_roL call17C_len hi, h80, call17C_len, call17C_one, call17_f2]
    · simp [lp7_0, fr_set, fr_get, fr_getD, look, enumA, aop, AX.ev, nextP_some, optP_some, callP_some, eitherP_tt, eitherP_tf, eitherP_ft, eitherP_ff, eitherP_no, resAll, resL, resOne, own_bool, own_int, own_str, own_nilsl, noTwo, len_roL, len_nil, len_sl, len_ro, binAV, binInt, unAV, cells_new, cells_new0, cells_hd, cells_tl1, cells_tl2, storeAt_new, storeAt_new0, storeAt_hd, storeAt_tl1, storeAt_tl2, storeAt_tl3, load_ptr, load_tp, setFrom_all, AV.cells, AV.one, cut, shape_some, shape_none, faddr_ptr, faddr_tp, roL_one, callee, afterP_eq, nextD_same, nextD_set, nextD_new, thaw_int, thaw_bool, thaw_str, thaw_nilsl, nextD_pre, nextD_true, fillAV, setFrom, valC_len, valC_one, intC_len, bagC_len, bagC_one, ringC_len, ringC_one, deedC_len, deedC_one, val_f0, val_f1, val_f2, val_f01, bag_f0, bag_f8, plan_f0, plan_f1, plan_f2, ring_f0, ring_f8, ring_f8a, ring_f9, ring_f10, ring_f11, deed_f0, deed_f1, deed_f2, deed_f3, deed_f11, deed_f12, deed_f22, deed_f55, val_all, bag_all, plan_all, ring_all, deed_all, val_t1, plan_t1, deed_t1, hi, idxSl_roL hi, load_roL call17C_len hi, h80, call17C_len, call17C_one, call17_f2]
      refine WPu.cl (heavy17 h35 h46 h38 [l[i].d] (by simp) (by simpa using hbi)) (frz_sl1 l[i].d (by simp [fr_set, fr_get, fr_getD, look, enumA, aop, AX.ev, nextP_some, optP_some, callP_some, eitherP_tt, eitherP_tf, eitherP_ft, eitherP_ff, eitherP_no, resAll, resL, resOne, own_bool, own_int, own_str, own_nilsl, noTwo, len_roL, len_nil, len_sl, len_ro, binAV, binInt, unAV, cells_new, cells_new0, cells_hd, cells_tl1, cells_tl2, storeAt_new, storeAt_new0, storeAt_hd, storeAt_tl1, storeAt_tl2, storeAt_tl3, load_ptr, load_tp, setFrom_all, AV.cells, AV.one, cut, shape_some, shape_none, faddr_ptr, faddr_tp, roL_one, callee, afterP_eq, nextD_same, nextD_set, nextD_new, thaw_int, thaw_bool, thaw_str, thaw_nilsl, nextD_pre, nextD_true, fillAV, setFrom, valC_len, valC_one, intC_len, bagC_len, bagC_one, ringC_len, ringC_one, deedC_len, deedC_one, val_f0, val_f1, val_f2, val_f01, bag_f0, bag_f8, plan_f0, plan_f1, plan_f2, ring_f0, ring_f8, ring_f8a, ring_f9, ring_f10, ring_f11, deed_f0, deed_f1, deed_f2, deed_f3, deed_f11, deed_f12, deed_f22, deed_f55, val_all, bag_all, plan_all, ring_all, deed_all, val_t1, plan_t1, deed_t1]) (deedC_len _) (frz_deed _)) ?_
      rintro _ ⟨x, rfl⟩
      by_cases hx : 0 < x
      · simp [fr_set, fr_get, fr_getD, look, enumA, aop, AX.ev, nextP_some, optP_some, callP_some, eitherP_tt, eitherP_tf, eitherP_ft, eitherP_ff, eitherP_no, resAll, resL, resOne, own_bool, own_int, own_str, own_nilsl, noTwo, len_roL, len_nil, len_sl, len_ro, binAV, binInt, unAV, cells_new, cells_new0, cells_hd, cells_tl1, cells_tl2, storeAt_new, storeAt_new0, storeAt_hd, storeAt_tl1, storeAt_tl2, storeAt_tl3, load_ptr, load_tp, setFrom_all, AV.cells, AV.one, cut, shape_some, shape_none, faddr_ptr, faddr_tp, roL_one, callee, afterP_eq, nextD_same, nextD_set, nextD_new, thaw_int, thaw_bool, thaw_str, thaw_nilsl, nextD_pre, nextD_true, fillAV, setFrom, valC_len, valC_one, intC_len, bagC_len, bagC_one, ringC_len, ringC_one, deedC_len, deedC_one, val_f0, val_f1, val_f2, val_f01, bag_f0, bag_f8, plan_f0, plan_f1, plan_f2, ring_f0, ring_f8, ring_f8a, ring_f9, ring_f10, ring_f11, deed_f0, deed_f1, deed_f2, deed_f3, deed_f11, deed_f12, deed_f22, deed_f55, val_all, bag_all, plan_all, ring_all, deed_all, val_t1, plan_t1, deed_t1, hx]
      · simp [fr_set, fr_get, fr_getD, look, enumA, aop, AX.ev, nextP_some, optP_some, callP_some, eitherP_tt, eitherP_tf, eitherP_ft, eitherP_ff, eitherP_no, resAll, resL, resOne, own_bool, own_int, own_str, own_nilsl, noTwo, len_roL, len_nil, len_sl, len_ro, binAV, binInt, unAV, cells_new, cells_new0, cells_hd, cells_tl1, cells_tl2, storeAt_new, storeAt_new0, storeAt_hd, storeAt_tl1, storeAt_tl2, storeAt_tl3, load_ptr, load_tp, setFrom_all, AV.cells, AV.one, cut, shape_some, shape_none, faddr_ptr, faddr_tp, roL_one, callee, afterP_eq, nextD_same, nextD_set, nextD_new, thaw_int, thaw_bool, thaw_str, thaw_nilsl, nextD_pre, nextD_true, fillAV, setFrom, valC_len, valC_one, intC_len, bagC_len, bagC_one, ringC_len, ringC_one, deedC_len, deedC_one, val_f0, val_f1, val_f2, val_f01, bag_f0, bag_f8, plan_f0, plan_f1, plan_f2, ring_f0, ring_f8, ring_f8a, ring_f9, ring_f10, ring_f11, deed_f0, deed_f1, deed_f2, deed_f3, deed_f11, deed_f12, deed_f22, deed_f55, val_all, bag_all, plan_all, ring_all, deed_all, val_t1, plan_t1, deed_t1, hx, hw]
        exact ⟨m - 1, by omega, [roL call17C l, I l.length, I (i + 1 : Nat)], ⟨i + 1, by omega, rfl⟩, rfl, _, fr_pick [5, 6, 7]⟩
  · simp [lp7_0, fr_set, fr_get, fr_getD, look, enumA, aop, AX.ev, nextP_some, optP_some, callP_some, eitherP_tt, eitherP_tf, eitherP_ft, eitherP_ff, eitherP_no, resAll, resL, resOne, own_bool, own_int, own_str, own_nilsl, noTwo, len_roL, len_nil, len_sl, len_ro, binAV, binInt, unAV, cells_new, cells_new0, cells_hd, cells_tl1, cells_tl2, storeAt_new, storeAt_new0, storeAt_hd, storeAt_tl1, storeAt_tl2, storeAt_tl3, load_ptr, load_tp, setFrom_all, AV.cells, AV.one, cut, shape_some, shape_none, faddr_ptr, faddr_tp, roL_one, callee, afterP_eq, nextD_same, nextD_set, nextD_new, thaw_int, thaw_bool, thaw_str, thaw_nilsl, nextD_pre, nextD_true, fillAV, setFrom, valC_len, valC_one, intC_len, bagC_len, bagC_one, ringC_len, ringC_one, deedC_len, deedC_one, val_f0, val_f1, val_f2, val_f01, bag_f0, bag_f8, plan_f0, plan_f1, plan_f2, ring_f0, ring_f8, ring_f8a, ring_f9, ring_f10, ring_f11, deed_f0, deed_f1, deed_f2, deed_f3, deed_f11, deed_f12, deed_f22, deed_f55, val_all, bag_all, plan_all, ring_all, deed_all, val_t1, plan_t1, deed_t1, hi]

theorem awake17 (lim : Nat) (H : Heap) : Cl envE 8 [] lim H (.bool true) H := cl_run 200 (by kernel_rfl)
theorem nil9 (d : Deed) (lim : Nat) (H : Heap) : Cl envE 9 [.ptr none, .agg (deedC d)] lim H (I 1) (H ++ [.cells false (deedC d)]) := cl_run 50 (by kernel_rfl)
theorem nil10 (lim : Nat) (H : Heap) : Cl envE 10 [.ptr none] lim H (I 0) H := cl_run 50 (by kernel_rfl)
theorem nil11 (n : Int) (lim : Nat) (H : Heap) : Cl envE 11 [.ptr none, I n] lim H (I 0) H := cl_run 50 (by kernel_rfl)
theorem nil12 (lim : Nat) (H : Heap) : Cl envE 12 [.ptr none] lim H .nilsl H := cl_run 50 (by kernel_rfl)
theorem nil13 (lim : Nat) (H : Heap) : Cl envE 13 [.ptr none] lim H (I 0) H := cl_run 50 (by kernel_rfl)
theorem nil14 (lim : Nat) (H : Heap) : Cl envE 14 [.ptr none] lim H (I 0) H := cl_run 50 (by kernel_rfl)
theorem nil15 (lim : Nat) (H : Heap) : Cl envE 15 [.ptr none] lim H (I 0) H := cl_run 50 (by kernel_rfl)
end Go.Proofs.YtdbgebbofpgjmaaA

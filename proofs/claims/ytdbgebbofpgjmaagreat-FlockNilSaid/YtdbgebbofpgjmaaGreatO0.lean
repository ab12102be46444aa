/- A flock that there isn't. No statement about the program is proved here. -/
import Derived.Test.YtdbgebbofpgjmaaGreatE2
namespace Go.Proofs.YtdbgebbofpgjmaaGreatA
open Go
set_option linter.unusedSimpArgs false
set_option maxRecDepth 1000000

structure Cmd where
  kind : Int
  node : Int
  i : Int
  draw : Int
  key : List UInt8
  data : List UInt8
  known : Nat → Int
def cmdC (c : Cmd) : List AV := [I c.kind, I c.node, I c.i, .int .u64 c.draw, .str c.key, .str c.data] ++ vecC c.known
theorem cmdC_len (c : Cmd) : (cmdC c).length = 14 := hard rfl
theorem cmdC_one (c : Cmd) : (cmdC c).all AV.one = true := hard rfl
theorem cmd_t1 (c : Cmd) : (cmdC c).tail.take 1 = [I c.node] := hard rfl
theorem cmd_all (c : Cmd) : (cmdC c).take 14 = cmdC c := hard rfl
theorem frz_cmd {H : Heap} {d : Nat} (c : Cmd) : mapO (frz H (d + 1)) (cmdC c) = some (cmdC c) := by
  unfold cmdC
  refine mapO_app ?_ (frz_vec _)
  simp only [mapO, frz_int, frz_str, Option.bind_some, Option.map_some]
def shCmd : Sh := .cat [iS, iS, iS, (1, .int .u64), (1, .str), (1, .str), (8, shVec)]
theorem of_cmd {cs : List AV} (h : Fits shCmd cs) : ∃ c, cs = cmdC c := by
  obtain ⟨a, r, rfl, h1⟩ := of_cat_int h
  obtain ⟨b, r, rfl, h2⟩ := of_cat_int h1
  obtain ⟨n, r, rfl, h3⟩ := of_cat_int h2
  obtain ⟨r, rest, rfl, _, h4, h5⟩ := fits_cons h3
  obtain ⟨d, rfl, _⟩ := fits_int h4
  obtain ⟨r, rest, rfl, _, h6, h7⟩ := fits_cons h5
  obtain ⟨s, rfl, _⟩ := fits_str h6
  obtain ⟨r, rest, rfl, _, h8, h9⟩ := fits_cons h7
  obtain ⟨t, rfl, _⟩ := fits_str h8
  obtain ⟨r, rest, rfl, _, h10, h11⟩ := fits_cons h9
  obtain ⟨k, rfl⟩ := of_vec h10
  have := fits_nil h11; subst this
  exact ⟨⟨a, b, n, d, s, t, k⟩, by simp [cmdC]⟩
theorem do59 (c : Cmd) (lim : Nat) (H : Heap) (hl : lim ≤ H.length) : WCl envE 59 [.ptr none, .agg (cmdC c)] lim H fun r H' => r = .tup [.agg [I 0, I 0], I 1] ∧ ∃ X, H' = H ++ X := by
  refine cl_of (fd := fd59) rfl rfl ?_
  rw [fr_init (by simp [fd59])]
  simp [fd59, b59, fr_set, fr_get, fr_getD, look, enumA, aop, AX.ev, nextP_some, optP_some, callP_some, eitherP_tt, eitherP_tf, eitherP_ft, eitherP_ff, eitherP_no, resAll, resL, resOne, own_bool, own_int, own_str, own_nilsl, noTwo, len_roL, len_nil, len_sl, len_ro, binAV, binInt, unAV, cells_new, cells_new0, cells_hd, cells_tl1, cells_tl2, storeAt_new, storeAt_new0, storeAt_hd, storeAt_tl1, storeAt_tl2, storeAt_tl3, load_ptr, load_tp, setFrom_all, AV.cells, AV.one, cut, shape_some, shape_none, faddr_ptr, faddr_tp, roL_one, callee, afterP_eq, nextD_same, nextD_set, nextD_new, thaw_int, thaw_bool, thaw_str, thaw_nilsl, nextD_pre, nextD_true, fillAV, setFrom, valC_len, valC_one, intC_len, bagC_len, bagC_one, ringC_len, ringC_one, deedC_len, deedC_one, val_f0, val_f1, val_f2, val_f01, bag_f0, bag_f8, plan_f0, plan_f1, plan_f2, ring_f0, ring_f8, ring_f8a, ring_f9, ring_f10, ring_f11, deed_f0, deed_f1, deed_f2, deed_f3, deed_f11, deed_f12, deed_f22, deed_f55, val_all, bag_all, plan_all, ring_all, deed_all, val_t1, plan_t1, deed_t1, eqNil, cmdC_len, cmdC_one, hl]
theorem node60 (n : Int) (lim : Nat) (H : Heap) : Cl envE 60 [.ptr none, I n] lim H (.ptr none) H := cl_run 50 (by kernel_rfl)
theorem up61 (lim : Nat) (H : Heap) : Cl envE 61 [.ptr none] lim H .nilsl H := cl_run 100 (by kernel_rfl)
theorem letters62 (lim : Nat) (H : Heap) : Cl envE 62 [.ptr none] lim H (I 0) H := cl_run 50 (by kernel_rfl)
theorem round63 (d : Int) (lim : Nat) (H : Heap) : Cl envE 63 [.ptr none, .int .u64 d] lim H (I 0) H := cl_run 50 (by kernel_rfl)
theorem where64 (lim : Nat) (H : Heap) : Cl envE 64 [.ptr none, .str [107]] lim H .nilsl H := cl_run 100 (by kernel_rfl)
theorem agreed65 (lim : Nat) (H : Heap) : Cl envE 65 [.ptr none] lim H (.bool false) H := cl_run 100 (by kernel_rfl)
theorem new66 (lim : Nat) (H : Heap) : Cl envE 66 [I (-1), I 5] lim H (.ptr none) H := cl_run 50 (by kernel_rfl)
theorem awake25 (lim : Nat) (H : Heap) : Cl envE 67 [] lim H (.bool true) H := cl_run 400 (by kernel_rfl)
theorem flockNil_pu (c : Cmd) (d : Int) : WPu envE 7 [.agg (cmdC c), .int .u64 d] fun r => r = .bool true := by
  refine pu_of (fd := fd7) rfl rfl ?_
  rw [fr_init (by simp [fd7])]
  simp [fd7, b7, fr_set, fr_get, fr_getD, look, enumA, aop, AX.ev, nextP_some, optP_some, callP_some, eitherP_tt, eitherP_tf, eitherP_ft, eitherP_ff, eitherP_no, resAll, resL, resOne, own_bool, own_int, own_str, own_nilsl, noTwo, len_roL, len_nil, len_sl, len_ro, binAV, binInt, unAV, cells_new, cells_new0, cells_hd, cells_tl1, cells_tl2, storeAt_new, storeAt_new0, storeAt_hd, storeAt_tl1, storeAt_tl2, storeAt_tl3, load_ptr, load_tp, setFrom_all, AV.cells, AV.one, cut, shape_some, shape_none, faddr_ptr, faddr_tp, roL_one, callee, afterP_eq, nextD_same, nextD_set, nextD_new, thaw_int, thaw_bool, thaw_str, thaw_nilsl, nextD_pre, nextD_true, fillAV, setFrom, valC_len, valC_one, intC_len, bagC_len, bagC_one, ringC_len, ringC_one, deedC_len, deedC_one, val_f0, val_f1, val_f2, val_f01, bag_f0, bag_f8, plan_f0, plan_f1, plan_f2, ring_f0, ring_f8, ring_f8a, ring_f9, ring_f10, ring_f11, deed_f0, deed_f1, deed_f2, deed_f3, deed_f11, deed_f12, deed_f22, deed_f55, val_all, bag_all, plan_all, ring_all, deed_all, val_t1, plan_t1, deed_t1, cmdC_len, cmdC_one, cmd_all]
  refine WCl.mono (do59 c _ _ (by simp)) ?_
  rintro _ H2 ⟨rfl, X, hX⟩
  have h0 : H2.cells? 0 = some (cmdC c) := by rw [hX]; rfl
  clear hX X
  simp [fr_set, fr_get, fr_getD, look, enumA, aop, AX.ev, nextP_some, optP_some, callP_some, eitherP_tt, eitherP_tf, eitherP_ft, eitherP_ff, eitherP_no, resAll, resL, resOne, own_bool, own_int, own_str, own_nilsl, noTwo, len_roL, len_nil, len_sl, len_ro, binAV, binInt, unAV, cells_new, cells_new0, cells_hd, cells_tl1, cells_tl2, storeAt_new, storeAt_new0, storeAt_hd, storeAt_tl1, storeAt_tl2, storeAt_tl3, load_ptr, load_tp, setFrom_all, AV.cells, AV.one, cut, shape_some, shape_none, faddr_ptr, faddr_tp, roL_one, callee, afterP_eq, nextD_same, nextD_set, nextD_new, thaw_int, thaw_bool, thaw_str, thaw_nilsl, nextD_pre, nextD_true, fillAV, setFrom, valC_len, valC_one, intC_len, bagC_len, bagC_one, ringC_len, ringC_one, deedC_len, deedC_one, val_f0, val_f1, val_f2, val_f01, bag_f0, bag_f8, plan_f0, plan_f1, plan_f2, ring_f0, ring_f8, ring_f8a, ring_f9, ring_f10, ring_f11, deed_f0, deed_f1, deed_f2, deed_f3, deed_f11, deed_f12, deed_f22, deed_f55, val_all, bag_all, plan_all, ring_all, deed_all, val_t1, plan_t1, deed_t1, eqRow, eqCell, cmdC_len, cmd_t1, cells_app h0]
  refine WCl.of (node60 _ _ _) ?_
  simp [fr_set, fr_get, fr_getD, look, enumA, aop, AX.ev, nextP_some, optP_some, callP_some, eitherP_tt, eitherP_tf, eitherP_ft, eitherP_ff, eitherP_no, resAll, resL, resOne, own_bool, own_int, own_str, own_nilsl, noTwo, len_roL, len_nil, len_sl, len_ro, binAV, binInt, unAV, cells_new, cells_new0, cells_hd, cells_tl1, cells_tl2, storeAt_new, storeAt_new0, storeAt_hd, storeAt_tl1, storeAt_tl2, storeAt_tl3, load_ptr, load_tp, setFrom_all, AV.cells, AV.one, cut, shape_some, shape_none, faddr_ptr, faddr_tp, roL_one, callee, afterP_eq, nextD_same, nextD_set, nextD_new, thaw_int, thaw_bool, thaw_str, thaw_nilsl, nextD_pre, nextD_true, fillAV, setFrom, valC_len, valC_one, intC_len, bagC_len, bagC_one, ringC_len, ringC_one, deedC_len, deedC_one, val_f0, val_f1, val_f2, val_f01, bag_f0, bag_f8, plan_f0, plan_f1, plan_f2, ring_f0, ring_f8, ring_f8a, ring_f9, ring_f10, ring_f11, deed_f0, deed_f1, deed_f2, deed_f3, deed_f11, deed_f12, deed_f22, deed_f55, val_all, bag_all, plan_all, ring_all, deed_all, val_t1, plan_t1, deed_t1, eqNil]
  refine WCl.of (up61 _ _) ?_
  simp [fr_set, fr_get, fr_getD, look, enumA, aop, AX.ev, nextP_some, optP_some, callP_some, eitherP_tt, eitherP_tf, eitherP_ft, eitherP_ff, eitherP_no, resAll, resL, resOne, own_bool, own_int, own_str, own_nilsl, noTwo, len_roL, len_nil, len_sl, len_ro, binAV, binInt, unAV, cells_new, cells_new0, cells_hd, cells_tl1, cells_tl2, storeAt_new, storeAt_new0, storeAt_hd, storeAt_tl1, storeAt_tl2, storeAt_tl3, load_ptr, load_tp, setFrom_all, AV.cells, AV.one, cut, shape_some, shape_none, faddr_ptr, faddr_tp, roL_one, callee, afterP_eq, nextD_same, nextD_set, nextD_new, thaw_int, thaw_bool, thaw_str, thaw_nilsl, nextD_pre, nextD_true, fillAV, setFrom, valC_len, valC_one, intC_len, bagC_len, bagC_one, ringC_len, ringC_one, deedC_len, deedC_one, val_f0, val_f1, val_f2, val_f01, bag_f0, bag_f8, plan_f0, plan_f1, plan_f2, ring_f0, ring_f8, ring_f8a, ring_f9, ring_f10, ring_f11, deed_f0, deed_f1, deed_f2, deed_f3, deed_f11, deed_f12, deed_f22, deed_f55, val_all, bag_all, plan_all, ring_all, deed_all, val_t1, plan_t1, deed_t1]
  refine WCl.of (letters62 _ _) ?_
  simp [fr_set, fr_get, fr_getD, look, enumA, aop, AX.ev, nextP_some, optP_some, callP_some, eitherP_tt, eitherP_tf, eitherP_ft, eitherP_ff, eitherP_no, resAll, resL, resOne, own_bool, own_int, own_str, own_nilsl, noTwo, len_roL, len_nil, len_sl, len_ro, binAV, binInt, unAV, cells_new, cells_new0, cells_hd, cells_tl1, cells_tl2, storeAt_new, storeAt_new0, storeAt_hd, storeAt_tl1, storeAt_tl2, storeAt_tl3, load_ptr, load_tp, setFrom_all, AV.cells, AV.one, cut, shape_some, shape_none, faddr_ptr, faddr_tp, roL_one, callee, afterP_eq, nextD_same, nextD_set, nextD_new, thaw_int, thaw_bool, thaw_str, thaw_nilsl, nextD_pre, nextD_true, fillAV, setFrom, valC_len, valC_one, intC_len, bagC_len, bagC_one, ringC_len, ringC_one, deedC_len, deedC_one, val_f0, val_f1, val_f2, val_f01, bag_f0, bag_f8, plan_f0, plan_f1, plan_f2, ring_f0, ring_f8, ring_f8a, ring_f9, ring_f10, ring_f11, deed_f0, deed_f1, deed_f2, deed_f3, deed_f11, deed_f12, deed_f22, deed_f55, val_all, bag_all, plan_all, ring_all, deed_all, val_t1, plan_t1, deed_t1]
  refine WCl.of (round63 _ _ _) ?_
  simp [fr_set, fr_get, fr_getD, look, enumA, aop, AX.ev, nextP_some, optP_some, callP_some, eitherP_tt, eitherP_tf, eitherP_ft, eitherP_ff, eitherP_no, resAll, resL, resOne, own_bool, own_int, own_str, own_nilsl, noTwo, len_roL, len_nil, len_sl, len_ro, binAV, binInt, unAV, cells_new, cells_new0, cells_hd, cells_tl1, cells_tl2, storeAt_new, storeAt_new0, storeAt_hd, storeAt_tl1, storeAt_tl2, storeAt_tl3, load_ptr, load_tp, setFrom_all, AV.cells, AV.one, cut, shape_some, shape_none, faddr_ptr, faddr_tp, roL_one, callee, afterP_eq, nextD_same, nextD_set, nextD_new, thaw_int, thaw_bool, thaw_str, thaw_nilsl, nextD_pre, nextD_true, fillAV, setFrom, valC_len, valC_one, intC_len, bagC_len, bagC_one, ringC_len, ringC_one, deedC_len, deedC_one, val_f0, val_f1, val_f2, val_f01, bag_f0, bag_f8, plan_f0, plan_f1, plan_f2, ring_f0, ring_f8, ring_f8a, ring_f9, ring_f10, ring_f11, deed_f0, deed_f1, deed_f2, deed_f3, deed_f11, deed_f12, deed_f22, deed_f55, val_all, bag_all, plan_all, ring_all, deed_all, val_t1, plan_t1, deed_t1]
  refine WCl.of (where64 _ _) ?_
  simp [fr_set, fr_get, fr_getD, look, enumA, aop, AX.ev, nextP_some, optP_some, callP_some, eitherP_tt, eitherP_tf, eitherP_ft, eitherP_ff, eitherP_no, resAll, resL, resOne, own_bool, own_int, own_str, own_nilsl, noTwo, len_roL, len_nil, len_sl, len_ro, binAV, binInt, unAV, cells_new, cells_new0, cells_hd, cells_tl1, cells_tl2, storeAt_new, storeAt_new0, storeAt_hd, storeAt_tl1, storeAt_tl2, storeAt_tl3, load_ptr, load_tp, setFrom_all, AV.cells, AV.one, cut, shape_some, shape_none, faddr_ptr, faddr_tp, roL_one, callee, afterP_eq, nextD_same, nextD_set, nextD_new, thaw_int, thaw_bool, thaw_str, thaw_nilsl, nextD_pre, nextD_true, fillAV, setFrom, valC_len, valC_one, intC_len, bagC_len, bagC_one, ringC_len, ringC_one, deedC_len, deedC_one, val_f0, val_f1, val_f2, val_f01, bag_f0, bag_f8, plan_f0, plan_f1, plan_f2, ring_f0, ring_f8, ring_f8a, ring_f9, ring_f10, ring_f11, deed_f0, deed_f1, deed_f2, deed_f3, deed_f11, deed_f12, deed_f22, deed_f55, val_all, bag_all, plan_all, ring_all, deed_all, val_t1, plan_t1, deed_t1]
  refine WCl.of (agreed65 _ _) ?_
  simp [fr_set, fr_get, fr_getD, look, enumA, aop, AX.ev, nextP_some, optP_some, callP_some, eitherP_tt, eitherP_tf, eitherP_ft, eitherP_ff, eitherP_no, resAll, resL, resOne, own_bool, own_int, own_str, own_nilsl, noTwo, len_roL, len_nil, len_sl, len_ro, binAV, binInt, unAV, cells_new, cells_new0, cells_hd, cells_tl1, cells_tl2, storeAt_new, storeAt_new0, storeAt_hd, storeAt_tl1, storeAt_tl2, storeAt_tl3, load_ptr, load_tp, setFrom_all, AV.cells, AV.one, cut, shape_some, shape_none, faddr_ptr, faddr_tp, roL_one, callee, afterP_eq, nextD_same, nextD_set, nextD_new, thaw_int, thaw_bool, thaw_str, thaw_nilsl, nextD_pre, nextD_true, fillAV, setFrom, valC_len, valC_one, intC_len, bagC_len, bagC_one, ringC_len, ringC_one, deedC_len, deedC_one, val_f0, val_f1, val_f2, val_f01, bag_f0, bag_f8, plan_f0, plan_f1, plan_f2, ring_f0, ring_f8, ring_f8a, ring_f9, ring_f10, ring_f11, deed_f0, deed_f1, deed_f2, deed_f3, deed_f11, deed_f12, deed_f22, deed_f55, val_all, bag_all, plan_all, ring_all, deed_all, val_t1, plan_t1, deed_t1]
  refine WCl.of (new66 _ _) ?_
  simp [fr_set, fr_get, fr_getD, look, enumA, aop, AX.ev, nextP_some, optP_some, callP_some, eitherP_tt, eitherP_tf, eitherP_ft, eitherP_ff, eitherP_no, resAll, resL, resOne, own_bool, own_int, own_str, own_nilsl, noTwo, len_roL, len_nil, len_sl, len_ro, binAV, binInt, unAV, cells_new, cells_new0, cells_hd, cells_tl1, cells_tl2, storeAt_new, storeAt_new0, storeAt_hd, storeAt_tl1, storeAt_tl2, storeAt_tl3, load_ptr, load_tp, setFrom_all, AV.cells, AV.one, cut, shape_some, shape_none, faddr_ptr, faddr_tp, roL_one, callee, afterP_eq, nextD_same, nextD_set, nextD_new, thaw_int, thaw_bool, thaw_str, thaw_nilsl, nextD_pre, nextD_true, fillAV, setFrom, valC_len, valC_one, intC_len, bagC_len, bagC_one, ringC_len, ringC_one, deedC_len, deedC_one, val_f0, val_f1, val_f2, val_f01, bag_f0, bag_f8, plan_f0, plan_f1, plan_f2, ring_f0, ring_f8, ring_f8a, ring_f9, ring_f10, ring_f11, deed_f0, deed_f1, deed_f2, deed_f3, deed_f11, deed_f12, deed_f22, deed_f55, val_all, bag_all, plan_all, ring_all, deed_all, val_t1, plan_t1, deed_t1, eqNil]
  refine WCl.of (awake25 _ _) ?_
  simp [fr_set, fr_get, fr_getD, look, enumA, aop, AX.ev, nextP_some, optP_some, callP_some, eitherP_tt, eitherP_tf, eitherP_ft, eitherP_ff, eitherP_no, resAll, resL, resOne, own_bool, own_int, own_str, own_nilsl, noTwo, len_roL, len_nil, len_sl, len_ro, binAV, binInt, unAV, cells_new, cells_new0, cells_hd, cells_tl1, cells_tl2, storeAt_new, storeAt_new0, storeAt_hd, storeAt_tl1, storeAt_tl2, storeAt_tl3, load_ptr, load_tp, setFrom_all, AV.cells, AV.one, cut, shape_some, shape_none, faddr_ptr, faddr_tp, roL_one, callee, afterP_eq, nextD_same, nextD_set, nextD_new, thaw_int, thaw_bool, thaw_str, thaw_nilsl, nextD_pre, nextD_true, fillAV, setFrom, valC_len, valC_one, intC_len, bagC_len, bagC_one, ringC_len, ringC_one, deedC_len, deedC_one, val_f0, val_f1, val_f2, val_f01, bag_f0, bag_f8, plan_f0, plan_f1, plan_f2, ring_f0, ring_f8, ring_f8a, ring_f9, ring_f10, ring_f11, deed_f0, deed_f1, deed_f2, deed_f3, deed_f11, deed_f12, deed_f22, deed_f55, val_all, bag_all, plan_all, ring_all, deed_all, val_t1, plan_t1, deed_t1]
theorem flockNil_law (cs : List AV) (h : FitsArgs [(true, shCmd), (false, .int .u64)] cs) : ∃ n H', callF envE (exec envE n) 7 cs 0 [] = some (.bool true, H') := by
  cases h with
  | cons h t =>
    cases t with
    | cons k t =>
      cases t
      cases h with
      | row h => cases k with
        | one k =>
          obtain ⟨c, rfl⟩ := of_cmd h
          obtain ⟨d, e2, _⟩ := fits_int k
          cases e2
          obtain ⟨r, h2, rfl⟩ := flockNil_pu c d
          obtain ⟨n, h3⟩ := h2 [.agg (cmdC c), .int .u64 d] 0 [] (args_cons (frz_agg (frz_cmd c)) (args_cons frz_int args_nil)) rfl
          rw [thaw_bool] at h3
          exact ⟨n, _, h3⟩
end Go.Proofs.YtdbgebbofpgjmaaGreatA

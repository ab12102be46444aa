/- 'starlinglaw26.ModelNil' returns true for every write and every bag, and both read behind it as they read before: a model that there isn't knows nothing. Without further conditions. -/
import Derived.Test.YtdbgebbofpgjmaaRows
import Derived.Test.YtdbgebbofpgjmaaE1
import Derived.WalkKit
import Derived.ProofKit
import Derived.ChangeOld
namespace Go.Proofs.YtdbgebbofpgjmaaA
open Go
set_option linter.unusedSimpArgs false
set_option maxRecDepth 1000000

structure Write26 where
  key : List UInt8
  data : List UInt8
  known : Nat → Int
  node : Int
  n : Int
def write26C (c : Write26) : List AV := [.str c.key, .str c.data, I (c.known 0), I (c.known 1), I (c.known 2), I (c.known 3), I (c.known 4), I (c.known 5), I (c.known 6), I (c.known 7), I c.node, I c.n]
theorem write26C_len (c : Write26) : (write26C c).length = 12 := hard rfl
theorem write26C_one (c : Write26) : (write26C c).all AV.one = true := hard rfl
theorem write26_f0 (c : Write26) : (write26C c).take 1 = [.str c.key] := hard rfl
theorem write26_t1 (c : Write26) : (write26C c).tail.take 1 = [.str c.data] := hard rfl
theorem write26_f2 (c : Write26) : ((write26C c).drop 2).take 8 = vecC c.known := hard rfl
theorem write26_f10 (c : Write26) : ((write26C c).drop 10).take 2 = [I c.node, I c.n] := hard rfl
theorem frz_write26 {H : Heap} {d : Nat} (c : Write26) : mapO (frz H (d + 1)) (write26C c) = some (write26C c) := by
  simp only [write26C, mapO, frz_int, frz_str, Option.bind_some, Option.map_some]
def shWrite26 : Sh := .cat [(1, .str), (1, .str), (8, shVec), (2, .cat [iS, iS])]
theorem of_write26 {cs : List AV} (h : Fits shWrite26 cs) : ∃ c, cs = write26C c := by
  obtain ⟨r, rest, rfl, _, h3, h4⟩ := fits_cons h
  obtain ⟨s, rfl, _⟩ := fits_str h3
  obtain ⟨r, rest, rfl, _, h5, h6⟩ := fits_cons h4
  obtain ⟨t, rfl, _⟩ := fits_str h5
  obtain ⟨r, rest, rfl, _, h7, h8⟩ := fits_cons h6
  obtain ⟨k, rfl⟩ := of_vec h7
  obtain ⟨n, m, r, rfl, h9⟩ := of_cat_entry h8
  have := fits_nil h9; subst this
  exact ⟨⟨s, t, k, n, m⟩, rfl⟩

theorem vecC_len (k : Nat → Int) : (vecC k).length = 8 := hard rfl
theorem vecC_one (k : Nat → Int) : (vecC k).all AV.one = true := hard rfl
theorem nil29 (c : Write26) (lim : Nat) (H : Heap) : WCl envE 29 [.ptr none, .str c.key, .agg (vecC c.known), .agg [I c.node, I c.n], .str c.data] lim H fun r H' => r = .bool false ∧ ∃ X, H' = H ++ X := by
  refine cl_of (fd := fd29) rfl rfl ?_
  rw [fr_init (by simp [fd29])]
  by_cases h1 : 0 ≤ c.node
  · by_cases h2 : c.node < 8
    · by_cases h3 : 1 ≤ c.n
      · simp [fd29, b29, fr_set, fr_get, fr_getD, look, enumA, aop, AX.ev, nextP_some, optP_some, callP_some, eitherP_tt, eitherP_tf, eitherP_ft, eitherP_ff, eitherP_no, resAll, resL, resOne, own_bool, own_int, own_str, own_nilsl, noTwo, len_roL, len_nil, len_sl, len_ro, binAV, binInt, unAV, cells_new, cells_new0, cells_hd, cells_tl1, cells_tl2, storeAt_new, storeAt_new0, storeAt_hd, storeAt_tl1, storeAt_tl2, storeAt_tl3, load_ptr, load_tp, setFrom_all, AV.cells, AV.one, cut, shape_some, shape_none, faddr_ptr, faddr_tp, roL_one, callee, afterP_eq, nextD_same, nextD_set, nextD_new, thaw_int, thaw_bool, thaw_str, thaw_nilsl, nextD_pre, nextD_true, fillAV, setFrom, valC_len, valC_one, intC_len, bagC_len, bagC_one, ringC_len, ringC_one, deedC_len, deedC_one, val_f0, val_f1, val_f2, val_f01, bag_f0, bag_f8, plan_f0, plan_f1, plan_f2, ring_f0, ring_f8, ring_f8a, ring_f9, ring_f10, ring_f11, deed_f0, deed_f1, deed_f2, deed_f3, deed_f11, deed_f12, deed_f22, deed_f55, val_all, bag_all, plan_all, ring_all, deed_all, val_t1, plan_t1, deed_t1, h1, h2, h3, eqNil, vecC_len, vecC_one]
      · simp [fd29, b29, fr_set, fr_get, fr_getD, look, enumA, aop, AX.ev, nextP_some, optP_some, callP_some, eitherP_tt, eitherP_tf, eitherP_ft, eitherP_ff, eitherP_no, resAll, resL, resOne, own_bool, own_int, own_str, own_nilsl, noTwo, len_roL, len_nil, len_sl, len_ro, binAV, binInt, unAV, cells_new, cells_new0, cells_hd, cells_tl1, cells_tl2, storeAt_new, storeAt_new0, storeAt_hd, storeAt_tl1, storeAt_tl2, storeAt_tl3, load_ptr, load_tp, setFrom_all, AV.cells, AV.one, cut, shape_some, shape_none, faddr_ptr, faddr_tp, roL_one, callee, afterP_eq, nextD_same, nextD_set, nextD_new, thaw_int, thaw_bool, thaw_str, thaw_nilsl, nextD_pre, nextD_true, fillAV, setFrom, valC_len, valC_one, intC_len, bagC_len, bagC_one, ringC_len, ringC_one, deedC_len, deedC_one, val_f0, val_f1, val_f2, val_f01, bag_f0, bag_f8, plan_f0, plan_f1, plan_f2, ring_f0, ring_f8, ring_f8a, ring_f9, ring_f10, ring_f11, deed_f0, deed_f1, deed_f2, deed_f3, deed_f11, deed_f12, deed_f22, deed_f55, val_all, bag_all, plan_all, ring_all, deed_all, val_t1, plan_t1, deed_t1, h1, h2, h3, eqNil, vecC_len, vecC_one]
    · simp [fd29, b29, fr_set, fr_get, fr_getD, look, enumA, aop, AX.ev, nextP_some, optP_some, callP_some, eitherP_tt, eitherP_tf, eitherP_ft, eitherP_ff, eitherP_no, resAll, resL, resOne, own_bool, own_int, own_str, own_nilsl, noTwo, len_roL, len_nil, len_sl, len_ro, binAV, binInt, unAV, cells_new, cells_new0, cells_hd, cells_tl1, cells_tl2, storeAt_new, storeAt_new0, storeAt_hd, storeAt_tl1, storeAt_tl2, storeAt_tl3, load_ptr, load_tp, setFrom_all, AV.cells, AV.one, cut, shape_some, shape_none, faddr_ptr, faddr_tp, roL_one, callee, afterP_eq, nextD_same, nextD_set, nextD_new, thaw_int, thaw_bool, thaw_str, thaw_nilsl, nextD_pre, nextD_true, fillAV, setFrom, valC_len, valC_one, intC_len, bagC_len, bagC_one, ringC_len, ringC_one, deedC_len, deedC_one, val_f0, val_f1, val_f2, val_f01, bag_f0, bag_f8, plan_f0, plan_f1, plan_f2, ring_f0, ring_f8, ring_f8a, ring_f9, ring_f10, ring_f11, deed_f0, deed_f1, deed_f2, deed_f3, deed_f11, deed_f12, deed_f22, deed_f55, val_all, bag_all, plan_all, ring_all, deed_all, val_t1, plan_t1, deed_t1, h1, h2, eqNil, vecC_len, vecC_one]
  · simp [fd29, b29, fr_set, fr_get, fr_getD, look, enumA, aop, AX.ev, nextP_some, optP_some, callP_some, eitherP_tt, eitherP_tf, eitherP_ft, eitherP_ff, eitherP_no, resAll, resL, resOne, own_bool, own_int, own_str, own_nilsl, noTwo, len_roL, len_nil, len_sl, len_ro, binAV, binInt, unAV, cells_new, cells_new0, cells_hd, cells_tl1, cells_tl2, storeAt_new, storeAt_new0, storeAt_hd, storeAt_tl1, storeAt_tl2, storeAt_tl3, load_ptr, load_tp, setFrom_all, AV.cells, AV.one, cut, shape_some, shape_none, faddr_ptr, faddr_tp, roL_one, callee, afterP_eq, nextD_same, nextD_set, nextD_new, thaw_int, thaw_bool, thaw_str, thaw_nilsl, nextD_pre, nextD_true, fillAV, setFrom, valC_len, valC_one, intC_len, bagC_len, bagC_one, ringC_len, ringC_one, deedC_len, deedC_one, val_f0, val_f1, val_f2, val_f01, bag_f0, bag_f8, plan_f0, plan_f1, plan_f2, ring_f0, ring_f8, ring_f8a, ring_f9, ring_f10, ring_f11, deed_f0, deed_f1, deed_f2, deed_f3, deed_f11, deed_f12, deed_f22, deed_f55, val_all, bag_all, plan_all, ring_all, deed_all, val_t1, plan_t1, deed_t1, h1, eqNil, vecC_len, vecC_one]
theorem nil30 (key : List UInt8) (b : Bag) (lim : Nat) (H : Heap) : WCl envE 30 [.ptr none, .str key, .agg (bagC b)] lim H fun r H' => r = .bool false ∧ ∃ X, H' = H ++ X := by
  refine cl_of (fd := fd30) rfl rfl ?_
  rw [fr_init (by simp [fd30])]
  simp [fd30, b30, fr_set, fr_get, fr_getD, look, enumA, aop, AX.ev, nextP_some, optP_some, callP_some, eitherP_tt, eitherP_tf, eitherP_ft, eitherP_ff, eitherP_no, resAll, resL, resOne, own_bool, own_int, own_str, own_nilsl, noTwo, len_roL, len_nil, len_sl, len_ro, binAV, binInt, unAV, cells_new, cells_new0, cells_hd, cells_tl1, cells_tl2, storeAt_new, storeAt_new0, storeAt_hd, storeAt_tl1, storeAt_tl2, storeAt_tl3, load_ptr, load_tp, setFrom_all, AV.cells, AV.one, cut, shape_some, shape_none, faddr_ptr, faddr_tp, roL_one, callee, afterP_eq, nextD_same, nextD_set, nextD_new, thaw_int, thaw_bool, thaw_str, thaw_nilsl, nextD_pre, nextD_true, fillAV, setFrom, valC_len, valC_one, intC_len, bagC_len, bagC_one, ringC_len, ringC_one, deedC_len, deedC_one, val_f0, val_f1, val_f2, val_f01, bag_f0, bag_f8, plan_f0, plan_f1, plan_f2, ring_f0, ring_f8, ring_f8a, ring_f9, ring_f10, ring_f11, deed_f0, deed_f1, deed_f2, deed_f3, deed_f11, deed_f12, deed_f22, deed_f55, val_all, bag_all, plan_all, ring_all, deed_all, val_t1, plan_t1, deed_t1, eqNil]
theorem nil31 (lim : Nat) (H : Heap) : Cl envE 31 [.ptr none] lim H .nilsl H := cl_run 50 (by kernel_rfl)
theorem nil32 (key : List UInt8) (lim : Nat) (H : Heap) : Cl envE 32 [.ptr none, .str key] lim H .nilsl H := cl_run 50 (by kernel_rfl)
theorem nil64 (key : List UInt8) (f : AV) (lim : Nat) (H : Heap) : Cl envE 64 [.ptr none, .str key, f] lim H .nilsl H := cl_run 50 (by kernel_rfl)
theorem nil33 (key : List UInt8) (lim : Nat) (H : Heap) : WCl envE 33 [.ptr none, .str key] lim H fun r H' => r = .nilsl ∧ ∃ X, H' = H ++ X := by
  refine cl_of (fd := fd33) rfl rfl ?_
  rw [fr_init (by simp [fd33])]
  simp [fd33, b33, fr_set, fr_get, fr_getD, look, enumA, aop, AX.ev, nextP_some, optP_some, callP_some, eitherP_tt, eitherP_tf, eitherP_ft, eitherP_ff, eitherP_no, resAll, resL, resOne, own_bool, own_int, own_str, own_nilsl, noTwo, len_roL, len_nil, len_sl, len_ro, binAV, binInt, unAV, cells_new, cells_new0, cells_hd, cells_tl1, cells_tl2, storeAt_new, storeAt_new0, storeAt_hd, storeAt_tl1, storeAt_tl2, storeAt_tl3, load_ptr, load_tp, setFrom_all, AV.cells, AV.one, cut, shape_some, shape_none, faddr_ptr, faddr_tp, roL_one, callee, afterP_eq, nextD_same, nextD_set, nextD_new, thaw_int, thaw_bool, thaw_str, thaw_nilsl, nextD_pre, nextD_true, fillAV, setFrom, valC_len, valC_one, intC_len, bagC_len, bagC_one, ringC_len, ringC_one, deedC_len, deedC_one, val_f0, val_f1, val_f2, val_f01, bag_f0, bag_f8, plan_f0, plan_f1, plan_f2, ring_f0, ring_f8, ring_f8a, ring_f9, ring_f10, ring_f11, deed_f0, deed_f1, deed_f2, deed_f3, deed_f11, deed_f12, deed_f22, deed_f55, val_all, bag_all, plan_all, ring_all, deed_all, val_t1, plan_t1, deed_t1]
  refine WCl.of (nil64 _ _ _ _) ?_
  simp [fr_set, fr_get, fr_getD, look, enumA, aop, AX.ev, nextP_some, optP_some, callP_some, eitherP_tt, eitherP_tf, eitherP_ft, eitherP_ff, eitherP_no, resAll, resL, resOne, own_bool, own_int, own_str, own_nilsl, noTwo, len_roL, len_nil, len_sl, len_ro, binAV, binInt, unAV, cells_new, cells_new0, cells_hd, cells_tl1, cells_tl2, storeAt_new, storeAt_new0, storeAt_hd, storeAt_tl1, storeAt_tl2, storeAt_tl3, load_ptr, load_tp, setFrom_all, AV.cells, AV.one, cut, shape_some, shape_none, faddr_ptr, faddr_tp, roL_one, callee, afterP_eq, nextD_same, nextD_set, nextD_new, thaw_int, thaw_bool, thaw_str, thaw_nilsl, nextD_pre, nextD_true, fillAV, setFrom, valC_len, valC_one, intC_len, bagC_len, bagC_one, ringC_len, ringC_one, deedC_len, deedC_one, val_f0, val_f1, val_f2, val_f01, bag_f0, bag_f8, plan_f0, plan_f1, plan_f2, ring_f0, ring_f8, ring_f8a, ring_f9, ring_f10, ring_f11, deed_f0, deed_f1, deed_f2, deed_f3, deed_f11, deed_f12, deed_f22, deed_f55, val_all, bag_all, plan_all, ring_all, deed_all, val_t1, plan_t1, deed_t1]
theorem awake26 (lim : Nat) (H : Heap) : Cl envE 34 [] lim H (.bool true) H := cl_run 300 (by kernel_rfl)

theorem modelNil_pu (c : Write26) (b : Bag) : WPu envE 6 [.agg (write26C c), .agg (bagC b)] fun r => r = .bool true := by
  refine pu_of (fd := fd6) rfl rfl ?_
  rw [fr_init (by simp [fd6])]
  simp [fd6, b6, fr_set, fr_get, fr_getD, look, enumA, aop, AX.ev, nextP_some, optP_some, callP_some, eitherP_tt, eitherP_tf, eitherP_ft, eitherP_ff, eitherP_no, resAll, resL, resOne, own_bool, own_int, own_str, own_nilsl, noTwo, len_roL, len_nil, len_sl, len_ro, binAV, binInt, unAV, cells_new, cells_new0, cells_hd, cells_tl1, cells_tl2, storeAt_new, storeAt_new0, storeAt_hd, storeAt_tl1, storeAt_tl2, storeAt_tl3, load_ptr, load_tp, setFrom_all, AV.cells, AV.one, cut, shape_some, shape_none, faddr_ptr, faddr_tp, roL_one, callee, afterP_eq, nextD_same, nextD_set, nextD_new, thaw_int, thaw_bool, thaw_str, thaw_nilsl, nextD_pre, nextD_true, fillAV, setFrom, valC_len, valC_one, intC_len, bagC_len, bagC_one, ringC_len, ringC_one, deedC_len, deedC_one, val_f0, val_f1, val_f2, val_f01, bag_f0, bag_f8, plan_f0, plan_f1, plan_f2, ring_f0, ring_f8, ring_f8a, ring_f9, ring_f10, ring_f11, deed_f0, deed_f1, deed_f2, deed_f3, deed_f11, deed_f12, deed_f22, deed_f55, val_all, bag_all, plan_all, ring_all, deed_all, val_t1, plan_t1, deed_t1, write26C_len, write26C_one, write26_f0, write26_t1, write26_f2, write26_f10]
  refine WCl.mono (nil29 c _ _) ?_
  rintro _ H2 ⟨rfl, X, hX⟩
  have h0 : H2.cells? 0 = some (write26C c) := by rw [hX]; rfl
  have h1 : H2.cells? 1 = some (bagC b) := by rw [hX]; rfl
  clear hX X
  simp [fr_set, fr_get, fr_getD, look, enumA, aop, AX.ev, nextP_some, optP_some, callP_some, eitherP_tt, eitherP_tf, eitherP_ft, eitherP_ff, eitherP_no, resAll, resL, resOne, own_bool, own_int, own_str, own_nilsl, noTwo, len_roL, len_nil, len_sl, len_ro, binAV, binInt, unAV, cells_new, cells_new0, cells_hd, cells_tl1, cells_tl2, storeAt_new, storeAt_new0, storeAt_hd, storeAt_tl1, storeAt_tl2, storeAt_tl3, load_ptr, load_tp, setFrom_all, AV.cells, AV.one, cut, shape_some, shape_none, faddr_ptr, faddr_tp, roL_one, callee, afterP_eq, nextD_same, nextD_set, nextD_new, thaw_int, thaw_bool, thaw_str, thaw_nilsl, nextD_pre, nextD_true, fillAV, setFrom, valC_len, valC_one, intC_len, bagC_len, bagC_one, ringC_len, ringC_one, deedC_len, deedC_one, val_f0, val_f1, val_f2, val_f01, bag_f0, bag_f8, plan_f0, plan_f1, plan_f2, ring_f0, ring_f8, ring_f8a, ring_f9, ring_f10, ring_f11, deed_f0, deed_f1, deed_f2, deed_f3, deed_f11, deed_f12, deed_f22, deed_f55, val_all, bag_all, plan_all, ring_all, deed_all, val_t1, plan_t1, deed_t1, write26C_len, write26_f0, h0, h1]
  refine WCl.mono (nil30 _ _ _ _) ?_
  rintro _ H3 ⟨rfl, X, hX⟩
  have h2 : H3.cells? 0 = some (write26C c) := by rw [hX]; exact cells_app h0
  clear hX X
  simp [fr_set, fr_get, fr_getD, look, enumA, aop, AX.ev, nextP_some, optP_some, callP_some, eitherP_tt, eitherP_tf, eitherP_ft, eitherP_ff, eitherP_no, resAll, resL, resOne, own_bool, own_int, own_str, own_nilsl, noTwo, len_roL, len_nil, len_sl, len_ro, binAV, binInt, unAV, cells_new, cells_new0, cells_hd, cells_tl1, cells_tl2, storeAt_new, storeAt_new0, storeAt_hd, storeAt_tl1, storeAt_tl2, storeAt_tl3, load_ptr, load_tp, setFrom_all, AV.cells, AV.one, cut, shape_some, shape_none, faddr_ptr, faddr_tp, roL_one, callee, afterP_eq, nextD_same, nextD_set, nextD_new, thaw_int, thaw_bool, thaw_str, thaw_nilsl, nextD_pre, nextD_true, fillAV, setFrom, valC_len, valC_one, intC_len, bagC_len, bagC_one, ringC_len, ringC_one, deedC_len, deedC_one, val_f0, val_f1, val_f2, val_f01, bag_f0, bag_f8, plan_f0, plan_f1, plan_f2, ring_f0, ring_f8, ring_f8a, ring_f9, ring_f10, ring_f11, deed_f0, deed_f1, deed_f2, deed_f3, deed_f11, deed_f12, deed_f22, deed_f55, val_all, bag_all, plan_all, ring_all, deed_all, val_t1, plan_t1, deed_t1, write26C_len, write26_f0, h2]
  refine WCl.of (nil31 _ _) ?_
  simp [fr_set, fr_get, fr_getD, look, enumA, aop, AX.ev, nextP_some, optP_some, callP_some, eitherP_tt, eitherP_tf, eitherP_ft, eitherP_ff, eitherP_no, resAll, resL, resOne, own_bool, own_int, own_str, own_nilsl, noTwo, len_roL, len_nil, len_sl, len_ro, binAV, binInt, unAV, cells_new, cells_new0, cells_hd, cells_tl1, cells_tl2, storeAt_new, storeAt_new0, storeAt_hd, storeAt_tl1, storeAt_tl2, storeAt_tl3, load_ptr, load_tp, setFrom_all, AV.cells, AV.one, cut, shape_some, shape_none, faddr_ptr, faddr_tp, roL_one, callee, afterP_eq, nextD_same, nextD_set, nextD_new, thaw_int, thaw_bool, thaw_str, thaw_nilsl, nextD_pre, nextD_true, fillAV, setFrom, valC_len, valC_one, intC_len, bagC_len, bagC_one, ringC_len, ringC_one, deedC_len, deedC_one, val_f0, val_f1, val_f2, val_f01, bag_f0, bag_f8, plan_f0, plan_f1, plan_f2, ring_f0, ring_f8, ring_f8a, ring_f9, ring_f10, ring_f11, deed_f0, deed_f1, deed_f2, deed_f3, deed_f11, deed_f12, deed_f22, deed_f55, val_all, bag_all, plan_all, ring_all, deed_all, val_t1, plan_t1, deed_t1, write26C_len, write26_f0, h2]
  refine WCl.of (nil32 _ _ _) ?_
  simp [fr_set, fr_get, fr_getD, look, enumA, aop, AX.ev, nextP_some, optP_some, callP_some, eitherP_tt, eitherP_tf, eitherP_ft, eitherP_ff, eitherP_no, resAll, resL, resOne, own_bool, own_int, own_str, own_nilsl, noTwo, len_roL, len_nil, len_sl, len_ro, binAV, binInt, unAV, cells_new, cells_new0, cells_hd, cells_tl1, cells_tl2, storeAt_new, storeAt_new0, storeAt_hd, storeAt_tl1, storeAt_tl2, storeAt_tl3, load_ptr, load_tp, setFrom_all, AV.cells, AV.one, cut, shape_some, shape_none, faddr_ptr, faddr_tp, roL_one, callee, afterP_eq, nextD_same, nextD_set, nextD_new, thaw_int, thaw_bool, thaw_str, thaw_nilsl, nextD_pre, nextD_true, fillAV, setFrom, valC_len, valC_one, intC_len, bagC_len, bagC_one, ringC_len, ringC_one, deedC_len, deedC_one, val_f0, val_f1, val_f2, val_f01, bag_f0, bag_f8, plan_f0, plan_f1, plan_f2, ring_f0, ring_f8, ring_f8a, ring_f9, ring_f10, ring_f11, deed_f0, deed_f1, deed_f2, deed_f3, deed_f11, deed_f12, deed_f22, deed_f55, val_all, bag_all, plan_all, ring_all, deed_all, val_t1, plan_t1, deed_t1, write26C_len, write26_f0, h2]
  refine WCl.mono (nil33 _ _ _) ?_
  rintro _ H4 ⟨rfl, X, hX⟩
  simp [fr_set, fr_get, fr_getD, look, enumA, aop, AX.ev, nextP_some, optP_some, callP_some, eitherP_tt, eitherP_tf, eitherP_ft, eitherP_ff, eitherP_no, resAll, resL, resOne, own_bool, own_int, own_str, own_nilsl, noTwo, len_roL, len_nil, len_sl, len_ro, binAV, binInt, unAV, cells_new, cells_new0, cells_hd, cells_tl1, cells_tl2, storeAt_new, storeAt_new0, storeAt_hd, storeAt_tl1, storeAt_tl2, storeAt_tl3, load_ptr, load_tp, setFrom_all, AV.cells, AV.one, cut, shape_some, shape_none, faddr_ptr, faddr_tp, roL_one, callee, afterP_eq, nextD_same, nextD_set, nextD_new, thaw_int, thaw_bool, thaw_str, thaw_nilsl, nextD_pre, nextD_true, fillAV, setFrom, valC_len, valC_one, intC_len, bagC_len, bagC_one, ringC_len, ringC_one, deedC_len, deedC_one, val_f0, val_f1, val_f2, val_f01, bag_f0, bag_f8, plan_f0, plan_f1, plan_f2, ring_f0, ring_f8, ring_f8a, ring_f9, ring_f10, ring_f11, deed_f0, deed_f1, deed_f2, deed_f3, deed_f11, deed_f12, deed_f22, deed_f55, val_all, bag_all, plan_all, ring_all, deed_all, val_t1, plan_t1, deed_t1]
  refine WCl.of (awake26 _ _) ?_
  simp [fr_set, fr_get, fr_getD, look, enumA, aop, AX.ev, nextP_some, optP_some, callP_some, eitherP_tt, eitherP_tf, eitherP_ft, eitherP_ff, eitherP_no, resAll, resL, resOne, own_bool, own_int, own_str, own_nilsl, noTwo, len_roL, len_nil, len_sl, len_ro, binAV, binInt, unAV, cells_new, cells_new0, cells_hd, cells_tl1, cells_tl2, storeAt_new, storeAt_new0, storeAt_hd, storeAt_tl1, storeAt_tl2, storeAt_tl3, load_ptr, load_tp, setFrom_all, AV.cells, AV.one, cut, shape_some, shape_none, faddr_ptr, faddr_tp, roL_one, callee, afterP_eq, nextD_same, nextD_set, nextD_new, thaw_int, thaw_bool, thaw_str, thaw_nilsl, nextD_pre, nextD_true, fillAV, setFrom, valC_len, valC_one, intC_len, bagC_len, bagC_one, ringC_len, ringC_one, deedC_len, deedC_one, val_f0, val_f1, val_f2, val_f01, bag_f0, bag_f8, plan_f0, plan_f1, plan_f2, ring_f0, ring_f8, ring_f8a, ring_f9, ring_f10, ring_f11, deed_f0, deed_f1, deed_f2, deed_f3, deed_f11, deed_f12, deed_f22, deed_f55, val_all, bag_all, plan_all, ring_all, deed_all, val_t1, plan_t1, deed_t1]
theorem modelNil_law (cs : List AV) (h : FitsArgs [(true, shWrite26), (true, shBag)] cs) : ∃ n H', callF envE (exec envE n) 6 cs 0 [] = some (.bool true, H') := by
  cases h with
  | cons h t =>
    cases t with
    | cons k t =>
      cases t
      cases h with
      | row h => cases k with
        | row k =>
          obtain ⟨c, rfl⟩ := of_write26 h
          obtain ⟨b, rfl, _⟩ := of_bag k
          obtain ⟨d, h2, rfl⟩ := modelNil_pu c b
          obtain ⟨n, h3⟩ := h2 [.agg (write26C c), .agg (bagC b)] 0 [] (args_cons (frz_agg (frz_write26 c)) (args_cons (frz_agg (frz_bag b)) args_nil)) rfl
          rw [thaw_bool] at h3
          exact ⟨n, _, h3⟩
end Go.Proofs.YtdbgebbofpgjmaaA

namespace Go.Proofs.Ytdbgebbofpgjmaa.modelNil
open Go.ChangeShapes Go.WideShapes Go.ChangeAt Go.RowKit
set_option linter.unusedVariables false
theorem own : ownKnob Try.prog.godebug = none := by kernel_rfl
set_option maxRecDepth 1000000 in
theorem lifted (os : Os) (started : os.Started) (H : Type) (enc : TypeId × Value → H) :
    ReturnsInHanded {} Try.checked os 6 .any (Rows.modelNilSpec.pre6 enc Try.prog Try.f6 Rows.modelNilRow.domain false) (Rows.modelNilSpec.post enc Try.prog Try.f6 false true false false) :=
  YtdbgebbofpgjmaaA.law_lifted (C := Try.checked) YtdbgebbofpgjmaaA.env_good (fd := YtdbgebbofpgjmaaA.fd6) (tb := 4) rfl own started (by kernel_rfl) Try.func6
    (ChangeSpec.witness6 (enc := enc) (C := Try.checked) false ⟨#[], #[((Try.prog.info? 75).bind (·.zero)).getD .nilFunc, ((Try.prog.info? 26).bind (·.zero)).getD .nilFunc], []⟩ 8 (by kernel_rfl) (by kernel_rfl) (by kernel_rfl) (by kernel_rfl))
    (by kernel_rfl) (by decide +kernel) (by kernel_rfl) rfl (by kernel_rfl) (by kernel_rfl) (fun ds h => by
      match ds, h with
      | [d0, d1], _ => rfl) YtdbgebbofpgjmaaA.modelNil_law
theorem over : Rows.modelNilRow.holds Try.pinned (OpenSpec.ofChange Rows.modelNilSpec) :=
  OpenClaim.holds_of_wide 6 Try.f6 rfl rfl rfl rfl rfl rfl rfl ⟨rfl, rfl, rfl, rfl, rfl⟩ rfl rfl rfl rfl rfl (by kernel_rfl) Try.func6 (by kernel_rfl)
    (of_decide_eq_true (by kernel_rfl)) (by unfold Func.isWrapper; first | (rw [if_pos (by decide +kernel)]; kernel_rfl) | (rw [if_neg (by decide +kernel)]; exact ⟨rfl, rfl⟩))
    (fun os started H enc _ => lifted os started H enc)
end Go.Proofs.Ytdbgebbofpgjmaa.modelNil
namespace Go.Proofs.Ytdbgebbofpgjmaa
/-- The row, under a short name, for the claim. -/
theorem modelNil_holds : Rows.ModelNilSaid := modelNil.over
#print axioms modelNil_holds
end Go.Proofs.Ytdbgebbofpgjmaa


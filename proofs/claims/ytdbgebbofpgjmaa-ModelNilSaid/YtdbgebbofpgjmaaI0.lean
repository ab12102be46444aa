/- slices.Insert into none, walked through. No statement about the program is proved here. -/
import Derived.Test.YtdbgebbofpgjmaaF1
import Derived.Test.YtdbgebbofpgjmaaF2
import Derived.Test.YtdbgebbofpgjmaaA30
import Derived.KernelRfl
namespace Go.Proofs.YtdbgebbofpgjmaaA
open Go
set_option linter.unusedSimpArgs false
set_option maxRecDepth 1000000
noncomputable def envI111 : AEnv := envT (.node 111 (.code fd111) .leaf .leaf) []
theorem envI111_ok : EnvOK Try.prog envI111 := envT_ok (by kernel_rfl) (.node ok111 .leaf .leaf) .nil
theorem ins111 (lim : Nat) (H : Heap) (b o : Nat) (new : List AV) (hel : elems H 3 (.sl b o 1 3) = some (1, new)) (_ : 0 < 3) (_ : 32 ≤ most) (hone : new.all AV.one = true) : Cl envI111 111 [.nilsl, .int .i64 0, .sl b o 1 3] lim H (.sl H.length 0 1 3) (H ++ [.cells true new]) := by
  have key : WCl envI111 111 [.nilsl, .int .i64 0, .sl b o 1 3] lim H (fun r1 H1 => r1 = .sl H.length 0 1 3 ∧ H1 = H ++ [.cells true new]) := by
    have happ : appendAV lim H 3 32 .nilsl (.sl b o 1 3) = some (.sl H.length 0 1 3, H ++ [.cells true new]) := by
      simp [appendAV, hel, most]
      simpa using hone
    refine cl_of (fd := fd111) rfl rfl ?_
    rw [fr_init (by simp [fd111])]
    simp [fd111, b111, fr_set, fr_get, fr_getD, look, enumA, aop, AX.ev, nextP_some, optP_some, callP_some, eitherP_tt, eitherP_tf, eitherP_ft, eitherP_ff, eitherP_no, resAll, resL, resOne, own_bool, own_int, own_str, own_nilsl, noTwo, len_roL, len_nil, len_sl, len_ro, binAV, binInt, unAV, cells_new, cells_new0, cells_hd, cells_tl1, cells_tl2, storeAt_new, storeAt_new0, storeAt_hd, storeAt_tl1, storeAt_tl2, storeAt_tl3, load_ptr, load_tp, setFrom_all, AV.cells, AV.one, cut, shape_some, shape_none, faddr_ptr, faddr_tp, roL_one, callee, afterP_eq, nextD_same, nextD_set, nextD_new, thaw_int, thaw_bool, thaw_str, thaw_nilsl, nextD_pre, nextD_true, fillAV, setFrom, valC_len, valC_one, intC_len, bagC_len, bagC_one, ringC_len, ringC_one, deedC_len, deedC_one, val_f0, val_f1, val_f2, val_f01, bag_f0, bag_f8, plan_f0, plan_f1, plan_f2, ring_f0, ring_f8, ring_f8a, ring_f9, ring_f10, ring_f11, deed_f0, deed_f1, deed_f2, deed_f3, deed_f11, deed_f12, deed_f22, deed_f55, val_all, bag_all, plan_all, ring_all, deed_all, val_t1, plan_t1, deed_t1, cutSl, bnd_nat, bnd, AV.isInt, happ]
  obtain ⟨r1, H1, h1, rfl, rfl⟩ := key
  exact h1
theorem ins111_ok : FnGood Try.prog 111 (.prim (insertG0 3 32)) := ⟨⟨Try.f111, Try.func111, by kernel_rfl, by kernel_rfl⟩, insert0_prim envI111_ok (fd := fd111) rfl ins111⟩

noncomputable def envI58 : AEnv := envT (.node 58 (.code fd58) .leaf .leaf) []
theorem envI58_ok : EnvOK Try.prog envI58 := envT_ok (by kernel_rfl) (.node ok58 .leaf .leaf) .nil
theorem ins58 (lim : Nat) (H : Heap) (b o : Nat) (new : List AV) (hel : elems H 11 (.sl b o 1 11) = some (1, new)) (_ : 0 < 11) (_ : 96 ≤ most) (hone : new.all AV.one = true) : Cl envI58 58 [.nilsl, .int .i64 0, .sl b o 1 11] lim H (.sl H.length 0 1 11) (H ++ [.cells true new]) := by
  have key : WCl envI58 58 [.nilsl, .int .i64 0, .sl b o 1 11] lim H (fun r1 H1 => r1 = .sl H.length 0 1 11 ∧ H1 = H ++ [.cells true new]) := by
    have happ : appendAV lim H 11 96 .nilsl (.sl b o 1 11) = some (.sl H.length 0 1 11, H ++ [.cells true new]) := by
      simp [appendAV, hel, most]
      simpa using hone
    refine cl_of (fd := fd58) rfl rfl ?_
    rw [fr_init (by simp [fd58])]
    simp [fd58, b58, fr_set, fr_get, fr_getD, look, enumA, aop, AX.ev, nextP_some, optP_some, callP_some, eitherP_tt, eitherP_tf, eitherP_ft, eitherP_ff, eitherP_no, resAll, resL, resOne, own_bool, own_int, own_str, own_nilsl, noTwo, len_roL, len_nil, len_sl, len_ro, binAV, binInt, unAV, cells_new, cells_new0, cells_hd, cells_tl1, cells_tl2, storeAt_new, storeAt_new0, storeAt_hd, storeAt_tl1, storeAt_tl2, storeAt_tl3, load_ptr, load_tp, setFrom_all, AV.cells, AV.one, cut, shape_some, shape_none, faddr_ptr, faddr_tp, roL_one, callee, afterP_eq, nextD_same, nextD_set, nextD_new, thaw_int, thaw_bool, thaw_str, thaw_nilsl, nextD_pre, nextD_true, fillAV, setFrom, valC_len, valC_one, intC_len, bagC_len, bagC_one, ringC_len, ringC_one, deedC_len, deedC_one, val_f0, val_f1, val_f2, val_f01, bag_f0, bag_f8, plan_f0, plan_f1, plan_f2, ring_f0, ring_f8, ring_f8a, ring_f9, ring_f10, ring_f11, deed_f0, deed_f1, deed_f2, deed_f3, deed_f11, deed_f12, deed_f22, deed_f55, val_all, bag_all, plan_all, ring_all, deed_all, val_t1, plan_t1, deed_t1, cutSl, bnd_nat, bnd, AV.isInt, happ]
  obtain ⟨r1, H1, h1, rfl, rfl⟩ := key
  exact h1
theorem ins58_ok : FnGood Try.prog 58 (.prim (insertG0 11 96)) := ⟨⟨Try.f58, Try.func58, by kernel_rfl, by kernel_rfl⟩, insert0_prim envI58_ok (fd := fd58) rfl ins58⟩

end Go.Proofs.YtdbgebbofpgjmaaA

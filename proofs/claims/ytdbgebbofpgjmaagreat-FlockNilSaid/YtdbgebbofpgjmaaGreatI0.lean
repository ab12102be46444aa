/- slices.Insert into none, walked through. No statement about the program is proved here. -/
import Derived.Test.YtdbgebbofpgjmaaGreatF1
import Derived.Test.YtdbgebbofpgjmaaGreatA30
import Derived.KernelRfl
namespace Go.Proofs.YtdbgebbofpgjmaaGreatA
open Go
set_option linter.unusedSimpArgs false
set_option maxRecDepth 1000000
noncomputable def envI144 : AEnv := envT (.node 144 (.code fd144) .leaf .leaf) []
theorem envI144_ok : EnvOK Tryz.prog envI144 := envT_ok (by kernel_rfl) (.node ok144 .leaf .leaf) .nil
theorem ins144 (lim : Nat) (H : Heap) (b o : Nat) (new : List AV) (hel : elems H 3 (.sl b o 1 3) = some (1, new)) (_ : 0 < 3) (_ : 32 ≤ most) (hone : new.all AV.one = true) : Cl envI144 144 [.nilsl, .int .i64 0, .sl b o 1 3] lim H (.sl H.length 0 1 3) (H ++ [.cells true new]) := by
  have key : WCl envI144 144 [.nilsl, .int .i64 0, .sl b o 1 3] lim H (fun r1 H1 => r1 = .sl H.length 0 1 3 ∧ H1 = H ++ [.cells true new]) := by
    have happ : appendAV lim H 3 32 .nilsl (.sl b o 1 3) = some (.sl H.length 0 1 3, H ++ [.cells true new]) := by
      simp [appendAV, hel, most]
      simpa using hone
    refine cl_of (fd := fd144) rfl rfl ?_
    rw [fr_init (by simp [fd144])]
    simp [fd144, b144, fr_set, fr_get, fr_getD, look, enumA, aop, AX.ev, nextP_some, optP_some, callP_some, eitherP_tt, eitherP_tf, eitherP_ft, eitherP_ff, eitherP_no, resAll, resL, resOne, own_bool, own_int, own_str, own_nilsl, noTwo, len_roL, len_nil, len_sl, len_ro, binAV, binInt, unAV, cells_new, cells_new0, cells_hd, cells_tl1, cells_tl2, storeAt_new, storeAt_new0, storeAt_hd, storeAt_tl1, storeAt_tl2, storeAt_tl3, load_ptr, load_tp, setFrom_all, AV.cells, AV.one, cut, shape_some, shape_none, faddr_ptr, faddr_tp, roL_one, callee, afterP_eq, nextD_same, nextD_set, nextD_new, thaw_int, thaw_bool, thaw_str, thaw_nilsl, nextD_pre, nextD_true, fillAV, setFrom, valC_len, valC_one, intC_len, bagC_len, bagC_one, ringC_len, ringC_one, deedC_len, deedC_one, val_f0, val_f1, val_f2, val_f01, bag_f0, bag_f8, plan_f0, plan_f1, plan_f2, ring_f0, ring_f8, ring_f8a, ring_f9, ring_f10, ring_f11, deed_f0, deed_f1, deed_f2, deed_f3, deed_f11, deed_f12, deed_f22, deed_f55, val_all, bag_all, plan_all, ring_all, deed_all, val_t1, plan_t1, deed_t1, cutSl, bnd_nat, bnd, AV.isInt, happ]
  obtain ⟨r1, H1, h1, rfl, rfl⟩ := key
  exact h1
theorem ins144_ok : FnGood Tryz.prog 144 (.prim (insertG0 3 32)) := ⟨⟨Tryz.f144, Tryz.func144, by kernel_rfl, by kernel_rfl⟩, insert0_prim envI144_ok (fd := fd144) rfl ins144⟩

end Go.Proofs.YtdbgebbofpgjmaaGreatA

/- 'starlinglaw21.TakeNil' returns true for every message and every ring: of a vault that there isn't, and of one without a ring, nothing is taken. Without further conditions. -/
import Derived.Test.YtflgfiieaoeknaaRows
import Derived.Test.YtflgfiieaoeknaaT1
import Derived.Test.YtflgfiieaoeknaaAW34
import Derived.WalkKit
import Derived.ProofKit
import Derived.ChangeOld
namespace Go.Proofs.YtflgfiieaoeknaaA
open Go
set_option linter.unusedSimpArgs false
set_option linter.unusedVariables false
set_option maxRecDepth 1000000
attribute [local simp] msg_zero ring_zero deed_zero

theorem k34 {H : Heap} {K : AV → Heap → Prop} : wPu envE 34 (some []) H K = K (.bool true) H := run_pu e34 rfl (fun _ => rfl) awake34
abbrev zTwo : List AV := zMsg ++ zMsg
theorem two_msgs {l : List AV} (h : l.length = 124) : setFrom (setFrom l 0 zMsg) 62 zMsg = zMsg ++ zMsg := setFrom_two (a := zMsg) (b := zMsg) (by rw [h]; rfl)
theorem two_mtake : (zMsg ++ zMsg).take 124 = zMsg ++ zMsg := List.take_of_length_le (by simp)
def zTwoR : List AV := mV 0 0 0 0 0 0 0 0 [] zeroV (.ro 0 []) zeroV 0 0 (.ro 0 []) zeroV zeroV (.ro 0 []) ++ mV 0 0 0 0 0 0 0 0 [] zeroV (.ro 0 []) zeroV 0 0 (.ro 0 []) zeroV zeroV (.ro 0 [])
theorem two_mfrz (H : Heap) : mapO (frz H 11) (zMsg ++ zMsg) = some zTwoR := mapO_app (mV_frz (d := 10) rfl rfl rfl) (mV_frz (d := 10) rfl rfl rfl)
theorem two_mfrz0 (H : Heap) : mapO (frz H 10) (zMsg ++ zMsg) = some zTwoR := mapO_app (mV_frz (d := 9) rfl rfl rfl) (mV_frz (d := 9) rfl rfl rfl)
theorem same37 (lim : Nat) (H : Heap) : Cl envE 37 [.ro 2 zTwoR, .ro 2 zTwoR] lim H (I 0) H := cl_run 400 (by kernel_rfl)
theorem k37 {H : Heap} {K : AV → Heap → Prop} : wPu envE 37 (some [.ro 2 zTwoR, .ro 2 zTwoR]) H K = K (I 0) H := run_pu e37 rfl (fun _ => rfl) same37
theorem takeNil_pu (m : Msg) (r : Ring) (hl : m.bag.vals.length < 4611686018427387904) : Pu envE 7 [.agg (msgC m), .agg (ringC r)] (.bool true) := by
  refine pu_is e7 rfl ?_
  obtain ⟨b, hb⟩ := c33 m r hl
  have fzm := msg_roframe m.kind m
  simp only [msgC_eq, ringC_eq] at hb
  rw [fr_init (by simp [fd7])]
  cases b
  · simp [fd7, b7, wPu_eq hb, k34, fzm]
  simp [fd7, b7, wPu_eq hb, fzm]
  have h1 := fun H => c35n (v := .ptr none) (H := H) noRing_nil m
  simp only [msgC_eq] at h1
  refine WCl.mono (h1 _ 0 (Nat.zero_le _)) ?_
  rintro _ G ⟨e, he, hke, rfl, X, hG⟩
  have c0 : G[0]? = some (.cells false (msgC m)) := by rw [hG]; rfl
  simp only [msgC_eq] at c0
  clear hG h1
  obtain ⟨G1, hG1⟩ : ∃ G1, G1 = G ++ [ABlk.cells false zMsg] := ⟨_, rfl⟩
  have d0 : G1[0]? = some (.cells false (mV m.kind m.from' m.to m.seq m.for' m.about m.part m.epoch m.key m.bag.known (roL valC m.bag.vals) m.ring.status m.ring.plan.version m.ring.plan.by' (roL intC m.ring.plan.targets) m.ring.epoch m.ring.owner (roL claimC m.claims))) := by rw [hG1]; exact get_app c0
  have d1 : G1[G.length]? = some (.cells false zMsg) := by rw [hG1]; exact get_new
  have nr := fun lim K => new_room (room := 3) (H := G1) (lim := lim) (K := K) (by omega) (by omega)
  simp [← hG1, store_msg d1 (Nat.zero_le _), cells_of d0, nr]
  refine open_newL 3 G1 _ (by simp) (by omega) (by omega) ?_
  intro X hv
  have h2 := c36n (noRing_vlt hv (empty_ok (by omega) (by omega)) rfl) m 0 (Nat.zero_le _)
  simp only [msgC_eq] at h2
  simp
  refine WCl.mono h2 ?_
  rintro _ G2 ⟨f, hf, rfl, Y, hG2⟩
  have hgl : G1.length + (X.length + 1) ≤ G2.length := by rw [hG2]; simp
  have f0 : G2[0]? = some (.cells false (mV m.kind m.from' m.to m.seq m.for' m.about m.part m.epoch m.key m.bag.known (roL valC m.bag.vals) m.ring.status m.ring.plan.version m.ring.plan.by' (roL intC m.ring.plan.targets) m.ring.epoch m.ring.owner (roL claimC m.claims))) := by rw [hG2]; exact get_app (get_app d0)
  have f1 : G2[G.length]? = some (.cells false zMsg) := by rw [hG2]; exact get_app (get_app d1)
  have p0 := fun Z => cells_of (get_app (X := Z) f0)
  have p1 := fun Z => cells_of (get_app (X := Z) f1)
  by_cases hk : m.kind = 5
  · rcases he with rfl | rfl <;> rcases hf with rfl | rfl <;> simp [p0, p1, two_msgs, two_mtake, setFrom_len, frz_sl, two_mfrz, two_mfrz0, k37, k34, hk, hgl]
  · have := hke hk
    subst this
    rcases hf with rfl | rfl <;> simp [p0, p1, two_msgs, two_mtake, setFrom_len, frz_sl, two_mfrz, two_mfrz0, k37, k34, hk, hgl]
theorem takeNil_law (cs : List AV) (h : FitsArgs [(true, shMsg), (true, shRing)] cs) : ∃ n H', callF envE (exec envE n) 7 cs 0 [] = some (.bool true, H') := by
  obtain ⟨a, rest, rfl, h1, t⟩ := fa_row h
  obtain ⟨c, rest, rfl, h2, t⟩ := fa_row t
  cases fa_nil t
  obtain ⟨m, rfl, _, hb, _⟩ := of_msg h1
  obtain ⟨r, rfl, _⟩ := of_ring h2
  have hrb : reachBytes = 140737488351232 := rfl
  exact law_of (takeNil_pu m r (by omega)) (args_cons (frz_agg (msg_roframe m.kind m [])) (args_cons (frz_agg (by simp)) args_nil))
end Go.Proofs.YtflgfiieaoeknaaA

namespace Go.Proofs.Ytflgfiieaoeknaa.takeNil
open Go.ChangeShapes Go.WideShapes Go.ChangeAt Go.RowKit
set_option linter.unusedVariables false
theorem own : ownKnob Try.prog.godebug = none := by kernel_rfl
set_option maxRecDepth 1000000 in
theorem lifted (os : Os) (started : os.Started) (H : Type) (enc : TypeId × Value → H) :
    ReturnsInHanded {} Try.checked os 7 .any (Rows.takeNilSpec.pre6 enc Try.prog Try.f7 Rows.takeNilRow.domain false) (Rows.takeNilSpec.post enc Try.prog Try.f7 false true false false) :=
  YtflgfiieaoeknaaA.law_lifted (C := Try.checked) YtflgfiieaoeknaaA.env_good (fd := YtflgfiieaoeknaaA.fd7) (tb := 4) rfl own started (by kernel_rfl) Try.func7
    (ChangeSpec.witness6 (enc := enc) (C := Try.checked) false ⟨#[], #[((Try.prog.info? 78).bind (·.zero)).getD .nilFunc, ((Try.prog.info? 52).bind (·.zero)).getD .nilFunc], []⟩ 8 (by kernel_rfl) (by kernel_rfl) (by kernel_rfl) (by kernel_rfl))
    (by kernel_rfl) (by decide +kernel) (by kernel_rfl) rfl (by kernel_rfl) (by kernel_rfl) (fun ds h => by
      match ds, h with
      | [d0, d1], _ => rfl) YtflgfiieaoeknaaA.takeNil_law
theorem over : Rows.takeNilRow.holds Try.pinned (OpenSpec.ofChange Rows.takeNilSpec) :=
  OpenClaim.holds_of_wide 7 Try.f7 rfl rfl rfl rfl rfl rfl rfl ⟨rfl, rfl, rfl, rfl, rfl⟩ rfl rfl rfl rfl rfl (by kernel_rfl) Try.func7 (by kernel_rfl)
    (of_decide_eq_true (by kernel_rfl)) (by unfold Func.isWrapper; first | (rw [if_pos (by decide +kernel)]; kernel_rfl) | (rw [if_neg (by decide +kernel)]; exact ⟨rfl, rfl⟩))
    (fun os started H enc _ => lifted os started H enc)
end Go.Proofs.Ytflgfiieaoeknaa.takeNil
namespace Go.Proofs.Ytflgfiieaoeknaa
/-- The row, under a short name, for the claim. -/
theorem takeNil_holds : Rows.TakeNilSaid := takeNil.over
#print axioms takeNil_holds
end Go.Proofs.Ytflgfiieaoeknaa


/- 'starlinglaw22.DeskSure' returns true for all calls and every ring: what a desk told to be put is there behind a crash; elsewhere nothing is done, and whose it is is told. Without further conditions. -/
import Derived.Test.YtflgfiieaoeknaaRows
import Derived.Test.YtflgfiieaoeknaaU2
import Derived.Test.YtflgfiieaoeknaaAW21
import Derived.WalkKit
import Derived.ProofKit
import Derived.ChangeOld
namespace Go.Proofs.YtflgfiieaoeknaaA
open Go Go.RowKit
set_option linter.unusedSimpArgs false
set_option linter.unusedVariables false
set_option maxRecDepth 1000000
attribute [local simp] ring_zero vec_zero bagV_zero

@[simp] theorem k21 {H : Heap} {K : AV → Heap → Prop} : wPu envE 21 (some []) H K = K (.bool true) H := run_pu e21 rfl (fun _ => rfl) awake21
set_option maxHeartbeats 2000000 in
theorem deskSure_pu (l : List DCall) (r : Ring) (hl : l.length < 4611686018427387904) (hrf : r.plan.targets.length * 8 ≤ reachBytes) : Pu envE 6 [roL dcC l, .agg (ringC r)] (.bool true) := by
  have hrb : reachBytes = 140737488351232 := rfl
  refine pu_is e6 rfl ?_
  obtain ⟨b, hb⟩ := c27 l hl
  obtain ⟨n, hn⟩ := heavy28a r
  cases b
  · rw [fr_init (by simp [fd6])]
    simp [fd6, b6, wPu_eq hb]
  have hover : ∀ {st ep ow : Nat → Int} {ver by' : Int} {q : AV} (l : List AV), l.length = 43 → setFrom l 0 (ringV st ver by' q ep ow) = ringV st ver by' q ep ow := fun l hl => setFrom_all _ _ (by rw [hl, ringV_len])
  by_cases h0 : 0 < n
  · rw [fr_init (by simp [fd6])]
    simp [fd6, b6, wPu_eq hb, hover, frz_sl, wPu_eq hn, h0]
  have hrl : r.plan.targets.length < 4611686018427387904 := by omega
  obtain ⟨H0, hH0⟩ : ∃ H0, H0 = [ABlk.cells false (ringV r.status r.plan.version r.plan.by' (roL intC r.plan.targets) r.epoch r.owner), ABlk.cells true (ringV r.status r.plan.version r.plan.by' (roL intC r.plan.targets) r.epoch r.owner)] := ⟨_, rfl⟩
  have b0 : H0[0]? = some (.cells false (ringV r.status r.plan.version r.plan.by' (roL intC r.plan.targets) r.epoch r.owner)) := by rw [hH0]; rfl
  have hl0 : H0.length = 2 := by rw [hH0]; rfl
  have fH : frz H0 12 (.sl 1 0 1 43) = some (.ro 1 (ringV r.status r.plan.version r.plan.by' (roL intC r.plan.targets) r.epoch r.owner)) := by rw [hH0]; exact frz_one rfl (by simp) (by simp)
  have nr := fun K => new_room (room := 100) (H := H0) (lim := 0) (K := K) (by omega) (by omega)
  rw [fr_init (by simp [fd6])]
  simp [fd6, b6, wPu_eq hb, hover, frz_sl, wPu_eq hn, h0, ← hH0, fH, nr]
  refine open_new 100 H0 (by omega) (by omega) ?_
  rw [hl0]
  intro X hv
  have b1 := get_app (X := X) b0
  have ok0 := empty_ok (room := 100) (by omega) (by omega)
  simp
  refine WCl.mono (c25 hv ok0 1 [107] zeroV [120]) ?_
  rw [desk_empty]
  rintro _ H2 ⟨rfl, k2, v2, q2, es2, ck2, hv2⟩
  have b2 := k2.2 0 _ b1 (by omega) (by omega) (by omega) (by intro y e; cases e)
  obtain ⟨G, hG⟩ : ∃ G, G = H2 ++ [ABlk.cells false [I 0, I 0]] := ⟨_, rfl⟩
  have hvG : Vlt G 4 2 3 (emptyS 100) v2 q2 es2 ck2 := by rw [hG]; exact hv2.app
  have bG : G[0]? = some (.cells false (ringV r.status r.plan.version r.plan.by' (roL intC r.plan.targets) r.epoch r.owner)) := by rw [hG]; exact get_app b2
  have cG : G[H2.length]? = some (.cells false [I 0, I 0]) := by rw [hG]; exact get_new
  have sG : storeAt 0 G 2 (.ptr (some (H2.length, 0))) (.agg [I 0, I 0]) = some G := by
    have := store_of (lim := 0) (n := 2) (o := 0) (v := .agg [I 0, I 0]) cG (by omega) (by simp [AV.cells]) (by simp) (by simp [AV.cells])
    rw [this]
    simp only [AV.cells, setFrom, List.set_cons_zero, List.set_cons_succ]
    congr 1
    apply List.ext_getElem?
    intro j
    rw [List.getElem?_set]
    split
    · rename_i e
      subst e
      rw [if_pos (lt_of cG), cG]
    · rfl
  have hwr : writeE (ringD r) (emptyS 100).ds (emptyS 100).room = if ringMay r = true then 0 else 1 := by
    unfold writeE
    rw [ringD_eq]
    rfl
  simp [← hG, sG, cells_of cG, eq_row2, cells_of bG]
  refine WCl.mono (c24 hvG ok0 r (roL intC r.plan.targets) (.inr rfl) hrf) ?_
  rintro _ H3 ⟨rfl, hs3⟩
  have hm29 := c29 r hrl
  simp only [ringC_eq] at hm29
  obtain ⟨k3, v3, q3, es3, ck3, hv3⟩ := hs3
  have b3 := k3.2 0 _ bG (by omega) (by omega) (by omega) (by intro y e; cases e)
  cases hmay : ringMay r
  · rw [hmay] at hwr hm29
    simp [hwr, cells_of b3, wPu_eq hm29]
  rw [hmay] at hwr
  simp at hwr
  have hfitR : deedFits (ringD r) := ⟨Nat.zero_le _, hrf⟩
  have ok3 : VOk (wroteS (emptyS 100) (ringD r)) := ok0.wrote hfitR
  have inv0 : Inv (emptyS 100) := ⟨rfl, fun d hd => by simp [emptyS] at hd⟩
  have inv3 : Inv (wroteS (emptyS 100) (ringD r)) := inv0.wrote (.inr (.inl rfl))
  have hs3 : (wroteS (emptyS 100) (ringD r)).ring = r ∧ (wroteS (emptyS 100) (ringD r)).rings = 1 := by
    rw [wroteS, if_pos hwr]
    exact ⟨by simp [countS, ringD], by simp [countS, ringD, emptyS]⟩
  obtain ⟨s3, hS3⟩ : ∃ s3, s3 = wroteS (emptyS 100) (ringD r) := ⟨_, rfl⟩
  rw [← hS3] at hv3 ok3 inv3 hs3
  simp [hwr]
  refine loop_go [3, 5, 6, 62, 63, 64] rfl (fun m vs H => ∃ i s v q es ck, m + i = l.length ∧ H[0]? = some (.cells false (ringV r.status r.plan.version r.plan.by' (roL intC r.plan.targets) r.epoch r.owner)) ∧ Vlt H 4 2 3 s v q es ck ∧ VOk s ∧ Inv s ∧ s.ring = r ∧ s.rings = 1 ∧ vs = [.ptr (some (0, 0)), .ptr (some (2, 0)), .ptr (some (4, 0)), roL dcC l, I l.length, I i]) ?_ l.length ⟨0, s3, v3, q3, es3, ck3, rfl, b3, hv3, ok3, inv3, hs3.1, hs3.2, rfl⟩
  rintro J hJ m vs H f ⟨i, s, v, q, es, ck, hm, hb0, hv, ok, inv, hsr, hsn, rfl⟩
  by_cases hi : i < l.length
  case neg => simp [lp6_0, hi]
  have hw := wrap_succ (i := i) (by omega)
  have hld := load_roL dcC_len hi (H := H)
  rw [dcC_eq] at hld
  obtain ⟨c, hc⟩ : ∃ c, c = l[i] := ⟨_, rfl⟩
  rw [← hc] at hld
  obtain ⟨A, hA⟩ : ∃ A, A = dV c.what c.self c.key c.data c.known c.ring.status c.ring.plan.version c.ring.plan.by' (roL intC c.ring.plan.targets) c.ring.epoch c.ring.owner := ⟨_, rfl⟩
  obtain ⟨HA, hHA⟩ : ∃ HA, HA = H ++ [ABlk.cells false (dV c.what c.self c.key c.data c.known c.ring.status c.ring.plan.version c.ring.plan.by' (roL intC c.ring.plan.targets) c.ring.epoch c.ring.owner)] := ⟨_, rfl⟩
  have hvA : Vlt HA 4 2 3 s v q es ck := by rw [hHA]; exact hv.app
  have bA : HA[0]? = some (.cells false (ringV r.status r.plan.version r.plan.by' (roL intC r.plan.targets) r.epoch r.owner)) := by rw [hHA]; exact get_app hb0
  have cA : HA[H.length]? = some (.cells false (dV c.what c.self c.key c.data c.known c.ring.status c.ring.plan.version c.ring.plan.by' (roL intC c.ring.plan.targets) c.ring.epoch c.ring.owner)) := by rw [hHA]; exact get_new
  have hp4 : 4 < H.length := lt_of hv.box
  have z1 : ∀ K lim, WCl envE 16 [.ptr (some (2, 0))] lim HA K = K (I s.ds.length) HA := fun K lim => WCl_eq (c16 hvA.led.at' hvA.led.row.len lim)
  have cA2 := cells_of cA
  have hr1 : s.rings ≠ 0 := by omega
  simp [lp6_0, hi, idxSl_roL hi, hld, -load_tp, ← hHA, z1, cA2]
  refine WCl.mono (c25 hvA ok c.self c.key c.known c.data) ?_
  rintro _ H5 ⟨rfl, k5, v5, q5, es5, ck5, hv5⟩
  obtain ⟨D, hD⟩ : ∃ D, D = deskO s c.self c.key c.known c.data := ⟨_, rfl⟩
  rw [← hD] at hv5 ⊢
  obtain ⟨HB, hHB⟩ : ∃ HB, HB = H5 ++ [ABlk.cells false [I D.a, I D.c]] := ⟨_, rfl⟩
  have hvB : Vlt HB 4 2 3 D.s v5 q5 es5 ck5 := by rw [hHB]; exact hv5.app
  have b5 := k5.2 0 _ bA (by omega) (by omega) (by omega) (by intro y e; cases e)
  have c5 := k5.2 H.length _ cA (by omega) (by omega) (by omega) (by intro y e; cases e)
  have bB : HB[0]? = some (.cells false (ringV r.status r.plan.version r.plan.by' (roL intC r.plan.targets) r.epoch r.owner)) := by rw [hHB]; exact get_app b5
  have cB : HB[H.length]? = some (.cells false (dV c.what c.self c.key c.data c.known c.ring.status c.ring.plan.version c.ring.plan.by' (roL intC c.ring.plan.targets) c.ring.epoch c.ring.owner)) := by rw [hHB]; exact get_app c5
  have dB : HB[H5.length]? = some (.cells false [I D.a, I D.c]) := by rw [hHB]; exact get_new
  have kk30 := fun (p : Int) H K => k30 (r := r) (p := p) (H := H) (K := K)
  by_cases he : D.e = 0
  case neg =>
    have hbad := desk_bad (s := s) (self := c.self) (key := c.key) (known := c.known) (data := c.data) hr1 (by rw [← hD]; exact he)
    rw [← hD] at hbad
    obtain ⟨hs, hcase⟩ := hbad
    rw [hs] at hvB
    have z2 : ∀ K lim, WCl envE 16 [.ptr (some (2, 0))] lim HB K = K (I s.ds.length) HB := fun K lim => WCl_eq (c16 hvB.led.at' hvB.led.row.len lim)
    rcases hcase with ⟨e10, hk, hn1, hn2⟩ | ⟨e10, hn0⟩
    · obtain ⟨p0, p1⟩ := spot_ok hk
      have p2 : ¬ spotF c.key < 0 := by omega
      rw [hsr] at hn1 hn2
      have hn3 : ¬ D.n = c.self := by rw [hn1]; exact hn2
      simp [← hHB, he, e10, z2, p2, cells_of bB, cells_of cB, kk30, hn1, hn2, hw]
      exact nxt hJ (m - 1) (by omega) ⟨i + 1, s, v5, q5, es5, ck5, by omega, bB, hvB, ok, inv, hsr, hsn, rfl⟩
    · simp [← hHB, he, e10, z2, hn0, hw]
      exact nxt hJ (m - 1) (by omega) ⟨i + 1, s, v5, q5, es5, ck5, by omega, bB, hvB, ok, inv, hsr, hsn, rfl⟩
  have hgood := desk_good (s := s) (self := c.self) (key := c.key) (known := c.known) (data := c.data) hr1 (by rw [← hD]; exact he)
  rw [← hD] at hgood
  obtain ⟨hDe, hpe, hk, how, hos⟩ := hgood
  obtain ⟨z3, z4, z5⟩ := put_zero hpe
  have okP := (ok.put (node := c.self) (key := c.key) (known := c.known) (data := c.data)).sync
  have invP := (inv.put (node := c.self) (key := c.key) (known := c.known) (data := c.data)).sync
  obtain ⟨P, hP⟩ : ∃ P, P = putO s c.self c.key c.known c.data := ⟨_, rfl⟩
  rw [← hP] at hDe hpe z3 z4 z5 okP invP
  obtain ⟨S, hS⟩ : ∃ S, S = D.s := ⟨_, rfl⟩
  have hSe : S = { P.s with sure := P.s.ds.length } := by rw [hS, hDe]
  have hDn : D.n = c.self := by rw [hDe]
  have hDa : D.a = P.a := by rw [hDe]
  have hDc : D.c = P.c := by rw [hDe]
  rw [← hSe] at okP invP
  rw [← hS] at hvB
  have hSr : S.ring = r := by rw [hSe]; exact z3.trans hsr
  have hSn : S.rings = 1 := by rw [hSe]; exact z4.trans hsn
  have hSs : S.sure = S.ds.length := by rw [hSe]
  have hSb : ∀ k, bagOf S k = bagOf P.s k := fun k => by rw [hSe]; rfl
  have hoS : ownsO S c.self c.key = ⟨c.self, 0⟩ := by
    rw [← hos]
    unfold ownsO
    rw [hSr, hSn, hsr, hsn]
  have hhas : has (bagOf S c.key).known D.a D.c = true := by rw [hSb, hDa, hDc]; exact z5
  have h14 := c14f hvB.led hvB.vn invP.kinds okP.fit
  simp [← hHB, he]
  refine WCl.mono h14 ?_
  rintro _ H6 ⟨rfl, kc6, q6, es6, ck6, hv6⟩
  have l5 : HB.length = H5.length + 1 := by rw [hHB]; simp
  have l6 : 4 < HB.length := lt_of hvB.box
  have kb := kc6.below (by omega) (Nat.le_refl _)
  have hvO := hvB.grow kb
  have b6 := kb _ _ bB
  have c6 := kb _ _ cB
  have d6 := kb _ _ dB
  simp [cells_of c6]
  refine WCl.mono (c26 hvO okP c.self c.key 0 (Nat.zero_le _)) ?_
  rintro _ _ ⟨X7, q7, rfl, rfl, hq7⟩
  rw [hoS] at hq7 ⊢
  simp only [if_true] at hq7 ⊢
  obtain ⟨B, hB⟩ : ∃ B, B = bagOf S c.key := ⟨_, rfl⟩
  rw [← hB] at hq7 hhas ⊢
  have o7 := hq7.one
  obtain ⟨HC, hHC⟩ : ∃ HC, HC = H6 ++ (X7 ++ [ABlk.cells false (bagV B.known q7)]) := ⟨_, rfl⟩
  have bC : HC[0]? = some (.cells false (ringV r.status r.plan.version r.plan.by' (roL intC r.plan.targets) r.epoch r.owner)) := by rw [hHC]; exact get_app b6
  have cC : HC[H.length]? = some (.cells false (dV c.what c.self c.key c.data c.known c.ring.status c.ring.plan.version c.ring.plan.by' (roL intC c.ring.plan.targets) c.ring.epoch c.ring.owner)) := by rw [hHC]; exact get_app c6
  have dC : HC[H5.length]? = some (.cells false [I D.a, I D.c]) := by rw [hHC]; exact get_app d6
  have gC : HC[H6.length + X7.length]? = some (.cells false (bagV B.known q7)) := by rw [hHC]; simp
  have hvC : Vlt HC 4 2 3 S v5 q5 es5 ck5 := by rw [hHC]; exact hvO.app
  have hv6C : Vlt HC (HB.length + 1) 2 HB.length (foldS (startS S.ds S.sure S.room) S.ds) v5 q6 es6 ck6 := by rw [hHC]; exact hv6.app
  have r7 : Row 0 HC 3 valC B.vals q7 := by
    have := (hq7.app (X := [ABlk.cells false (bagV B.known q7)])).mono (Nat.zero_le _)
    rw [List.append_assoc] at this
    rw [hHC]; exact this
  have hled := hvC.led
  rw [hSs] at hled
  have k31 : ∀ K, WCl envE 31 [.ptr (some (2, 0)), I 0] 0 HC K = K (I 0) HC := fun K => WCl_eq (c31z hled)
  obtain ⟨p0, p1⟩ := spot_ok hk
  have p2 : ¬ spotF c.key < 0 := by omega
  rw [hsr] at how
  simp [o7, ← hHC, p2, hDn, cells_of cC, cells_of bC, kk30, how, k31]
  have hbf : bagOf (foldS (startS S.ds S.sure S.room) S.ds) c.key = B := by rw [hB, bagOf, bags_fold invP]; rfl
  have hfitB : B.vals.length * 32 ≤ reachBytes := by rw [hB]; exact bag_fit okP
  refine WCl.mono (c18w hv6C c.key (by rw [hbf]; exact hfitB) HC.length (Nat.le_refl _)) ?_
  rintro _ _ ⟨Y, q9, rfl, rfl, hq9⟩
  rw [hbf] at hq9 ⊢
  have o9 := hq9.one
  have f9 := hq9.frz (d := 9) valC_len val_flat
  have f7 := (r7.app (X := Y)).frz (d := 9) valC_len val_flat
  have k17i := fun H K => k17 (k := B.known) (k' := B.known) (l := B.vals) (l' := B.vals) (by omega) (H := H) (K := K)
  have hsame : bagSame B.known B.vals B.known B.vals = true := bagSame_refl (b := B)
  rw [hsame] at k17i
  simp [o9, f9, f7, k17i, cells_of (get_app (X := Y) gC), cells_of (get_app (X := Y) dC), cells_of (get_app (X := Y) cC), cells_of (get_app (X := Y) bC), hhas, hw]
  exact nxt hJ (m - 1) (by omega) ⟨i + 1, S, v5, q5, es5, ck5, by omega, get_app bC, hvC.app, okP, invP, hSr, hSn, rfl⟩
theorem deskSure_law (cs : List AV) (h : FitsArgs [(false, .sl 55 472 shDCall), (true, shRing)] cs) : ∃ n H', callF envE (exec envE n) 6 cs 0 [] = some (.bool true, H') := by
  obtain ⟨a, rest, rfl, h1, t⟩ := fa_one h
  obtain ⟨c, rest, rfl, h2, t⟩ := fa_row t
  cases fa_nil t
  obtain ⟨l, e2, _, hl⟩ := fits_sl (f := dcC) (fun r hr => by obtain ⟨c, h, _⟩ := of_dcall hr; exact ⟨c, h⟩) h1
  cases e2
  obtain ⟨r, rfl, hr⟩ := of_ring h2
  have hrb : reachBytes = 140737488351232 := rfl
  exact law_of (deskSure_pu l r (by omega) hr.2) (by simp)
end Go.Proofs.YtflgfiieaoeknaaA

namespace Go.Proofs.Ytflgfiieaoeknaa.deskSure
open Go.ChangeShapes Go.WideShapes Go.ChangeAt Go.RowKit
set_option linter.unusedVariables false
theorem own : ownKnob Try.prog.godebug = none := by kernel_rfl
set_option maxRecDepth 1000000 in
theorem lifted (os : Os) (started : os.Started) (H : Type) (enc : TypeId × Value → H) :
    ReturnsInHanded {} Try.checked os 6 .any (Rows.deskSureSpec.pre6 enc Try.prog Try.f6 Rows.deskSureRow.domain false) (Rows.deskSureSpec.post enc Try.prog Try.f6 false true false false) :=
  YtflgfiieaoeknaaA.law_lifted (C := Try.checked) YtflgfiieaoeknaaA.env_good (fd := YtflgfiieaoeknaaA.fd6) (tb := 4) rfl own started (by kernel_rfl) Try.func6
    (ChangeSpec.witness6 (enc := enc) (C := Try.checked) false ⟨#[], #[((Try.prog.info? 66).bind (·.zero)).getD .nilFunc, ((Try.prog.info? 52).bind (·.zero)).getD .nilFunc], []⟩ 8 (by kernel_rfl) (by kernel_rfl) (by kernel_rfl) (by kernel_rfl))
    (by kernel_rfl) (by decide +kernel) (by kernel_rfl) rfl (by kernel_rfl) (by kernel_rfl) (fun ds h => by
      match ds, h with
      | [d0, d1], _ => rfl) YtflgfiieaoeknaaA.deskSure_law
theorem over : Rows.deskSureRow.holds Try.pinned (OpenSpec.ofChange Rows.deskSureSpec) :=
  OpenClaim.holds_of_wide 6 Try.f6 rfl rfl rfl rfl rfl rfl rfl ⟨rfl, rfl, rfl, rfl, rfl⟩ rfl rfl rfl rfl rfl (by kernel_rfl) Try.func6 (by kernel_rfl)
    (of_decide_eq_true (by kernel_rfl)) (by unfold Func.isWrapper; first | (rw [if_pos (by decide +kernel)]; kernel_rfl) | (rw [if_neg (by decide +kernel)]; exact ⟨rfl, rfl⟩))
    (fun os started H enc _ => lifted os started H enc)
end Go.Proofs.Ytflgfiieaoeknaa.deskSure
namespace Go.Proofs.Ytflgfiieaoeknaa
/-- The row, under a short name, for the claim. -/
theorem deskSure_holds : Rows.DeskSureSaid := deskSure.over
#print axioms deskSure_holds
end Go.Proofs.Ytflgfiieaoeknaa


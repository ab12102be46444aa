/- 'starlinglaw22.DeskPlays' returns true for every room and all calls: a desk does and answers as the document's does, and as much is sure. Without further conditions. -/
import Derived.Test.YtflgfiieaoeknaaGreatRows
import Derived.Test.YtflgfiieaoeknaaGreatY0
import Derived.Test.YtflgfiieaoeknaaGreatY1
import Derived.Test.YtflgfiieaoeknaaGreatAW8
import Derived.WalkKit
import Derived.ProofKit
import Derived.ChangeOld
namespace Go.Proofs.YtflgfiieaoeknaaGreatA
open Go Go.RowKit
set_option linter.unusedSimpArgs false
set_option linter.unusedVariables false
set_option maxRecDepth 1000000
attribute [local simp] ring_zero vec_zero bagV_zero

@[simp] theorem k8 {H : Heap} {K : AV → Heap → Prop} : wPu envE 8 (some []) H K = K (.bool true) H := run_pu e8 rfl (fun _ => rfl) awake8
theorem Both.ends {H : Heap} {p lb mi b w : Nat} {s : VSt} {t : RSt} {v q rv q2 pv : AV} {es : List (AV × AV × Nat)} {ck : Nat} {cs : List DCell9} {ps : List PR} (h : Both H p lb mi b w s t v q rv q2 pv es ck cs ps) (sim : Sim s t) :
    (∀ K lim, WCl envE 20 [.ptr (some (lb, 0))] lim H K = K (I s.sure) H) ∧ (∀ K lim, WCl envE 21 [.ptr (some (lb, 0))] lim H K = K (I s.ds.length) H) ∧ Heap.cells? H b = some [I t.cap, I s.sure, rv] ∧ lenSlAV rv = some (I s.ds.length) := by
  refine ⟨fun K lim => WCl_eq (c20 h.vl.led.at' lim), fun K lim => WCl_eq (c21 h.vl.led.at' h.vl.led.row.len lim), ?_, ?_⟩
  · rw [← sim.sure]; exact h.rl.lcells0
  · have := h.rl.row.len
    rw [h.rl.cn, sim.n] at this
    exact this
@[simp] theorem dV_f0 {w se : Int} {key data : List UInt8} {k st pe po : Nat → Int} {q : AV} {ver by' : Int} : (dV w se key data k st ver by' q pe po).take 1 = [I w] := hard rfl
set_option maxHeartbeats 2000000 in
theorem deskPlays_pu (room : Int) (l : List DCall) (hl : l.length < 4611686018427387904) (hb : ∀ c ∈ l, c.ring.plan.targets.length * 8 ≤ reachBytes) : Pu envE 3 [I room, roL dcC l] (.bool true) := by
  have hrb : reachBytes = 140737488351232 := rfl
  refine pu_is e3 rfl ?_
  obtain ⟨b, hbl⟩ := c7 l hl
  cases b
  · rw [fr_init (by simp [fd3])]
    simp [fd3, b3, wPu_eq hbl]
  obtain ⟨cap, hcap⟩ : ∃ cap, cap = max 0 (min room 3000) := ⟨_, rfl⟩
  have h0c : 0 ≤ cap := by omega
  have h1c : cap ≤ 3000 := by omega
  have n9 : ∀ K lim, WCl envE 9 [I room] lim [] K = K (.ptr (some (0, 0))) [.cells false [.nilsl, I 0, I cap]] := fun K lim => by
    have := WCl_eq (K := K) (c9n room lim [])
    rw [← hcap] at this
    simpa using this
  have n10 : ∀ K lim, WCl envE 10 [I room] lim [.cells false [.nilsl, I 0, I cap]] K = K (.ptr (some (1, 0))) [.cells false [.nilsl, I 0, I cap], .cells false [I cap, I 0, .nilsl]] := fun K lim => by
    have := WCl_eq (K := K) (c10n room lim [.cells false [.nilsl, I 0, I cap]])
    rw [← hcap] at this
    simpa using this
  rw [fr_init (by simp [fd3])]
  simp [fd3, b3, wPu_eq hbl, n9, n10]
  refine WCl.mono (c14e (H := [.cells false [.nilsl, I 0, I cap], .cells false [I cap, I 0, .nilsl]]) (lb := 0) (room := cap) rfl) ?_
  rintro _ _ ⟨rfl, X, rfl, hv⟩
  simp
  refine WCl.mono (c12n (H := .cells false [.nilsl, I 0, I cap] :: .cells false [I cap, I 0, .nilsl] :: X) (b := 1) (cap := cap) rfl) ?_
  rintro _ _ ⟨rfl, Y, rfl, hr⟩
  have b0 : Both (.cells false [.nilsl, I 0, I cap] :: .cells false [I cap, I 0, .nilsl] :: X ++ Y) 3 0 2 1 (X.length + 1 + 1) (emptyS cap) (emptyR cap) .nilsl .nilsl .nilsl .nilsl .nilsl [] 0 [] [] := by
    have h3 := lt_of hv.box
    simp at h3
    have hv' := hv.app (X := Y)
    simp at hv'
    refine ⟨hv', by simpa using hr, fun k hk => absurd Off.nil hk, by omega, by omega, by omega, by omega, by omega, by omega⟩
  simp
  obtain ⟨w, hw⟩ : ∃ w, w = X.length + 1 + 1 := ⟨_, rfl⟩
  rw [← hw] at b0 ⊢
  refine loop_go [5, 6, 7, 8, 36, 37, 38] rfl (fun m vs H => ∃ i s t v q rv q2 pv es ck cs ps, m + i = l.length ∧ Both H 3 0 2 1 w s t v q rv q2 pv es ck cs ps ∧ VOk s ∧ Sim s t ∧ vs = [.ptr (some (0, 0)), .ptr (some (1, 0)), .ptr (some (3, 0)), .ptr (some (w, 0)), roL dcC l, I l.length, I i]) ?_ l.length ⟨0, _, _, _, _, _, _, _, _, _, _, _, by omega, b0, empty_ok h0c h1c, Sim.empty, rfl⟩
  rintro J hJ m vs H f ⟨i, s, t, v, q, rv, q2, pv, es, ck, cs, ps, hm, hB, ok, sim, rfl⟩
  by_cases hi : i < l.length
  case neg => simp [lp3_0, hi]
  have hwi := wrap_succ (i := i) (by omega)
  have hld := load_roL dcC_len hi (H := H)
  rw [dcC_eq] at hld
  obtain ⟨c, hc⟩ : ∃ c, c = l[i] := ⟨_, rfl⟩
  have hcf := hb l[i] (List.getElem_mem hi)
  rw [← hc] at hld hcf
  obtain ⟨A, hA⟩ : ∃ A, A = dV c.what c.self c.key c.data c.known c.ring.status c.ring.plan.version c.ring.plan.by' (roL intC c.ring.plan.targets) c.ring.epoch c.ring.owner := ⟨_, rfl⟩
  obtain ⟨HA, hHA⟩ : ∃ HA, HA = H ++ [ABlk.cells false (dV c.what c.self c.key c.data c.known c.ring.status c.ring.plan.version c.ring.plan.by' (roL intC c.ring.plan.targets) c.ring.epoch c.ring.owner)] := ⟨_, rfl⟩
  have hBA : Both HA 3 0 2 1 w s t v q rv q2 pv es ck cs ps := by rw [hHA]; exact hB.app
  have gA : HA[H.length]? = some (.cells false (dV c.what c.self c.key c.data c.known c.ring.status c.ring.plan.version c.ring.plan.by' (roL intC c.ring.plan.targets) c.ring.epoch c.ring.owner)) := by rw [hHA]; exact get_new
  have cA := cells_of gA
  have lenA : HA.length = H.length + 1 := by rw [hHA]; simp
  have hp3 : 3 < H.length := lt_of hB.vl.box
  have hwl : w < H.length := lt_of hB.rl.box
  have okR := sim.ok ok
  by_cases h0 : c.what = 0
  · -- a Get
    have h0' : (c.what == 0) = true := by simp [h0]
    simp [lp3_0, hi, idxSl_roL hi, hld, -load_tp, ← hHA, cA, h0']
    refine WCl.mono (c13 hBA.vl ok c.self c.key 0 (Nat.zero_le _)) ?_
    rintro _ _ ⟨X1, q', rfl, rfl, hq⟩
    obtain ⟨O, hO⟩ : ∃ O, O = ownsO s c.self c.key := ⟨_, rfl⟩
    obtain ⟨G, hG⟩ : ∃ G, G = if O.e = 0 then bagOf s c.key else zBagS := ⟨_, rfl⟩
    rw [← hO, ← hG] at hq ⊢
    have o1 := hq.one
    obtain ⟨HB, hHB⟩ : ∃ HB, HB = HA ++ (X1 ++ [ABlk.cells false (bagV G.known q')]) := ⟨_, rfl⟩
    have hBB : Both HB 3 0 2 1 w s t v q rv q2 pv es ck cs ps := by rw [hHB]; exact hBA.app
    have gB : HB[H.length]? = some (.cells false (dV c.what c.self c.key c.data c.known c.ring.status c.ring.plan.version c.ring.plan.by' (roL intC c.ring.plan.targets) c.ring.epoch c.ring.owner)) := by rw [hHB]; exact get_app gA
    have xB : HB[HA.length + X1.length]? = some (.cells false (bagV G.known q')) := by
      rw [hHB, ← List.append_assoc, ← List.length_append]; exact get_new
    have z14 := c14 hBB.rl okR c.self c.key
    rw [sim.owns, sim.bag, ← hO, ← hG] at z14
    simp [← hHB, o1, cells_of gB]
    refine WCl.mono z14 ?_
    rintro _ _ ⟨X2, q3, rfl, rfl, hq3⟩
    have o3 := hq3.one
    obtain ⟨HC, hHC⟩ : ∃ HC, HC = HB ++ (X2 ++ [ABlk.cells false (bagV G.known q3)]) := ⟨_, rfl⟩
    have hBC : Both HC 3 0 2 1 w s t v q rv q2 pv es ck cs ps := by rw [hHC]; exact hBB.app
    have xC : HC[HA.length + X1.length]? = some (.cells false (bagV G.known q')) := by rw [hHC]; exact get_app xB
    have yC : HC[HB.length + X2.length]? = some (.cells false (bagV G.known q3)) := by
      rw [hHC, ← List.append_assoc, ← List.length_append]; exact get_new
    have f1 : frz HC 11 q' = some (roL valC G.vals) := by
      rw [hHC, hHB, List.append_assoc, List.append_assoc, ← List.append_assoc]
      exact (hq.app).frz (d := 9) valC_len val_flat
    have f3 : frz HC 11 q3 = some (roL valC G.vals) := by
      rw [hHC]
      rcases hq3 with g | g
      · exact (g.app).frz (d := 9) valC_len val_flat
      · rw [g]; exact frz_roL
    have hGl : G.vals.length < 4611686018427387904 := by
      rw [hG]
      split
      · exact bag_len ok
      · simp [zBagS]
    have kSame := fun H K => k15 (k := G.known) (k' := G.known) (l := G.vals) (l' := G.vals) hGl (H := H) (K := K)
    have hsame : bagSame G.known G.vals G.known G.vals = true := bagSame_refl (b := G)
    rw [hsame] at kSame
    obtain ⟨e1, e2, e3, e4⟩ := hBC.ends sim
    simp [← hHC, o3, cells_of xC, cells_of yC, f1, f3, kSame, e1, e2, e3, e4, hwi]
    exact nxt hJ (m - 1) (by omega) ⟨i + 1, s, t, v, q, rv, q2, pv, es, ck, cs, ps, by omega, hBC, ok, sim, rfl⟩
  have h0' : (c.what == 0) = false := by simp [h0]
  by_cases h1 : c.what = 1
  · -- a ring
    have h1' : (c.what == 1) = true := by simp [h1]
    obtain ⟨Hd, hHd⟩ : ∃ Hd, Hd = H ++ [ABlk.dead] := ⟨_, rfl⟩
    have hBd : Both Hd 3 0 2 1 w s t v q rv q2 pv es ck cs ps := by rw [hHd]; exact hB.app
    have hh1 : hide [H.length] HA = Hd := by rw [hHA, hHd]; exact hide_last
    have lenD : Hd.length = H.length + 1 := by rw [hHd]; simp
    have deadD : Hd[H.length]? = some .dead := by rw [hHd]; exact get_new
    have hfit : deedFits (ringD c.ring) := ⟨Nat.zero_le _, hcf⟩
    have hol : H.length < HA.length := by omega
    have s1 := c16 hBd.vl ok c.ring (roL intC c.ring.plan.targets) (.inr rfl) hcf
    simp [lp3_0, hi, idxSl_roL hi, hld, -load_tp, ← hHA, cA, h0', h1', hidB, hol, hh1]
    refine WCl.mono s1 ?_
    rintro _ H1 ⟨rfl, hs1⟩
    obtain ⟨v1, q1, es1, ck1, hB1⟩ := hBd.vstep hs1
    have dead1 : H1[H.length]? = some .dead := hs1.1.keep _ _ deadD (by omega) (by omega) (by omega) (by intro y e; cases e)
    have len1 : HA.length ≤ H1.length := by have := hs1.1.len; omega
    have hl1 : H.length < H1.length := lt_of dead1
    obtain ⟨U1, hU1⟩ : ∃ U1, U1 = H1.set H.length (.cells false (dV c.what c.self c.key c.data c.known c.ring.status c.ring.plan.version c.ring.plan.by' (roL intC c.ring.plan.targets) c.ring.epoch c.ring.owner)) := ⟨_, rfl⟩
    have u1 : unhide [H.length] HA H1 = U1 := by rw [hHA, hU1]; exact unhide_last hl1
    have cU : Heap.cells? U1 H.length = some (dV c.what c.self c.key c.data c.known c.ring.status c.ring.plan.version c.ring.plan.by' (roL intC c.ring.plan.targets) c.ring.epoch c.ring.owner) := by rw [hU1]; exact cells_of (List.getElem?_set_self hl1)
    have hh2 : hide [H.length] U1 = H1 := by rw [hU1]; exact hide_set dead1
    have lenU : U1.length = H1.length := by rw [hU1]; simp
    have s2 := c17 hB1.rl okR c.ring (roL intC c.ring.plan.targets) (.inr rfl) hcf
    rw [sim.wrE] at s2
    simp [len1, u1, cU, hh2]
    refine WCl.mono s2 ?_
    rintro _ H2 ⟨rfl, hs2⟩
    obtain ⟨rv2, q22, pv2, cs2, ps2, hB2⟩ := hB1.rstep hs2
    have dead2 : H2[H.length]? = some .dead := hs2.1.keep _ _ dead1 (by omega) (by omega) (by intro y e; cases e)
    have len2 : U1.length ≤ H2.length := by have := hs2.1.len; omega
    obtain ⟨U2, hU2⟩ : ∃ U2, U2 = H2.set H.length (.cells false (dV c.what c.self c.key c.data c.known c.ring.status c.ring.plan.version c.ring.plan.by' (roL intC c.ring.plan.targets) c.ring.epoch c.ring.owner)) := ⟨_, rfl⟩
    have u2 : unhide [H.length] U1 H2 = U2 := by rw [hU1, hU2]; exact unhide_set hl1 hs2.1.len
    have hBU : Both U2 3 0 2 1 w (wroteS s (ringD c.ring)) (wroteR t (ringD c.ring)) v1 q1 rv2 q22 pv2 es1 ck1 cs2 ps2 := by
      rw [hU2]
      exact hB2.mono fun k z hz hk => get_set hk (fun e => by subst e; rw [dead2] at hk; cases hk; exact hz rfl)
    have sim2 := sim.wrote (d := ringD c.ring) (.inl rfl) hfit
    obtain ⟨e1, e2, e3, e4⟩ := hBU.ends sim2
    simp [len2, u2, e1, e2, e3, e4, hwi]
    exact nxt hJ (m - 1) (by omega) ⟨i + 1, _, _, _, _, _, _, _, _, _, _, _, by omega, hBU, ok.wrote hfit, sim2, rfl⟩
  · -- a Put
    have h1' : (c.what == 1) = false := by simp [h1]
    simp [lp3_0, hi, idxSl_roL hi, hld, -load_tp, ← hHA, cA, h0', h1']
    refine WCl.mono (c18 hBA.vl ok c.self c.key c.known c.data) ?_
    rintro _ H5 ⟨rfl, hs5⟩
    obtain ⟨D, hD⟩ : ∃ D, D = deskO s c.self c.key c.known c.data := ⟨_, rfl⟩
    have okD : VOk D.s := by rw [hD]; exact ok.desk
    obtain ⟨d1, d2, d3, d4, d5⟩ := sim.desk ok (self := c.self) (key := c.key) (known := c.known) (data := c.data)
    rw [← hD] at hs5 d1 d2 d3 d4 d5 ⊢
    obtain ⟨v5, q5, es5, ck5, hB5⟩ := hBA.vstep hs5
    have g5 := hs5.1.keep _ _ gA (by omega) (by omega) (by omega) (by intro y e; cases e)
    obtain ⟨HB, hHB⟩ : ∃ HB, HB = H5 ++ [ABlk.cells false [I D.a, I D.c]] := ⟨_, rfl⟩
    have hBB : Both HB 3 0 2 1 w D.s t v5 q5 rv q2 pv es5 ck5 cs ps := by rw [hHB]; exact hB5.app
    have gB : HB[H.length]? = some (.cells false (dV c.what c.self c.key c.data c.known c.ring.status c.ring.plan.version c.ring.plan.by' (roL intC c.ring.plan.targets) c.ring.epoch c.ring.owner)) := by rw [hHB]; exact get_app g5
    have xB : HB[H5.length]? = some (.cells false [I D.a, I D.c]) := by rw [hHB]; exact get_new
    have l5 : H.length < H5.length := lt_of g5
    have z19 := c19 hBB.rl okR c.self c.key c.known c.data
    rw [d1, d2, d3, d4] at z19
    simp [← hHB, cells_of gB]
    refine WCl.mono z19 ?_
    rintro _ H6 ⟨rfl, hs6⟩
    obtain ⟨rv6, q6, pv6, cs6, ps6, hB6⟩ := hBB.rstep hs6
    have x6 := hs6.1.keep _ _ xB (by omega) (by omega) (by intro y e; cases e)
    obtain ⟨HC, hHC⟩ : ∃ HC, HC = H6 ++ [ABlk.cells false [I D.a, I D.c]] := ⟨_, rfl⟩
    have hBC : Both HC 3 0 2 1 w D.s (deskQ t c.self c.key c.known c.data).t v5 q5 rv6 q6 pv6 es5 ck5 cs6 ps6 := by rw [hHC]; exact hB6.app
    have xC : HC[H5.length]? = some (.cells false [I D.a, I D.c]) := by rw [hHC]; exact get_app x6
    have yC : HC[H6.length]? = some (.cells false [I D.a, I D.c]) := by rw [hHC]; exact get_new
    obtain ⟨e1, e2, e3, e4⟩ := hBC.ends d5
    simp [← hHC, cells_of xC, cells_of yC, eq_row2, e1, e2, e3, e4, hwi]
    exact nxt hJ (m - 1) (by omega) ⟨i + 1, _, _, _, _, _, _, _, _, _, _, _, by omega, hBC, okD, d5, rfl⟩
theorem fits_rows2 {α : Type} {f : α → List AV} {es : Nat} {e : Sh} {Q : α → Prop} (hf : ∀ r, Fits e r → ∃ x, r = f x ∧ Q x) : ∀ {rows : List (List AV)}, FitsRows es e rows → ∃ l : List α, rows.length = l.length ∧ rows.flatten = l.flatMap f ∧ ∀ x ∈ l, Q x
  | _, .nil _ _ => ⟨[], rfl, rfl, by simp⟩
  | _, .snoc h hl hr => by
    obtain ⟨l, h1, h2, h3⟩ := fits_rows2 hf h
    obtain ⟨x, rfl, hq⟩ := hf _ hr
    exact ⟨l ++ [x], by simp [h1], by simp [h2], fun y hy => by
      rcases List.mem_append.1 hy with q | q
      · exact h3 y q
      · rw [List.mem_singleton.1 q]; exact hq⟩
theorem fits_sl2 {α : Type} {f : α → List AV} {es bs : Nat} {e : Sh} {cs : List AV} {Q : α → Prop} (hf : ∀ r, Fits e r → ∃ x, r = f x ∧ Q x) (h : Fits (.sl es bs e) cs) : ∃ l : List α, cs = [roL f l] ∧ l.length ≤ maxLen ∧ l.length * bs ≤ reachBytes ∧ ∀ x ∈ l, Q x := by
  cases h with
  | sl h hm hb =>
    obtain ⟨l, h1, h2, h3⟩ := fits_rows2 hf h
    refine ⟨l, ?_, by omega, by rw [← h1]; exact hb, h3⟩
    unfold roL
    rw [h1, h2]
theorem deskPlays_law (cs : List AV) (h : FitsArgs [(false, .int .i64), (false, .sl 55 472 shDCall)] cs) : ∃ n H', callF envE (exec envE n) 3 cs 0 [] = some (.bool true, H') := by
  obtain ⟨a, rest, rfl, h1, t⟩ := fa_one h
  obtain ⟨c, rest, rfl, h2, t⟩ := fa_one t
  cases fa_nil t
  obtain ⟨x, e1, _⟩ := fits_int h1
  cases e1
  obtain ⟨l, e2, _, hl, hq⟩ := fits_sl2 (f := dcC) (Q := fun c => c.ring.plan.targets.length * 8 ≤ reachBytes) (fun r hr => of_dcall hr) h2
  cases e2
  have hrb : reachBytes = 140737488351232 := rfl
  exact law_of (deskPlays_pu x l (by omega) hq) (by simp)
end Go.Proofs.YtflgfiieaoeknaaGreatA

namespace Go.Proofs.YtflgfiieaoeknaaGreat.deskPlays
open Go.ChangeShapes Go.WideShapes Go.ChangeAt Go.RowKit
set_option linter.unusedVariables false
theorem own : ownKnob Tryz.prog.godebug = none := by kernel_rfl
set_option maxRecDepth 1000000 in
theorem lifted (os : Os) (started : os.Started) (H : Type) (enc : TypeId × Value → H) :
    ReturnsInHanded {} Tryz.checked os 3 .any (Rows.deskPlaysSpec.pre6 enc Tryz.prog Tryz.f3 Rows.deskPlaysRow.domain false) (Rows.deskPlaysSpec.post enc Tryz.prog Tryz.f3 false true false false) :=
  YtflgfiieaoeknaaGreatA.law_lifted (C := Tryz.checked) YtflgfiieaoeknaaGreatA.env_good (fd := YtflgfiieaoeknaaGreatA.fd3) (tb := 4) rfl own started (by kernel_rfl) Tryz.func3
    (ChangeSpec.witness6 (enc := enc) (C := Tryz.checked) false ⟨#[], #[((Tryz.prog.info? 3).bind (·.zero)).getD .nilFunc, ((Tryz.prog.info? 22).bind (·.zero)).getD .nilFunc], []⟩ 8 (by kernel_rfl) (by kernel_rfl) (by kernel_rfl) (by kernel_rfl))
    (by kernel_rfl) (by decide +kernel) (by kernel_rfl) rfl (by kernel_rfl) (by kernel_rfl) (fun ds h => by
      match ds, h with
      | [d0, d1], _ => rfl) YtflgfiieaoeknaaGreatA.deskPlays_law
theorem over : Rows.deskPlaysRow.holds Tryz.pinned (OpenSpec.ofChange Rows.deskPlaysSpec) :=
  OpenClaim.holds_of_wide 3 Tryz.f3 rfl rfl rfl rfl rfl rfl rfl ⟨rfl, rfl, rfl, rfl, rfl⟩ rfl rfl rfl rfl rfl (by kernel_rfl) Tryz.func3 (by kernel_rfl)
    (of_decide_eq_true (by kernel_rfl)) (by unfold Func.isWrapper; first | (rw [if_pos (by decide +kernel)]; kernel_rfl) | (rw [if_neg (by decide +kernel)]; exact ⟨rfl, rfl⟩))
    (fun os started H enc _ => lifted os started H enc)
end Go.Proofs.YtflgfiieaoeknaaGreat.deskPlays
namespace Go.Proofs.YtflgfiieaoeknaaGreat
/-- The row, under a short name, for the claim. -/
theorem deskPlays_holds : Rows.DeskPlaysSaid := deskPlays.over
#print axioms deskPlays_holds
end Go.Proofs.YtflgfiieaoeknaaGreat


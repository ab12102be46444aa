/- 'starlinglaw17.LedgerPlays' returns true for every room and every row of calls, and the calls read behind it as they read before: any deeds, Syncs, crashes: each answer, all that is there. Without further conditions. -/
import Derived.Test.YtkmikfhfjjmobaaRows
import Derived.Test.YtkmikfhfjjmobaaL10
import Derived.WalkKit
import Derived.ProofKit
import Derived.ChangeOld
namespace Go.Proofs.YtkmikfhfjjmobaaA
open Go
set_option linter.unusedSimpArgs false
set_option linter.unusedVariables false
set_option maxRecDepth 1000000
attribute [local simp] deed_zero

theorem deedsSame_refl {l : List Deed} : deedsSame l l = true := deedsSame_iff.2 ⟨rfl, fun i h1 _ => deedSame_refl⟩
@[simp] theorem nextH_some {B : List Nat} {v : AV} {H1 H : Heap} {T : Tmps} {dst : Option Nat} {next : Tmps → Heap → Prop} : nextH B (some (v, H1)) T H dst next = (H.length ≤ H1.length ∧ next (putT T dst v) (unhide B H H1)) := by rw [nextH]
@[simp] theorem among_ptr {B : List Nat} {b o : Nat} : amongP B (.ptr (some (b, o))) = (b ∈ B) := by simp [amongP]

set_option maxHeartbeats 8000000 in
theorem ledgerPlays_pu (room : Int) (l : List Call17) (hl : l.length < 4611686018427387904) (hb : ∀ c ∈ l, deedFits c.d ∧ c.d.key.length ≤ reachBytes) : Pu envE 4 [I room, roL call17C l] (.bool true) := by
  have hrb : reachBytes = 140737488351232 := rfl
  refine pu_is e4 rfl ?_
  rw [fr_init (by simp [fd4])]
  obtain ⟨g, hg⟩ := c23 l hl (fun c hc => (hb c hc).1)
  cases g
  · simp [fd4, b4, wPu_eq hg]
  obtain ⟨r, hr⟩ : ∃ r, r = max 0 (min room 3000) := ⟨_, rfl⟩
  have hr0 : 0 ≤ r := by omega
  have hr1 : r ≤ 3000 := by omega
  have hnew : ∀ K, WCl envE 25 [I room] 0 [] K = K (.ptr (some (0, 0))) [.cells false [.nilsl, I 0, I r]] := fun K => by
    have := WCl_eq (K := K) (c25 room 0 [])
    rw [← hr] at this
    exact this
  have hnew2 : ∀ K, WCl envE 26 [I room] 0 [.cells false [.nilsl, I 0, I r]] K = K (.ptr (some (1, 0))) [.cells false [.nilsl, I 0, I r], .cells false [I r, I 0, .nilsl]] := fun K => by
    have := WCl_eq (K := K) (c26 room 0 [.cells false [.nilsl, I 0, I r]])
    rw [← hr] at this
    exact this
  simp [fd4, b4, wPu_eq hg, hnew, hnew2]
  refine loop_go [1, 5, 6, 20, 21, 22] rfl (fun m vs H => ∃ i v rv ds s, m + i = l.length ∧ Led 0 H 0 v ds (s : Nat) r ∧ RLed H 1 rv ds (s : Nat) r ∧ s ≤ ds.length ∧ (ds.length : Int) ≤ r ∧ (∀ d ∈ ds, deedFits d) ∧ vs = [roL call17C l, .ptr (some (0, 0)), .ptr (some (1, 0)), roL call17C l, I l.length, I i]) ?_ l.length ⟨0, .nilsl, .nilsl, [], 0, rfl, ⟨rfl, .nil, by simp⟩, ⟨rfl, .nil⟩, by simp, by simp; omega, by simp, rfl⟩
  rintro J hJ m vs H f ⟨i, v, rv, ds, s, hm, hL, hR, hs, hds, hfit, rfl⟩
  have few := hL.few
  have hll : ds.length < 4611686018427387904 := by omega
  by_cases hi : i < l.length
  case neg =>
    simp [lp4_0, hi]
    refine WCl.mono (c41 hL hfit _ (Nat.le_refl _)) ?_
    rintro x0 _ ⟨X0, rfl, hD0⟩
    have hR0 := hR.app (X := X0)
    have f1 := hD0.frz (n := 9)
    have f2 := hR0.row.frz (d := 10) deedC_len deedC_flat
    simp [cells_of hR0.at', f1, f2, k40 hll hfit, deedsSame_refl]
  have hw := wrap_succ (i := i) (by omega)
  obtain ⟨c, hc⟩ : ∃ c, c = l[i] := ⟨_, rfl⟩
  have hld := load_roL call17_len hi (H := H)
  obtain ⟨hcf, hck⟩ := hb l[i] (List.getElem_mem _)
  rw [← hc] at hld hcf hck
  have h0l : 0 < l.length := by omega
  obtain ⟨c0, hc0⟩ : ∃ c0, c0 = l[0] := ⟨_, rfl⟩
  obtain ⟨hcf1, hcf2⟩ := hcf
  obtain ⟨Ha, hHa⟩ : ∃ Ha, Ha = H ++ [.cells false (call17C c)] := ⟨_, rfl⟩
  have hLa : Led 0 Ha 0 v ds (s : Nat) r := by rw [hHa]; exact hL.app
  have hRa : RLed Ha 1 rv ds (s : Nat) r := by rw [hHa]; exact hR.app
  have cO : Ha[H.length]? = some (.cells false (call17C c)) := by rw [hHa]; exact get_new
  have hol : H.length < Ha.length := lt_of cO
  have o0 : H.length ≠ 0 := by have := lt_of hL.at'; omega
  have o1 : H.length ≠ 1 := by have := lt_of hR.at'; omega
  have cc := cells_of cO
  have i0 : idxSlAV 58 (I 0) (roL call17C l) = some (.tp (l.flatMap call17C)) := by
    have := idxSl_roL (f := call17C) (es := 58) (k := .i64) h0l
    simpa using this
  have ld0 : ∀ H, loadAt H (some 56) (.tp ((l.flatMap call17C).drop 2)) = some (.agg (deedC c0.d)) := fun H => by
    cases l with
    | nil => simp at h0l
    | cons x l =>
      have e : c0 = x := by rw [hc0]; rfl
      rw [e, List.flatMap_cons]
      rfl
  have fz : ∀ (H : Heap) (d : Deed), mapO (frz H 11) (deedC d) = some (deedC d) := fun H d => deedC_frz (d := 10) d
  have may1 : ∀ H K, wPu envE 27 (some [.agg (deedC c.d)]) H K = K (.bool (deedMay c.d)) H := fun H K => (wPu_eq (c27 c.d (by omega) (by omega) (by omega))).trans (by simp)
  have may2 : ∀ H K, wPu envE 28 (some [.agg (deedC c.d)]) H K = K (.bool (deedMay c.d)) H := fun H K => k28 (by omega) (by omega) (by omega)
  have sm1 : ∀ H K, wPu envE 29 (some [.agg (deedC c.d), .agg (deedC c0.d)]) H K = K (.bool (deedSame c.d c0.d)) H := fun H K => (wPu_eq (c29 c.d c0.d (by omega) (by omega))).trans (by simp)
  have sm2 : ∀ H K, wPu envE 30 (some [.agg (deedC c.d), .agg (deedC c0.d)]) H K = K (.bool (deedSame c.d c0.d)) H := fun H K => (wPu_eq (c30 c.d c0.d (by omega) (by omega))).trans (by simp)
  have t2 : ∀ {α : Type} {x : α}, (if True then x else x) = x := by simp
  by_cases h0 : c.what = 0
  · obtain ⟨q, hq⟩ : ∃ q, q = IntKind.i64.wrap ((ds.length : Int) - s) := ⟨_, rfl⟩
    obtain ⟨Hb, hHb⟩ : ∃ Hb, Hb = Ha.set 0 (.cells false [v, I ds.length, I r]) := ⟨_, rfl⟩
    have hRb : RLed Hb 1 rv ds (s : Nat) r := by
      rw [hHb]
      exact ⟨get_set hRa.at' (by omega), hRa.row.setF hLa.at'⟩
    obtain ⟨Hc, hHc⟩ : ∃ Hc, Hc = Hb.set 1 (.cells false [I r, I ds.length, rv]) := ⟨_, rfl⟩
    have hLb : Led 0 Hb 0 v ds (ds.length : Nat) r := by rw [hHb]; exact hLa.sync _
    have hLc : Led 0 Hc 0 v ds (ds.length : Nat) r := by rw [hHc]; exact ⟨get_set hLb.at' (by omega), hLb.row.setF hRb.at', hLb.few⟩
    have hRc : RLed Hc 1 rv ds (ds.length : Nat) r := by rw [hHc]; exact ⟨by rw [List.getElem?_set_self (lt_of hRb.at')], hRb.row.setF hRb.at'⟩
    have s1 : ∀ K, WCl envE 31 [.ptr (some (0, 0))] 0 Ha K = K (I q) Hb := fun K => by rw [hHb, hq]; exact WCl_eq (c31 hLa.at' hLa.row.len)
    have s2 : ∀ K, WCl envE 32 [.ptr (some (1, 0))] 0 Hb K = K (I q) Hc := fun K => by rw [hHc, hq]; exact WCl_eq (c32 hRb.at' hRb.row.len)
    simp [-deedC_eq, lp4_0, hi, idxSl_roL hi, hld, call17_len, call17_one, call17_over, -load_tp, ← hHa, cc, call17_f0, call17_f2, fz, may1, may2, i0, ld0, sm1, sm2, h0, s1, s2]
    have hdsl : ds.length < 4611686018427387904 := by omega
    obtain ⟨n, hn⟩ : ∃ n, n = ds.length := ⟨_, rfl⟩
    have hrw : IntKind.i64.wrap (r - n) = r - n := by rw [wrap_i64] <;> omega
    have z1 : ∀ K, ∀ lim, WCl envE 37 [.ptr (some (0, 0))] lim Hc K = K (I n) Hc := fun K lim => by rw [hn]; exact WCl_eq (c37 hLc.at' hLc.row.len lim)
    have z2 : ∀ K, ∀ lim, WCl envE 38 [.ptr (some (0, 0))] lim Hc K = K (I ds.length) Hc := fun K lim => WCl_eq (c38 hLc.at' lim)
    have z3 : ∀ K, WCl envE 39 [.ptr (some (0, 0))] Hc.length Hc K = K (I (IntKind.i64.wrap (r - n))) Hc := fun K => by rw [hn]; exact WCl_eq (c39 hLc.at' hLc.row.len _ (Nat.le_refl _))
    have z4 := cells_of hRc.at'
    have z5 : lenSlAV rv = some (I n) := by rw [hn]; exact hRc.row.len
    by_cases h8 : (i : Int).tmod 8 = 0
    · simp [z1, z2, z3, z4, z5, h8, hrw]
      refine WCl.mono (c41 hLc hfit _ (Nat.le_refl _)) ?_
      rintro x9 _ ⟨X9, rfl, hD9⟩
      have hR9 := hRc.app (X := X9)
      have f1 := hD9.frz (n := 9)
      have f2 := hR9.row.frz (d := 10) deedC_len deedC_flat
      simp [cells_of hR9.at', f1, f2, k40 hdsl hfit, deedsSame_refl, hw]
      exact nxt hJ (m - 1) (by omega) ⟨i + 1, v, rv, ds, ds.length, by omega, hLc.app, hR9, by omega, hds, hfit, rfl⟩
    · simp [z1, z2, z3, z4, z5, h8, hrw, hw]
      exact nxt hJ (m - 1) (by omega) ⟨i + 1, v, rv, ds, ds.length, by omega, hLc, hRc, by omega, hds, hfit, rfl⟩
  by_cases h1 : c.what = 1
  · obtain ⟨k, hk⟩ : ∃ k, k = stayN c.n (ds.length - s) := ⟨_, rfl⟩
    obtain ⟨j, hj⟩ : ∃ j, j = s + k := ⟨_, rfl⟩
    have hkl : k ≤ ds.length - s := by rw [hk, stayN]; omega
    have hjl : j ≤ ds.length := by omega
    obtain ⟨q, hq⟩ : ∃ q, q = ds.length - j := ⟨_, rfl⟩
    obtain ⟨B, hB⟩ : ∃ B, B = [H.length] := ⟨_, rfl⟩
    have oB : H.length ∈ B := by rw [hB]; simp
    obtain ⟨Hh, hHh⟩ : ∃ Hh, Hh = Go.Proofs.YtkmikfhfjjmobaaA.hide B Ha := ⟨_, rfl⟩
    have tr1 : ∀ (k : Nat) (y : List AV), Ha[k]? = some (.cells true y) → Hh[k]? = some (.cells true y) := fun k y q => by rw [hHh, hB]; exact hide1_true cO q
    have g1 : ∀ k, k ≠ H.length → Hh[k]? = Ha[k]? := fun k q => by rw [hHh, hB]; exact hide1_get q
    have hLh : Led 0 Hh 0 v ds (s : Nat) r := hLa.to (g1 0 (Ne.symm o0)) tr1
    obtain ⟨Hi, hHi⟩ : ∃ Hi, Hi = Hh.set 0 (.cells false [subAt v j, I j, I r]) := ⟨_, rfl⟩
    have s1 : ∀ K, WCl envE 33 [.ptr (some (0, 0)), I c.n] 0 Hh K = K (I q) Hi := fun K => by
      have := c33 hLh hs c.n
      rw [← hk, ← hj, show ds.length - s - k = q from by omega, ← hHi] at this
      exact WCl_eq this
    have hLi : Led 0 Hi 0 (subAt v j) (ds.take j) (j : Nat) r := by rw [hHi]; exact hLh.crash j hjl _
    have lenh : Hh.length = Ha.length := by rw [hHh]; exact hide_len
    have leni : Hi.length = Ha.length := by rw [hHi, List.length_set, lenh]
    have leni' : Ha.length ≤ Hi.length := by omega
    have dead1 : Hi[H.length]? = some .dead := by rw [hHi]; exact get_set (by rw [hHh, hB]; exact hide1_self hol) (Ne.symm o0)
    obtain ⟨Hb, hHb⟩ : ∃ Hb, Hb = unhide B Ha Hi := ⟨_, rfl⟩
    have gb : ∀ k, k ≠ H.length → Hb[k]? = Hi[k]? := fun k q => by rw [hHb, hB]; exact unhide1_get hol leni' q
    have gbo : Hb[H.length]? = some (.cells false (call17C c)) := by rw [hHb, hB, unhide1_self hol leni', cO]
    have trb : ∀ (k : Nat) (y : List AV), Hi[k]? = some (.cells true y) → Hb[k]? = some (.cells true y) := fun k y q => by rw [hHb, hB]; exact unhide1_true hol leni' dead1 q
    have hLb : Led 0 Hb 0 (subAt v j) (ds.take j) (j : Nat) r := hLi.to (gb 0 (Ne.symm o0)) trb
    have hRh : RLed Hh 1 rv ds (s : Nat) r := hRa.to (g1 1 (Ne.symm o1)) tr1
    have hRi : RLed Hi 1 rv ds (s : Nat) r := by rw [hHi]; exact ⟨get_set hRh.at' (by omega), hRh.row.setF hLh.at'⟩
    have hRb : RLed Hb 1 rv ds (s : Nat) r := hRi.to (gb 1 (Ne.symm o1)) trb
    have ccb := cells_of gbo
    have holb := lt_of gbo
    have lenb : Hb.length = Ha.length := by rw [hHb, unhide_len, leni]
    obtain ⟨Hk, hHk⟩ : ∃ Hk, Hk = Go.Proofs.YtkmikfhfjjmobaaA.hide B Hb := ⟨_, rfl⟩
    have trk : ∀ (k : Nat) (y : List AV), Hb[k]? = some (.cells true y) → Hk[k]? = some (.cells true y) := fun k y q => by rw [hHk, hB]; exact hide1_true gbo q
    have gk : ∀ k, k ≠ H.length → Hk[k]? = Hb[k]? := fun k q => by rw [hHk, hB]; exact hide1_get q
    have hLk : Led 0 Hk 0 (subAt v j) (ds.take j) (j : Nat) r := hLb.to (gk 0 (Ne.symm o0)) trk
    have hRk : RLed Hk 1 rv ds (s : Nat) r := hRb.to (gk 1 (Ne.symm o1)) trk
    have s2 := c34 hRk hs (by omega) c.n
    rw [← hk, ← hj, show ds.length - s - k = q from by omega] at s2
    have lenk : Hk.length = Hb.length := by rw [hHk]; exact hide_len
    simp [-deedC_eq, lp4_0, hi, idxSl_roL hi, hld, call17_len, call17_one, call17_over, -load_tp, ← hHa, cc, call17_f0, call17_f2, call17_t1, fz, may1, may2, i0, ld0, sm1, sm2, h0, h1, hidB, hol, ← hB, oB, ← hHh, s1, lenh, leni, ← hHb, ccb, ← hHk, lenb]
    refine WCl.mono s2 ?_
    rintro _ H2 ⟨rfl, len2, keep2, rv2, hR2, off2⟩
    have dead2 : H2[H.length]? = some .dead := keep2 H.length _ (by rw [hHk, hB]; exact hide1_self holb) o1
    have hL2 : Led 0 H2 0 (subAt v j) (ds.take j) (j : Nat) r := hLk.to ((keep2 0 _ hLk.at' (by omega)).trans hLk.at'.symm) fun k y q => keep2 k _ q (fun e => by subst e; rw [hRk.at'] at q; cases q)
    have len2' : Hb.length ≤ H2.length := by omega
    obtain ⟨H3, hH3⟩ : ∃ H3, H3 = unhide B Hb H2 := ⟨_, rfl⟩
    have g3 : ∀ k, k ≠ H.length → H3[k]? = H2[k]? := fun k q => by rw [hH3, hB]; exact unhide1_get holb len2' q
    have tr3 : ∀ (k : Nat) (y : List AV), H2[k]? = some (.cells true y) → H3[k]? = some (.cells true y) := fun k y q => by rw [hH3, hB]; exact unhide1_true holb len2' dead2 q
    have hL3 : Led 0 H3 0 (subAt v j) (ds.take j) (j : Nat) r := hL2.to (g3 0 (Ne.symm o0)) tr3
    have hR3 : RLed H3 1 rv2 (ds.take j) (j : Nat) r := hR2.to (g3 1 (Ne.symm o1)) tr3
    have hfit3 : ∀ d ∈ ds.take j, deedFits d := fun d hd => hfit d (List.mem_of_mem_take hd)
    have hdl : (ds.take j).length = j := by rw [List.length_take]; omega
    have hds3 : ((ds.take j).length : Int) ≤ r := by omega
    have len2a : Ha.length ≤ H2.length := by omega
    simp [← hH3, len2', len2a]
    have hdsl : (ds.take j).length < 4611686018427387904 := by omega
    obtain ⟨n, hn⟩ : ∃ n, n = (ds.take j).length := ⟨_, rfl⟩
    have hrw : IntKind.i64.wrap (r - n) = r - n := by rw [wrap_i64] <;> omega
    have z1 : ∀ K, ∀ lim, WCl envE 37 [.ptr (some (0, 0))] lim H3 K = K (I n) H3 := fun K lim => by rw [hn]; exact WCl_eq (c37 hL3.at' hL3.row.len lim)
    have z2 : ∀ K, ∀ lim, WCl envE 38 [.ptr (some (0, 0))] lim H3 K = K (I j) H3 := fun K lim => WCl_eq (c38 hL3.at' lim)
    have z3 : ∀ K, WCl envE 39 [.ptr (some (0, 0))] H3.length H3 K = K (I (IntKind.i64.wrap (r - n))) H3 := fun K => by rw [hn]; exact WCl_eq (c39 hL3.at' hL3.row.len _ (Nat.le_refl _))
    have z4 := cells_of hR3.at'
    have z5 : lenSlAV rv2 = some (I n) := by rw [hn]; exact hR3.row.len
    by_cases h8 : (i : Int).tmod 8 = 0
    · simp [z1, z2, z3, z4, z5, h8, hrw]
      refine WCl.mono (c41 hL3 hfit3 _ (Nat.le_refl _)) ?_
      rintro x9 _ ⟨X9, rfl, hD9⟩
      have hR9 := hR3.app (X := X9)
      have f1 := hD9.frz (n := 9)
      have f2 := hR9.row.frz (d := 10) deedC_len deedC_flat
      simp [cells_of hR9.at', f1, f2, k40 hdsl hfit3, deedsSame_refl, hw]
      exact nxt hJ (m - 1) (by omega) ⟨i + 1, (subAt v j), rv2, (ds.take j), j, by omega, hL3.app, hR9, by omega, hds3, hfit3, rfl⟩
    · simp [z1, z2, z3, z4, z5, h8, hrw, hw]
      exact nxt hJ (m - 1) (by omega) ⟨i + 1, (subAt v j), rv2, (ds.take j), j, by omega, hL3, hR3, by omega, hds3, hfit3, rfl⟩
  · obtain ⟨B, hB⟩ : ∃ B, B = [H.length] := ⟨_, rfl⟩
    have oB : H.length ∈ B := by rw [hB]; simp
    obtain ⟨Hh, hHh⟩ : ∃ Hh, Hh = Go.Proofs.YtkmikfhfjjmobaaA.hide B Ha := ⟨_, rfl⟩
    have tr1 : ∀ (k : Nat) (y : List AV), Ha[k]? = some (.cells true y) → Hh[k]? = some (.cells true y) := fun k y q => by rw [hHh, hB]; exact hide1_true cO q
    have g1 : ∀ k, k ≠ H.length → Hh[k]? = Ha[k]? := fun k q => by rw [hHh, hB]; exact hide1_get q
    have hLh : Led 0 Hh 0 v ds (s : Nat) r := hLa.to (g1 0 (Ne.symm o0)) tr1
    have hRh : RLed Hh 1 rv ds (s : Nat) r := hRa.to (g1 1 (Ne.symm o1)) tr1
    have lenh : Hh.length = Ha.length := by rw [hHh]; exact hide_len
    have hm1 : deedM c.d (roL valC c.d.bag.vals) (roL intC c.d.ring.plan.targets) = deedC c.d := rfl
    have hwr := c35 hLh (Nat.zero_le _) hr0 hr1 hds c.d (roL valC c.d.bag.vals) (roL intC c.d.ring.plan.targets) ⟨hcf1, hcf2⟩ (by omega) (fun _ => frz_roL) (fun _ => frz_roL) rfl rfl
    rw [hm1] at hwr
    simp [-deedC_eq, lp4_0, hi, idxSl_roL hi, hld, call17_len, call17_one, call17_over, -load_tp, ← hHa, cc, call17_f0, call17_f2, call17_t1, fz, may1, may2, i0, ld0, sm1, sm2, h0, h1, hidB, hol, ← hB, oB, ← hHh]
    refine WCl.mono hwr ?_
    rintro _ Hi ⟨rfl, leni, keep1, hif⟩
    have offvo : Off v H.length := hLa.row.off cO
    have offv1 : Off v 1 := hLa.row.off hRa.at'
    have dead1 : Hi[H.length]? = some .dead := keep1 H.length _ (by rw [hHh, hB]; exact hide1_self hol) o0 offvo
    have hRi : RLed Hi 1 rv ds (s : Nat) r := hRh.beside hLh.row offv1 (by omega) keep1 ⟨_, hLh.at'⟩
    have leni' : Ha.length ≤ Hi.length := by omega
    obtain ⟨v1, ds1, hLi, hne, hfit1, hds1, hcase⟩ : ∃ v1 ds1, Led 0 Hi 0 v1 ds1 (s : Nat) r ∧ (ds1 = [] → ds = []) ∧ (∀ d ∈ ds1, deedFits d) ∧ (ds1.length : Int) ≤ r ∧ (writeE c.d ds r = 0 ∧ ds1 = ds ++ [c.d] ∨ writeE c.d ds r ≠ 0 ∧ ds1 = ds) := by
      by_cases hz : writeE c.d ds r = 0
      · rw [if_pos hz] at hif
        obtain ⟨v', q1, q2⟩ := hif
        have hlt : (ds.length : Int) < r := by
          have hz2 := hz
          unfold writeE at hz2
          split at hz2
          · split at hz2 <;> omega
          · omega
        refine ⟨v', ds ++ [c.d], q1, by simp, fun d hd => ?_, by simp; omega, .inl ⟨hz, rfl⟩⟩
        rcases List.mem_append.1 hd with q | q
        · exact hfit d q
        · rw [List.mem_singleton.1 q]; exact ⟨hcf1, hcf2⟩
      · rw [if_neg hz] at hif
        exact ⟨v, ds, hif, id, hfit, hds, .inr ⟨hz, rfl⟩⟩
    obtain ⟨Hb, hHb⟩ : ∃ Hb, Hb = unhide B Ha Hi := ⟨_, rfl⟩
    have gb : ∀ k, k ≠ H.length → Hb[k]? = Hi[k]? := fun k q => by rw [hHb, hB]; exact unhide1_get hol leni' q
    have gbo : Hb[H.length]? = some (.cells false (call17C c)) := by rw [hHb, hB, unhide1_self hol leni', cO]
    have trb : ∀ (k : Nat) (y : List AV), Hi[k]? = some (.cells true y) → Hb[k]? = some (.cells true y) := fun k y q => by rw [hHb, hB]; exact unhide1_true hol leni' dead1 q
    have hLb : Led 0 Hb 0 v1 ds1 (s : Nat) r := hLi.to (gb 0 (Ne.symm o0)) trb
    have hRb : RLed Hb 1 rv ds (s : Nat) r := hRi.to (gb 1 (Ne.symm o1)) trb
    have ccb := cells_of gbo
    have holb := lt_of gbo
    have lenb : Hb.length = Hi.length := by rw [hHb, unhide_len]
    obtain ⟨Hk, hHk⟩ : ∃ Hk, Hk = Go.Proofs.YtkmikfhfjjmobaaA.hide B Hb := ⟨_, rfl⟩
    have trk : ∀ (k : Nat) (y : List AV), Hb[k]? = some (.cells true y) → Hk[k]? = some (.cells true y) := fun k y q => by rw [hHk, hB]; exact hide1_true gbo q
    have gk : ∀ k, k ≠ H.length → Hk[k]? = Hb[k]? := fun k q => by rw [hHk, hB]; exact hide1_get q
    have hLk : Led 0 Hk 0 v1 ds1 (s : Nat) r := hLb.to (gk 0 (Ne.symm o0)) trk
    have hRk : RLed Hk 1 rv ds (s : Nat) r := hRb.to (gk 1 (Ne.symm o1)) trk
    have lenk : Hk.length = Hb.length := by rw [hHk]; exact hide_len
    have s2 := c36 hRk hr1 hds c.d ⟨hcf1, hcf2⟩ (by omega)
    have leni'' : Ha.length ≤ Hb.length := by omega
    simp [-deedC_eq, leni', leni'', ← hHb, oB, ccb, call17_len, call17_f2, ← hHk]
    refine WCl.mono s2 ?_
    rintro _ H2 ⟨rfl, len2, keep2, hif2⟩
    have offro : Off rv H.length := off_falseR hRk.row (show Hk[H.length]? = some .dead from by rw [hHk, hB]; exact hide1_self holb)
    have offr0 : Off rv 0 := off_falseR hRk.row hLk.at'
    have dead2 : H2[H.length]? = some .dead := keep2 H.length _ (by rw [hHk, hB]; exact hide1_self holb) o1 offro
    have hL2 : Led 0 H2 0 v1 ds1 (s : Nat) r := hLk.beside hRk.row offr0 (by omega) keep2 ⟨_, hRk.at'⟩ hne
    obtain ⟨rv2, hR2⟩ : ∃ rv2, RLed H2 1 rv2 ds1 (s : Nat) r := by
      rcases hcase with ⟨q1, q2⟩ | ⟨q1, q2⟩
      · rw [if_pos q1] at hif2
        obtain ⟨v', q3, _⟩ := hif2
        exact ⟨v', by rw [q2]; exact q3⟩
      · rw [if_neg q1] at hif2
        exact ⟨rv, by rw [q2]; exact hif2⟩
    have len2' : Hb.length ≤ H2.length := by omega
    obtain ⟨H3, hH3⟩ : ∃ H3, H3 = unhide B Hb H2 := ⟨_, rfl⟩
    have g3 : ∀ k, k ≠ H.length → H3[k]? = H2[k]? := fun k q => by rw [hH3, hB]; exact unhide1_get holb len2' q
    have tr3 : ∀ (k : Nat) (y : List AV), H2[k]? = some (.cells true y) → H3[k]? = some (.cells true y) := fun k y q => by rw [hH3, hB]; exact unhide1_true holb len2' dead2 q
    have hL3 : Led 0 H3 0 v1 ds1 (s : Nat) r := hL2.to (g3 0 (Ne.symm o0)) tr3
    have hR3 : RLed H3 1 rv2 ds1 (s : Nat) r := hR2.to (g3 1 (Ne.symm o1)) tr3
    have hsl : s ≤ ds1.length := by
      rcases hcase with ⟨_, q⟩ | ⟨_, q⟩
      · rw [q, List.length_append]; omega
      · rw [q]; exact hs
    simp [← hH3, len2']
    have hdsl : ds1.length < 4611686018427387904 := by omega
    obtain ⟨n, hn⟩ : ∃ n, n = ds1.length := ⟨_, rfl⟩
    have hrw : IntKind.i64.wrap (r - n) = r - n := by rw [wrap_i64] <;> omega
    have z1 : ∀ K, ∀ lim, WCl envE 37 [.ptr (some (0, 0))] lim H3 K = K (I n) H3 := fun K lim => by rw [hn]; exact WCl_eq (c37 hL3.at' hL3.row.len lim)
    have z2 : ∀ K, ∀ lim, WCl envE 38 [.ptr (some (0, 0))] lim H3 K = K (I s) H3 := fun K lim => WCl_eq (c38 hL3.at' lim)
    have z3 : ∀ K, WCl envE 39 [.ptr (some (0, 0))] H3.length H3 K = K (I (IntKind.i64.wrap (r - n))) H3 := fun K => by rw [hn]; exact WCl_eq (c39 hL3.at' hL3.row.len _ (Nat.le_refl _))
    have z4 := cells_of hR3.at'
    have z5 : lenSlAV rv2 = some (I n) := by rw [hn]; exact hR3.row.len
    by_cases h8 : (i : Int).tmod 8 = 0
    · simp [z1, z2, z3, z4, z5, h8, hrw]
      refine WCl.mono (c41 hL3 hfit1 _ (Nat.le_refl _)) ?_
      rintro x9 _ ⟨X9, rfl, hD9⟩
      have hR9 := hR3.app (X := X9)
      have f1 := hD9.frz (n := 9)
      have f2 := hR9.row.frz (d := 10) deedC_len deedC_flat
      simp [cells_of hR9.at', f1, f2, k40 hdsl hfit1, deedsSame_refl, hw]
      exact nxt hJ (m - 1) (by omega) ⟨i + 1, v1, rv2, ds1, s, by omega, hL3.app, hR9, by omega, hds1, hfit1, rfl⟩
    · simp [z1, z2, z3, z4, z5, h8, hrw, hw]
      exact nxt hJ (m - 1) (by omega) ⟨i + 1, v1, rv2, ds1, s, by omega, hL3, hR3, by omega, hds1, hfit1, rfl⟩
theorem ledgerPlays_law (cs : List AV) (h : FitsArgs [(false, .int .i64), (false, .sl 58 504 shCall17)] cs) : ∃ n H', callF envE (exec envE n) 4 cs 0 [] = some (.bool true, H') := by
  obtain ⟨a, rest, rfl, h1, t⟩ := fa_one h
  obtain ⟨c, rest, rfl, h2, t⟩ := fa_one t
  cases fa_nil t
  obtain ⟨x, e, _⟩ := fits_int h1
  cases e
  obtain ⟨l, e2, _, hl, hq⟩ := fits_sl2 (f := call17C) (Q := fun c => deedFits c.d ∧ c.d.key.length ≤ reachBytes) (fun r hr => of_call17 hr) h2
  cases e2
  have hrb : reachBytes = 140737488351232 := rfl
  exact law_of (ledgerPlays_pu x l (by omega) hq) (by simp)
end Go.Proofs.YtkmikfhfjjmobaaA

namespace Go.Proofs.Ytkmikfhfjjmobaa.ledgerPlays
open Go.ChangeShapes Go.WideShapes Go.ChangeAt Go.RowKit
set_option linter.unusedVariables false
theorem own : ownKnob Try.prog.godebug = none := by kernel_rfl
set_option maxRecDepth 1000000 in
theorem lifted (os : Os) (started : os.Started) (H : Type) (enc : TypeId × Value → H) :
    ReturnsInHanded {} Try.checked os 4 .any (Rows.ledgerPlaysSpec.pre6 enc Try.prog Try.f4 Rows.ledgerPlaysRow.domain false) (Rows.ledgerPlaysSpec.post enc Try.prog Try.f4 false true false false) :=
  YtkmikfhfjjmobaaA.law_lifted (C := Try.checked) YtkmikfhfjjmobaaA.env_good (fd := YtkmikfhfjjmobaaA.fd4) (tb := 4) rfl own started (by kernel_rfl) Try.func4
    (ChangeSpec.witness6 (enc := enc) (C := Try.checked) false ⟨#[], #[((Try.prog.info? 3).bind (·.zero)).getD .nilFunc, ((Try.prog.info? 42).bind (·.zero)).getD .nilFunc], []⟩ 8 (by kernel_rfl) (by kernel_rfl) (by kernel_rfl) (by kernel_rfl))
    (by kernel_rfl) (by decide +kernel) (by kernel_rfl) rfl (by kernel_rfl) (by kernel_rfl) (fun ds h => by
      match ds, h with
      | [d0, d1], _ => rfl) YtkmikfhfjjmobaaA.ledgerPlays_law
theorem over : Rows.ledgerPlaysRow.holds Try.pinned (OpenSpec.ofChange Rows.ledgerPlaysSpec) :=
  OpenClaim.holds_of_wide 4 Try.f4 rfl rfl rfl rfl rfl rfl rfl ⟨rfl, rfl, rfl, rfl, rfl⟩ rfl rfl rfl rfl rfl (by kernel_rfl) Try.func4 (by kernel_rfl)
    (of_decide_eq_true (by kernel_rfl)) (by unfold Func.isWrapper; first | (rw [if_pos (by decide +kernel)]; kernel_rfl) | (rw [if_neg (by decide +kernel)]; exact ⟨rfl, rfl⟩))
    (fun os started H enc _ => lifted os started H enc)
end Go.Proofs.Ytkmikfhfjjmobaa.ledgerPlays
namespace Go.Proofs.Ytkmikfhfjjmobaa
/-- The row, under a short name, for the claim. -/
theorem ledgerPlays_holds : Rows.LedgerPlaysSaid := ledgerPlays.over
#print axioms ledgerPlays_holds
end Go.Proofs.Ytkmikfhfjjmobaa


/- What the reference's vault does: write, SetRing, Sync. No statement about the program is proved here. -/
import Derived.Test.YtflgfiieaoeknaaGreatX4
namespace Go.Proofs.YtflgfiieaoeknaaGreatA
open Go
set_option linter.unusedSimpArgs false
set_option linter.unusedVariables false
set_option maxRecDepth 1000000
attribute [local simp] deed_zero ring_zero

def wrE (d : Deed) (n : Nat) (cap : Int) : Int := if deedMay d then (if cap - n = 0 then 5 else 0) else 1
theorem rd_form {α : Type} {H : Heap} {es : Nat} {f : α → List AV} {l : List α} {q : AV} (h : Rd H es f l q) : (∃ b o n s, q = .sl b o n s) ∨ q = .nilsl ∨ ∃ n cs, q = .ro n cs := by
  rcases h with (⟨_, rfl⟩ | ⟨_, b, _, rfl, _⟩) | rfl
  · exact .inr (.inl rfl)
  · exact .inl ⟨_, _, _, _, rfl⟩
  · exact .inr (.inr ⟨_, _, rfl⟩)
theorem deedM_DR {H : Heap} {d : Deed} {q1 q2 : AV} (h : Rd H 3 valC d.bag.vals q1) : isDR (deedM d q1 q2) = true := by
  have e : (deedM d q1 q2)[11]? = some q1 := rfl
  unfold isDR
  rw [e]
  rcases rd_form h with ⟨_, _, _, _, rfl⟩ | rfl | ⟨_, _, rfl⟩ <;> rfl
theorem c96 {H : Heap} {b w : Nat} {t : RSt} {rv q pv : AV} {cs : List DCell9} {ps : List PR} (h : RV H b w t rv q pv cs ps) (ok : ROk t) (d : Deed) (q1 q2 : AV) (h1 : Rd H 3 valC d.bag.vals q1) (h2 : Rd H 1 intC d.ring.plan.targets q2) (hf : deedFits d) (hk : d.key.length < 4611686018427387904) :
    WCl envE 96 [.ptr (some (b, 0)), .agg (deedM d q1 q2)] 0 H fun x H' => x = I (wrE d t.n t.cap) ∧ KR H H' b w ∧
      (if wrE d t.n t.cap = 0 then ∃ rv' cs', RV H' b w { t with n := t.n + 1 } rv' q pv cs' ps else RV H' b w t rv q pv cs ps) := by
  have hrb : reachBytes = 140737488351232 := rfl
  obtain ⟨f1, f2⟩ := hf
  have hl1 : d.bag.vals.length < 4611686018427387904 := by omega
  have hl2 : d.ring.plan.targets.length < 4611686018427387904 := by omega
  refine cl_of e96 rfl ?_
  rw [fr_init (by simp [fd96])]
  have hc := get_app (X := [.cells false (deedM d q1 q2)]) h.led
  have hone : (deedM d q1 q2).all AV.one = true := deedM_one h1.one h2.one
  have hone2 : (∀ x : AV, x ∈ deedM d q1 q2 → x.one = true) = True := eq_true (List.all_eq_true.1 hone)
  have hlen : (deedM d q1 q2).length = 56 := deedM_len
  have htake : (deedM d q1 q2).take 56 = deedM d q1 q2 := List.take_of_length_le (by omega)
  have hover : ∀ l : List AV, l.length = 56 → setFrom l 0 (deedM d q1 q2) = deedM d q1 q2 := fun l hl => setFrom_all _ _ (by rw [hl, hlen])
  have hfd : ∀ X, mapO (frz (H ++ X) 11) (deedM d q1 q2) = some (deedC d) := fun X => by
    rw [show deedM d q1 q2 = _ from rfl, deedM, deedV_frz (d := 10) ((h1.app (X := X)).frz (d := 9) valC_len val_flat) ((h2.app (X := X)).frz (d := 9) intC_len int_flat)]
    rfl
  have hmay : ∀ H K, wPu envE 134 (some [.agg (deedC d)]) H K = K (.bool (deedMay d)) H := fun H K => k134 hl1 hl2 hk
  have hle := ok.le
  have hrl := h.row.len
  rw [h.cn] at hrl
  by_cases hm : deedMay d = true
  case neg =>
    simp [-deedC_eq, fd96, b96, hone, hone2, hlen, htake, hfd, hmay, hm, wrE]
    exact ⟨.app, h.app⟩
  by_cases hz : t.cap - t.n = 0
  · have hz' : t.cap ≤ t.n := by omega
    simp [-deedC_eq, fd96, b96, hone, hone2, hlen, htake, hfd, hmay, hm, hz, hz', wrE, cells_of hc, hrl]
    exact ⟨.app, h.app⟩
  have hz' : ¬ t.cap ≤ t.n := by omega
  have hwr : wrE d t.n t.cap = 0 := by simp [wrE, hm, hz]
  obtain ⟨H2, hH2⟩ : ∃ H2, H2 = H ++ [.cells false (deedM d q1 q2), .cells true (deedM d q1 q2)] := ⟨_, rfl⟩
  have hv2 : RV H2 b w t rv q pv cs ps := by rw [hH2]; exact h.app
  have kp2 : KR H H2 b w := by rw [hH2]; exact .app
  obtain ⟨dc, hdc⟩ : ∃ dc : DCell9, rdC dc = deedM d q1 q2 := ⟨⟨deedM d q1 q2, hlen, hone, deedM_DR h1⟩, rfl⟩
  have hel : Go.Proofs.YtflgfiieaoeknaaGreatA.elems H2 56 (.sl (H.length + 1) 0 1 56) = some ([dc].length, [dc].flatMap rdC) := by
    have e : H2[H.length + 1]? = some (.cells true (deedM d q1 q2)) := by rw [hH2]; simp
    simp only [Go.Proofs.YtflgfiieaoeknaaGreatA.elems, if_true, Heap.cells?, e, Option.bind_some, Nat.one_mul]
    rw [cut_all hlen]
    simp [hdc]
  have hcn := h.cn
  have r1 := ok.r1
  obtain ⟨v', H', ha, hr', hlen', hkeep, hoff⟩ := hv2.row.appendK (bytes := 488) rdC_len (by omega) rdC_one hel (by simp only [most, List.length_singleton]; omega) (by simp only [most, List.length_singleton]; omega) (Nat.zero_le _)
  have hoffb : Off rv b := hv2.off hv2.led (by intro y e; cases e)
  have hb' : H'[b]? = some (.cells false [I t.cap, I t.sure, rv]) := hkeep b _ hv2.led hoffb
  have hst := store_of (lim := 0) (n := 1) (o := 2) (v := v') hb' (by omega) (by rw [hr'.cells]; rfl) (by simp) (by rw [hr'.cells]; simp [hr'.one])
  rw [hr'.cells] at hst
  simp at hst
  -- what stays
  have hk3 : ∀ (k : Nat) (z : ABlk), H2[k]? = some z → k ≠ b → Off rv k → (H'.set b (.cells false [I t.cap, I t.sure, v']))[k]? = some z := fun k z hz hn ho => get_set (hkeep k z hz ho) (Ne.symm hn)
  have hrows : ∀ (k : Nat) (y : List AV), H2[k]? = some (.cells true y) → isDR y = false → (H'.set b (.cells false [I t.cap, I t.sure, v']))[k]? = some (.cells true y) := fun k y hy hd => hk3 k _ hy (fun e => by subst e; rw [hv2.led] at hy; cases hy) (hv2.off hy (by intro y' e; cases e; exact hd))
  have kp3 : KR H2 (H'.set b (.cells false [I t.cap, I t.sure, v'])) b w := ⟨by simpa using hlen', fun k z hz n1 n2 n3 => hk3 k z hz n1 (hv2.off hz n3), fun k z hz n1 n2 n3 => hk3 k z hz n1 (hv2.offR n3), fun k hk4 ho => ⟨_, _, _, List.getElem?_set_self (lt_of hb'), hoff k hk4 (hv2.offR ho)⟩⟩
  have hrw := hr'.setF (z := .cells false [I t.cap, I t.sure, v']) hb'
  have res : RV (H'.set b (.cells false [I t.cap, I t.sure, v'])) b w { t with n := t.n + 1 } v' q pv (cs ++ [dc]) ps := by
    refine ⟨List.getElem?_set_self (lt_of hb'), hrw, by simp [hcn], hk3 w _ hv2.box hv2.bw.symm (hv2.off hv2.box (by intro y e; cases e)), hv2.tgt.imp (fun g => ?_) id, ?_, hv2.rel.keep hrows⟩
    · rcases g with g | ⟨ne, c, g1, g2, g3⟩
      · exact .inl g
      · exact .inr ⟨ne, c, g1, g2, hrows c _ g3 (isDR_int _)⟩
    · rcases hv2.prow with g | ⟨ne, c, g1, g2, g3⟩
      · exact .inl g
      · exact .inr ⟨ne, c, g1, g2, hrows c _ g3 (isDR_pr _)⟩
  subst hH2
  simp at ha hlen'
  simp [-deedC_eq, fd96, b96, hone, hone2, hlen, htake, hover, hfd, hmay, hm, hz, hz', hwr, cells_of hc, hrl, ha, hlen', hst]
  exact ⟨kp2.trans kp3, _, _, res⟩
def wroteR (t : RSt) (d : Deed) : RSt := if wrE d t.n t.cap = 0 then countR { t with n := t.n + 1 } d else t
theorem c59 {H : Heap} {b w : Nat} {t : RSt} {rv q pv : AV} {cs : List DCell9} {ps : List PR} (h : RV H b w t rv q pv cs ps) (ok : ROk t) (d : Deed) (q1 q2 : AV) (hk : d.kind = 2 ∨ d.kind = 3) (h1 : Rd H 3 valC d.bag.vals q1) (h2 : Rd H 1 intC d.ring.plan.targets q2) (hf : deedFits d) (hkey : d.key.length < 4611686018427387904) :
    WCl envE 59 [.ptr (some (w, 0)), .agg (deedM d q1 q2)] 0 H fun r H' => r = I (wrE d t.n t.cap) ∧ RStep H H' b w (wroteR t d) := by
  refine cl_of e59 rfl ?_
  have hone : (deedM d q1 q2).all AV.one = true := deedM_one h1.one h2.one
  have hlen : (deedM d q1 q2).length = 56 := deedM_len
  have htake : (deedM d q1 q2).take 56 = deedM d q1 q2 := List.take_of_length_le (by rw [deedM_len]; omega)
  obtain ⟨H1, hH1⟩ : ∃ H1, H1 = H ++ [.cells false (deedM d q1 q2)] := ⟨_, rfl⟩
  have hv1 : RV H1 b w t rv q pv cs ps := by rw [hH1]; exact h.app
  have kp1 : KR H H1 b w := by rw [hH1]; exact .app
  have co : H1[H.length]? = some (.cells false (deedM d q1 q2)) := by rw [hH1]; simp
  have cp0 := hv1.cells0
  have r1 : Rd H1 3 valC d.bag.vals q1 := by rw [hH1]; exact h1.app
  have r2 : Rd H1 1 intC d.ring.plan.targets q2 := by rw [hH1]; exact h2.app
  have hwr := c96 hv1 ok d q1 q2 r1 r2 hf hkey
  have hnb : H.length ≠ b := by have := lt_of h.led; omega
  have hnw : H.length ≠ w := by have := lt_of h.box; omega
  have hpn := ok.pn
  have hle := ok.le
  have hr1 := ok.r1
  rw [fr_init (by simp [fd59])]
  simp [fd59, b59, hone, hlen, htake, ← hH1, cp0, cells_of co]
  refine WCl.mono hwr ?_
  rintro _ H2 ⟨rfl, kp2, hif⟩
  have co2 : H2[H.length]? = some (.cells false (deedM d q1 q2)) := kp2.keep _ _ co hnb hnw (by intro y e; cases e)
  have hlt : H1.length ≤ H2.length := kp2.len
  have rows : ∀ (k : Nat) (y : List AV), H1[k]? = some (.cells true y) → isDR y = false → H2[k]? = some (.cells true y) := fun k y hy hd => kp2.keep k _ hy (fun e => by subst e; rw [hv1.led] at hy; cases hy) (fun e => by subst e; rw [hv1.box] at hy; cases hy) (by intro y' e; cases e; exact hd)
  by_cases hz : wrE d t.n t.cap = 0
  · rw [if_pos hz] at hif
    obtain ⟨rv', cs', hv2⟩ := hif
    have q1' : Rd H2 3 valC d.bag.vals q1 := r1.imp (fun g => by
      rcases g with g | ⟨ne, c, g1, g2, g3⟩
      · exact .inl g
      · exact .inr ⟨ne, c, g1, g2, rows c _ g3 (isDR_val _)⟩) id
    have q2' : Rd H2 1 intC d.ring.plan.targets q2 := r2.imp (fun g => by
      rcases g with g | ⟨ne, c, g1, g2, g3⟩
      · exact .inl g
      · exact .inr ⟨ne, c, g1, g2, rows c _ g3 (isDR_int _)⟩) id
    have hct := c51 hv2 (by simp only; omega) d q1 q2 hk q1' q2'
    simp [hlt, hz, cells_of co2, htake, hlen]
    refine WCl.mono hct ?_
    rintro r H3 h3
    simp [wroteR, hz]
    exact (h3.after kp2).after kp1
  · rw [if_neg hz] at hif
    simp [hlt, hz, wroteR]
    exact ⟨kp1.trans kp2, _, _, _, _, _, hif⟩
theorem c17 {H : Heap} {b w : Nat} {t : RSt} {rv q pv : AV} {cs : List DCell9} {ps : List PR} (h : RV H b w t rv q pv cs ps) (ok : ROk t) (r : Ring) (q2 : AV) (h2 : Rd H 1 intC r.plan.targets q2) (hf : r.plan.targets.length * 8 ≤ reachBytes) :
    WCl envE 17 [.ptr (some (w, 0)), .agg (ringV r.status r.plan.version r.plan.by' q2 r.epoch r.owner)] 0 H fun x H' => x = I (wrE (ringD r) t.n t.cap) ∧ RStep H H' b w (wroteR t (ringD r)) := by
  refine cl_of e17 rfl ?_
  have o2 := h2.one
  have hd : deedV 2 0 [] zeroV .nilsl r.status r.plan.version r.plan.by' q2 r.epoch r.owner 0 = deedM (ringD r) .nilsl q2 := rfl
  have hw := c59 (h.app (X := [.cells false (ringV r.status r.plan.version r.plan.by' q2 r.epoch r.owner)])) ok (ringD r) .nilsl q2 (.inl rfl) (.inl .nil) h2.app ⟨Nat.zero_le _, hf⟩ (by simp [ringD])
  rw [← hd] at hw
  rw [fr_init (by simp [fd17])]
  simp [fd17, b17, o2]
  refine WCl.mono hw ?_
  rintro x H' ⟨rfl, hs⟩
  simp
  exact hs.after .app
theorem c61 {H : Heap} {b w : Nat} {t : RSt} {rv q pv : AV} {cs : List DCell9} {ps : List PR} (h : RV H b w t rv q pv cs ps) :
    WCl envE 61 [.ptr (some (b, 0))] 0 H fun x H' => RStep H H' b w { t with sure := t.n } ∧ ∃ n, x = I n := by
  refine cl_of e61 rfl ?_
  have hrl := h.row.len
  rw [h.cn] at hrl
  have hst := store_of (lim := 0) (n := 1) (o := 1) (v := I t.n) h.led (by omega) (by simp) (by simp) (by simp)
  simp at hst
  have hk3 : ∀ (k : Nat) (z : ABlk), H[k]? = some z → k ≠ b → (H.set b (.cells false [I t.cap, I t.n, rv]))[k]? = some z := fun k z hz hn => get_set hz (Ne.symm hn)
  have hrows : ∀ (k : Nat) (y : List AV), H[k]? = some (.cells true y) → (H.set b (.cells false [I t.cap, I t.n, rv]))[k]? = some (.cells true y) := fun k y hy => hk3 k _ hy (fun e => by subst e; rw [h.led] at hy; cases hy)
  rw [fr_init (by simp [fd61])]
  simp [fd61, b61, h.lcells0, hrl, hst]
  refine ⟨⟨by simp, fun k z hz n1 _ _ => hk3 k z hz n1, fun k z hz n1 _ _ => hk3 k z hz n1, fun k hk ho => ⟨_, _, _, List.getElem?_set_self (lt_of h.led), h.offR ho⟩⟩, rv, q, pv, cs, ps, List.getElem?_set_self (lt_of h.led), h.row.keep fun k y hy _ => hrows k y hy, h.cn, hk3 w _ h.box h.bw.symm, h.tgt.imp (fun g => g.keep fun k y hy _ => hrows k y hy) id, h.prow.keep fun k y hy _ => hrows k y hy, h.rel.keep fun k y hy _ => hrows k y hy⟩
end Go.Proofs.YtflgfiieaoeknaaGreatA

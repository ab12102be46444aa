/- Keys and Drop of a vault. No statement about the program is proved here. -/
import Derived.Test.YtflgfiieaoeknaaVO
import Derived.Test.YtflgfiieaoeknaaKD
namespace Go.Proofs.YtflgfiieaoeknaaA
open Go
set_option linter.unusedSimpArgs false
set_option linter.unusedVariables false
set_option maxRecDepth 1000000
attribute [local simp] deed_zero

theorem e40 : envE.fn 40 = some (.prim keysG) := rfl
theorem e75 : envE.fn 75 = some (.prim delG) := rfl
def keysS (s : VSt) (part : Int) : List (List UInt8) := sortS ((s.bags.map Prod.fst).filter fun k => decide (spotF k = part))
theorem ents_keys {H : Heap} : ∀ {l : List (List UInt8 × Bag)} {es : List (AV × AV × Nat)}, Ents H l es → (es.map fun e => keyA e.1) = l.map Prod.fst ∧ (∀ e ∈ es, isStr e.1 = true) ∧ ∀ e ∈ es, isBagV e.2.1 = true
  | [], [], _ => ⟨rfl, by simp, by simp⟩
  | (k, b) :: l, e :: es, h => by
    obtain ⟨⟨r, n, rfl, h2⟩, h3⟩ := h
    obtain ⟨g1, g2, g3⟩ := ents_keys h3
    refine ⟨by rw [List.map_cons, List.map_cons, g1]; rfl, fun e he => ?_, fun e he => ?_⟩
    · rcases List.mem_cons.1 he with rfl | q
      · rfl
      · exact g2 e q
    · rcases List.mem_cons.1 he with rfl | q
      · simp [isBagV, h2.one]
      · exact g3 e q
  | [], _ :: _, h => h.elim
  | _ :: _, [], h => h.elim
theorem EntK.fresh {H : Heap} {l : List (List UInt8 × Bag)} {es : List (AV × AV × Nat)} {ck : Nat} (h : EntK H l es ck) (few : l.length < 1000000000000) : FreshD es ck := by
  obtain ⟨g1, g2, g3⟩ := ents_keys h.ents
  exact ⟨⟨fun e he => ⟨g2 e he, h.lt e he⟩, h.nd, by rw [h.len]; exact few⟩, by rw [g1]; exact h.uniq, g3⟩
section
variable {H : Heap} {p lb mi : Nat} {s : VSt} {v q : AV} {es : List (AV × AV × Nat)} {ck : Nat}
theorem vlt_at47 : (vltC lb mi s q)[47]? = some (.mapv (some mi)) := by kernel_rfl
theorem c40k (h : Vlt H p lb mi s v q es ck) (few : s.bags.length < 1000000000000) (part : Int) (hp : 0 ≤ part) (lim : Nat) :
    WCl envE 40 [.ptr (some (p, 0)), I part] lim H fun r H' => ∃ X, H' = H ++ X ∧ Row H.length (H ++ X) 1 strC (keysS s part) r := by
  obtain ⟨r, X, h1, h2⟩ := thaw_owL (H := H) (lim := H.length) (es := 1) (f := strC) (fun _ _ => by simp [strC]) (Nat.le_refl _) (keysS s part)
  have hfr := (h.ents.fresh few).1
  have hk : partK part es = (s.bags.map Prod.fst).filter fun k => decide (spotF k = part) := by
    unfold partK
    rw [(ents_keys h.ents.ents).1]
  have hg : keysG [.ptr (some (p, 0)), I part] lim H = some (r, H ++ X) := by
    unfold keysG
    simp only [I]
    rw [if_neg (by omega)]
    simp only [h.cells0, vlt_at47, h.map]
    rw [if_pos hfr, hk]
    exact congrArg some h1
  exact ⟨r, H ++ X, cl_prim e40 hg, X, rfl, h2⟩

/-! ## Drop -/
def dropD (part : Int) : Deed := ⟨4, 0, [], ⟨zeroV, []⟩, zRingS, part⟩
def restB (part : Int) (l : List (List UInt8 × Bag)) : List (List UInt8 × Bag) := l.filter fun x => !decide (spotF x.1 = part)
def dropS (s : VSt) (part : Int) : VSt := if writeE (dropD part) s.ds s.room = 0 then { s with ds := s.ds ++ [dropD part], bags := restB part s.bags } else s
theorem ents_rest {part : Int} : ∀ {l : List (List UInt8 × Bag)} {es : List (AV × AV × Nat)}, Ents H l es → Ents H (restB part l) (restE part es)
  | [], [], _ => trivial
  | (k, b) :: l, e :: es, h => by
    obtain ⟨⟨r, n, rfl, h2⟩, h3⟩ := h
    have ih := ents_rest (part := part) h3
    unfold restB restE
    by_cases g : spotF k = part
    · rw [List.filter_cons_of_neg (by simp [g]), List.filter_cons_of_neg (by simp [g, keyA])]
      exact ih
    · rw [List.filter_cons_of_pos (by simp [g]), List.filter_cons_of_pos (by simp [g, keyA])]
      exact ⟨⟨r, n, rfl, h2⟩, ih⟩
  | [], _ :: _, h => h.elim
  | _ :: _, [], h => h.elim
theorem EntK.rest {l : List (List UInt8 × Bag)} {part : Int} (h : EntK H l es ck) : EntK H (restB part l) (restE part es) ck := by
  have s1 : (restE part es).Sublist es := List.filter_sublist
  have s2 : (restB part l).Sublist l := List.filter_sublist
  exact ⟨ents_rest h.ents, fun e he => h.lt e (s1.subset he), (s1.map _).nodup h.nd, (s2.map _).nodup h.uniq⟩
theorem c49d (h : Vlt H p lb mi s v q es ck) (few : s.bags.length < 1000000000000) (part : Int) :
    WCl envE 49 [.ptr (some (p, 0)), .agg (deedM (dropD part) .nilsl .nilsl)] 0 H fun r H' => VStep H H' p lb mi { s with bags := restB part s.bags } := by
  refine cl_of e49 rfl ?_
  have hone : (deedM (dropD part) .nilsl .nilsl).all AV.one = true := deedM_one rfl rfl
  have hlen : (deedM (dropD part) .nilsl .nilsl).length = 56 := deedM_len
  have hd : deedM (dropD part) .nilsl .nilsl = deedV 4 0 [] zeroV .nilsl zeroV 0 0 .nilsl zeroV zeroV part := rfl
  obtain ⟨H1, hH1⟩ : ∃ H1, H1 = H ++ [.cells false (deedM (dropD part) .nilsl .nilsl)] := ⟨_, rfl⟩
  have hv1 : Vlt H1 p lb mi s v q es ck := by rw [hH1]; exact h.app
  have kp1 : Kp H H1 p lb mi := by rw [hH1]; exact .app
  have co : H1[H.length]? = some (.cells false (deedV 4 0 [] zeroV .nilsl zeroV 0 0 .nilsl zeroV zeroV part)) := by rw [hH1, ← hd]; simp
  have hfr := hv1.ents.fresh few
  obtain ⟨H2, hH2⟩ : ∃ H2, H2 = H1.set mi (.map (restE part es) ck) ++ List.replicate (1 + 2 * es.length) .dead := ⟨_, rfl⟩
  have h55 : (deedV 4 0 [] zeroV .nilsl zeroV 0 0 .nilsl zeroV zeroV part)[55]? = some (I part) := by kernel_rfl
  have hg : delG [.mapv (some mi), .fn (.func 76) [] [.ptr (some (H.length, 0))]] 0 H1 = some (.tup [], H2) := by
    unfold delG
    simp only [cells_of co, h55, I, hv1.map]
    rw [if_pos ⟨Nat.zero_le _, hfr⟩, hH2]
  have k75 : ∀ K, WCl envE 75 [.mapv (some mi), .fn (.func 76) [] [.ptr (some (H.length, 0))]] 0 H1 K = K (.tup []) H2 := fun K => WCl_eq (cl_prim e75 hg)
  have cp0 := hv1.cells0
  rw [hd] at hone hlen hH1
  rw [fr_init (by simp [fd49])]
  simp [fd49, b49, hd, hone, hlen, ← hH1, cells_of co, cp0, k75]
  have up : ∀ (b : Nat) (z : ABlk), H1[b]? = some z → b ≠ mi → H2[b]? = some z := fun b z hb hn => by rw [hH2]; exact get_app (get_set hb (Ne.symm hn))
  have keep : ∀ (b : Nat) (y : List AV), H1[b]? = some (.cells true y) → H2[b]? = some (.cells true y) := fun b y hb => up b _ hb fun e => by
    subst e
    rw [hv1.map] at hb
    cases hb
  have lmi : mi < H1.length := lt_of hv1.map
  refine ⟨kp1.trans ⟨by rw [hH2]; simp, fun b z hb _ _ n3 _ => up b z hb n3⟩, v, q, restE part es, ck, up _ _ hv1.box hv1.pmi, ⟨up _ _ hv1.led.at' hv1.lbmi, hv1.led.row.keep fun b y _ hb => keep b y hb, hv1.led.few⟩, hv1.tgt.keep fun b y hb _ => keep b y hb, ?_, hv1.ents.rest.keep fun b y hb _ => keep b y hb, hv1.vn⟩
  rw [hH2]
  refine get_app ?_
  rw [List.getElem?_set_self lmi]
theorem drop_may {part : Int} (h : 0 ≤ part) (h2 : part < 16) : deedMay (dropD part) = true := by
  have e : namedD (dropD part) = dropD part := by simp [namedD, dropD]; rfl
  simp only [deedMay, e, deedSame_refl, Bool.true_and]
  have h3 : withinB part 15 = true := by simp [withinB]; omega
  simp [dropD, h3]
theorem drop_fits {part : Int} : deedFits (dropD part) := ⟨Nat.zero_le _, Nat.zero_le _⟩
theorem c55d (h : Vlt H p lb mi s v q es ck) (ok : VOk s) (few : s.bags.length < 1000000000000) (part : Int) :
    WCl envE 55 [.ptr (some (p, 0)), .agg (deedM (dropD part) .nilsl .nilsl)] 0 H fun r H' => r = I (writeE (dropD part) s.ds s.room) ∧ VStep H H' p lb mi (dropS s part) := by
  refine cl_of e55 rfl ?_
  have hone : (deedM (dropD part) .nilsl .nilsl).all AV.one = true := deedM_one rfl rfl
  have hlen : (deedM (dropD part) .nilsl .nilsl).length = 56 := deedM_len
  have htake : (deedM (dropD part) .nilsl .nilsl).take 56 = deedM (dropD part) .nilsl .nilsl := List.take_of_length_le (by rw [deedM_len]; omega)
  obtain ⟨H1, hH1⟩ : ∃ H1, H1 = H ++ [.cells false (deedM (dropD part) .nilsl .nilsl)] := ⟨_, rfl⟩
  have hv1 : Vlt H1 p lb mi s v q es ck := by rw [hH1]; exact h.app
  have kp1 : Kp H H1 p lb mi := by rw [hH1]; exact .app
  have co : H1[H.length]? = some (.cells false (deedM (dropD part) .nilsl .nilsl)) := by rw [hH1]; simp
  have cp0 := hv1.cells0
  have hwr := c85 hv1.led (Nat.zero_le _) ok.r0 ok.r1 ok.le (dropD part) .nilsl .nilsl drop_fits (by simp [dropD]) (fun X => rfl) (fun X => rfl) rfl rfl
  rw [fr_init (by simp [fd55])]
  simp [fd55, b55, hone, hlen, htake, ← hH1, cp0, cells_of co]
  refine WCl.mono hwr ?_
  rintro _ H2 ⟨rfl, len2, keep2, hif⟩
  have kp2 : Kp H1 H2 p lb mi := ⟨len2, fun b z hb n1 n2 n3 n4 => keep2 b z hb n2 (hv1.off hb n4)⟩
  have co2 : H2[H.length]? = some (.cells false (deedM (dropD part) .nilsl .nilsl)) := keep2 _ _ co (fun e => by rw [e] at co; have := hv1.led.at'; rw [co] at this; have := congrArg (fun x => match x with | some (ABlk.cells _ l) => l.length | _ => 0) this; simp [hlen] at this) (hv1.off co (by intro y e; cases e))
  have hlt : H1.length ≤ H2.length := len2
  by_cases hz : writeE (dropD part) s.ds s.room = 0
  · rw [if_pos hz] at hif
    obtain ⟨v', hL, hoff⟩ := hif
    have rows := kp2.rows hv1
    have hv2 : Vlt H2 p lb mi { s with ds := s.ds ++ [dropD part] } v' q es ck := ⟨keep2 _ _ hv1.box hv1.plb (hv1.off hv1.box (by intro y e; cases e)), hL, hv1.tgt.keepD (isD_int _) rows, keep2 _ _ hv1.map hv1.lbmi.symm (hv1.off hv1.map (by intro y e; cases e)), hv1.ents.keep rows, by simp⟩
    have hct := c49d hv2 few part
    simp [hlt, hz, cells_of co2, htake, hlen]
    refine WCl.mono hct ?_
    rintro r H3 h3
    simp [dropS, hz]
    exact (h3.after kp2).after kp1
  · rw [if_neg hz] at hif
    have rows := kp2.rows hv1
    have hv2 : Vlt H2 p lb mi s v q es ck := ⟨keep2 _ _ hv1.box hv1.plb (hv1.off hv1.box (by intro y e; cases e)), hif, hv1.tgt.keepD (isD_int _) rows, keep2 _ _ hv1.map hv1.lbmi.symm (hv1.off hv1.map (by intro y e; cases e)), hv1.ents.keep rows, hv1.vn⟩
    simp [hlt, hz, dropS]
    exact ⟨kp1.trans kp2, _, _, _, _, hv2⟩
theorem c41b (h : Vlt H p lb mi s v q es ck) (part : Int) (hp : part < 0 ∨ 16 ≤ part) (lim : Nat) : Cl envE 41 [.ptr (some (p, 0)), I part] lim H (I 1) H := by
  refine cl_is e41 rfl ?_
  rw [fr_init (by simp [fd41])]
  by_cases h1 : part < 0
  · simp [fd41, b41, h1]
  · have h2 : 16 ≤ part := by omega
    simp [fd41, b41, h1, h2]
theorem c41g (h : Vlt H p lb mi s v q es ck) (ok : VOk s) (few : s.bags.length < 1000000000000) (part : Int) (hp : 0 ≤ part ∧ part < 16) :
    WCl envE 41 [.ptr (some (p, 0)), I part] 0 H fun r H' => (keysS s part = [] ∧ r = I 0 ∧ VStep H H' p lb mi s) ∨ (keysS s part ≠ [] ∧ r = I (writeE (dropD part) s.ds s.room) ∧ VStep H H' p lb mi (dropS s part)) := by
  have h1 : ¬ part < 0 := by omega
  have h2 : ¬ 16 ≤ part := by omega
  refine cl_of e41 rfl ?_
  rw [fr_init (by simp [fd41])]
  simp [fd41, b41, h1, h2]
  refine WCl.mono (c40k h few part hp.1 0) ?_
  rintro r _ ⟨X, rfl, hr⟩
  have hv1 := h.app (X := X)
  by_cases hk : keysS s part = []
  · simp [hr.len, hk]
    exact .app h
  · have hkl : ¬ (keysS s part).length = 0 := fun e => hk (List.length_eq_zero_iff.1 e)
    simp [hr.len, hk, hkl]
    have hw := c55d hv1 ok few part
    have hd : deedM (dropD part) .nilsl .nilsl = deedV 4 0 [] zeroV .nilsl zeroV 0 0 .nilsl zeroV zeroV part := rfl
    rw [hd] at hw
    refine WCl.mono hw ?_
    rintro _ H3 ⟨rfl, h3⟩
    simp
    exact h3.after .app
end
end Go.Proofs.YtflgfiieaoeknaaA

/- Keys and Drop of a vault. Keys of parts, in plain words. No statement about the program is proved here. -/
import Derived.Test.YtgbnbgkldeifkaaGreatVV
import Derived.Test.YtgbnbgkldeifkaaGreatKD
namespace Go.Proofs.YtgbnbgkldeifkaaGreatA
open Go
set_option linter.unusedSimpArgs false
set_option linter.unusedVariables false
set_option maxRecDepth 1000000
attribute [local simp] deed_zero
theorem e31 : envE.fn 31 = some (.prim keysG) := rfl
theorem e111 : envE.fn 111 = some (.prim delG) := rfl
def keysS (s : VSt) (part : Int) : List (List UInt8) := sortS ((s.bags.map Prod.fst).filter fun k => decide (spotF k = part))
theorem ents_keys {H : Heap} : ∀ {l : List (List UInt8 × Bag)} {es : List (AV × AV × Nat)}, Ents H l es → (es.map fun e => keyA e.1) = l.map Prod.fst ∧ (∀ e ∈ es, isStr e.1 = true) ∧ ∀ e ∈ es, isBagV e.2.1 = true
 | [], [], _ => ⟨rfl, by simp, by simp⟩
 | (k, b) :: l, e :: es, h => by
  obtain ⟨⟨r, n, rfl, h2⟩, h3⟩ := h
  obtain ⟨g1, g2, g3⟩ := ents_keys h3
  refine ⟨by rw [List.map_cons, List.map_cons, g1]; rfl, fun e he => ?_, fun e he => ?_⟩
  · rcases List.mem_cons.1 he with rfl | q
    · rfl
    · exact g2 e q
  · rcases List.mem_cons.1 he with rfl | q
    · simp [isBagV, h2.one]
    · exact g3 e q
 | [], _ :: _, h => h.elim
 | _ :: _, [], h => h.elim
theorem EntK.fresh {H : Heap} {l : List (List UInt8 × Bag)} {es : List (AV × AV × Nat)} {ck : Nat} (h : EntK H l es ck) (few : l.length < 1000000000000) : FreshD es ck := by
 obtain ⟨g1, g2, g3⟩ := ents_keys h.ents
 exact ⟨⟨fun e he => ⟨g2 e he, h.lt e he⟩, h.nd, by rw [h.len]; exact few⟩, by rw [g1]; exact h.uniq, g3⟩
section
variable {H : Heap} {p lb mi : Nat} {s : VSt} {v q : AV} {es : List (AV × AV × Nat)} {ck : Nat}
theorem vlt_at47 : (vltC lb mi s q)[47]? = some (.mapv (some mi)) := by kernel_rfl
theorem c40k (h : Vlt H p lb mi s v q es ck) (few : s.bags.length < 1000000000000) (part : Int) (hp : 0 ≤ part) (lim : Nat) :
 WCl envE 31 [.ptr (some (p, 0)), I part] lim H fun r H' => ∃ X, H' = H ++ X ∧ Row H.length (H ++ X) 1 strC (keysS s part) r := by
 obtain ⟨r, X, h1, h2⟩ := thaw_owL (H := H) (lim := H.length) (es := 1) (f := strC) (fun _ _ => by simp [strC]) (Nat.le_refl _) (keysS s part)
 have hfr := (h.ents.fresh few).1
 have hk : partK part es = (s.bags.map Prod.fst).filter fun k => decide (spotF k = part) := by
  unfold partK
  rw [(ents_keys h.ents.ents).1]
 have hg : keysG [.ptr (some (p, 0)), I part] lim H = some (r, H ++ X) := by
  unfold keysG
  simp only [I]
  rw [if_neg (by omega)]
  simp only [h.cells0, vlt_at47, h.map]
  rw [if_pos hfr, hk]
  exact congrArg some h1
 exact ⟨r, H ++ X, cl_prim e31 hg, X, rfl, h2⟩
def dropD (part : Int) : Deed := ⟨4, 0, [], ⟨zeroV, []⟩, zRingS, part⟩
def restB (part : Int) (l : List (List UInt8 × Bag)) : List (List UInt8 × Bag) := l.filter fun x => !decide (spotF x.1 = part)
def dropS (s : VSt) (part : Int) : VSt := if writeE (dropD part) s.ds s.room = 0 then { s with ds := s.ds ++ [dropD part], bags := restB part s.bags } else s
theorem ents_rest {part : Int} : ∀ {l : List (List UInt8 × Bag)} {es : List (AV × AV × Nat)}, Ents H l es → Ents H (restB part l) (restE part es)
 | [], [], _ => trivial
 | (k, b) :: l, e :: es, h => by
  obtain ⟨⟨r, n, rfl, h2⟩, h3⟩ := h
  have ih := ents_rest (part := part) h3
  unfold restB restE
  by_cases g : spotF k = part
  · rw [List.filter_cons_of_neg (by simp [g]), List.filter_cons_of_neg (by simp [g, keyA])]
    exact ih
  · rw [List.filter_cons_of_pos (by simp [g]), List.filter_cons_of_pos (by simp [g, keyA])]
    exact ⟨⟨r, n, rfl, h2⟩, ih⟩
 | [], _ :: _, h => h.elim
 | _ :: _, [], h => h.elim
theorem EntK.rest {l : List (List UInt8 × Bag)} {part : Int} (h : EntK H l es ck) : EntK H (restB part l) (restE part es) ck := by
 have s1 : (restE part es).Sublist es := List.filter_sublist
 have s2 : (restB part l).Sublist l := List.filter_sublist
 exact ⟨ents_rest h.ents, fun e he => h.lt e (s1.subset he), (s1.map _).nodup h.nd, (s2.map _).nodup h.uniq⟩
theorem c49d (h : Vlt H p lb mi s v q es ck) (few : s.bags.length < 1000000000000) (part : Int) :
 WCl envE 64 [.ptr (some (p, 0)), .agg (deedM (dropD part) .nilsl .nilsl)] 0 H fun r H' => VStep H H' p lb mi { s with bags := restB part s.bags } := by
 refine cl_of e64 rfl ?_
 have hone : (deedM (dropD part) .nilsl .nilsl).all AV.one = true := deedM_one rfl rfl
 have hlen : (deedM (dropD part) .nilsl .nilsl).length = 56 := deedM_len
 have hd : deedM (dropD part) .nilsl .nilsl = deedV 4 0 [] zeroV .nilsl zeroV 0 0 .nilsl zeroV zeroV part := rfl
 obtain ⟨H1, hH1⟩ : ∃ H1, H1 = H ++ [.cells false (deedM (dropD part) .nilsl .nilsl)] := ⟨_, rfl⟩
 have hv1 : Vlt H1 p lb mi s v q es ck := by rw [hH1]; exact h.app
 have kp1 : Kp H H1 p lb mi := by rw [hH1]; exact .app
 have co : H1[H.length]? = some (.cells false (deedV 4 0 [] zeroV .nilsl zeroV 0 0 .nilsl zeroV zeroV part)) := by rw [hH1, ← hd]; simp
 have hfr := hv1.ents.fresh few
 obtain ⟨H2, hH2⟩ : ∃ H2, H2 = H1.set mi (.map (restE part es) ck) ++ List.replicate (1 + 2 * es.length) .dead := ⟨_, rfl⟩
 have h55 : (deedV 4 0 [] zeroV .nilsl zeroV 0 0 .nilsl zeroV zeroV part)[55]? = some (I part) := by kernel_rfl
 have hg : delG [.mapv (some mi), .fn (.func 112) [] [.ptr (some (H.length, 0))]] 0 H1 = some (.tup [], H2) := by
  unfold delG
  simp only [cells_of co, h55, I, hv1.map]
  rw [if_pos ⟨Nat.zero_le _, hfr⟩, hH2]
 have k111 : ∀ K, WCl envE 111 [.mapv (some mi), .fn (.func 112) [] [.ptr (some (H.length, 0))]] 0 H1 K = K (.tup []) H2 := fun K => WCl_eq (cl_prim e111 hg)
 have cp0 := hv1.cells0
 rw [hd] at hone hlen hH1
 rw [fr_init (by simp [fd64])]
 simp [fd64, b64, hd, hone, hlen, ← hH1, cells_of co, cp0, k111]
 have up : ∀ (b : Nat) (z : ABlk), H1[b]? = some z → b ≠ mi → H2[b]? = some z := fun b z hb hn => by rw [hH2]; exact get_app (get_set hb (Ne.symm hn))
 have keep : ∀ (b : Nat) (y : List AV), H1[b]? = some (.cells true y) → H2[b]? = some (.cells true y) := fun b y hb => up b _ hb fun e => by
  subst e
  rw [hv1.map] at hb
  cases hb
 have lmi : mi < H1.length := lt_of hv1.map
 refine ⟨kp1.trans ⟨by rw [hH2]; simp, fun b z hb _ _ n3 _ => up b z hb n3, fun b z hb _ _ n3 _ => up b z hb n3, fun b _ ⟨v, s, r, hb, o⟩ => ⟨v, s, r, up _ _ hb hv1.lbmi, o⟩⟩, v, q, restE part es, ck, up _ _ hv1.box hv1.pmi, ⟨up _ _ hv1.led.at' hv1.lbmi, hv1.led.row.keep fun b y _ hb => keep b y hb, hv1.led.few⟩, hv1.tgt.keep fun b y hb _ => keep b y hb, ?_, hv1.ents.rest.keep fun b y hb _ => keep b y hb, hv1.vn⟩
 rw [hH2]
 refine get_app ?_
 rw [List.getElem?_set_self lmi]
theorem drop_may {part : Int} (h : 0 ≤ part) (h2 : part < 16) : deedMay (dropD part) = true := by
 have e : namedD (dropD part) = dropD part := by simp [namedD, dropD]; rfl
 simp only [deedMay, e, deedSame_refl, Bool.true_and]
 have h3 : withinB part 15 = true := by simp [withinB]; omega
 simp [dropD, h3]
theorem drop_fits {part : Int} : deedFits (dropD part) := ⟨Nat.zero_le _, Nat.zero_le _⟩
theorem c55d (h : Vlt H p lb mi s v q es ck) (ok : VOk s) (few : s.bags.length < 1000000000000) (part : Int) :
 WCl envE 66 [.ptr (some (p, 0)), .agg (deedM (dropD part) .nilsl .nilsl)] 0 H fun r H' => r = I (writeE (dropD part) s.ds s.room) ∧ VStep H H' p lb mi (dropS s part) := by
 refine cl_of e66 rfl ?_
 have hone : (deedM (dropD part) .nilsl .nilsl).all AV.one = true := deedM_one rfl rfl
 have hlen : (deedM (dropD part) .nilsl .nilsl).length = 56 := deedM_len
 have htake : (deedM (dropD part) .nilsl .nilsl).take 56 = deedM (dropD part) .nilsl .nilsl := List.take_of_length_le (by rw [deedM_len]; omega)
 obtain ⟨H1, hH1⟩ : ∃ H1, H1 = H ++ [.cells false (deedM (dropD part) .nilsl .nilsl)] := ⟨_, rfl⟩
 have hv1 : Vlt H1 p lb mi s v q es ck := by rw [hH1]; exact h.app
 have kp1 : Kp H H1 p lb mi := by rw [hH1]; exact .app
 have co : H1[H.length]? = some (.cells false (deedM (dropD part) .nilsl .nilsl)) := by rw [hH1]; simp
 have cp0 := hv1.cells0
 have hwr := c114 hv1.led (Nat.zero_le _) ok.r0 ok.r1 ok.le (dropD part) .nilsl .nilsl drop_fits (by simp [dropD]) (fun X => rfl) (fun X => rfl) rfl rfl
 rw [fr_init (by simp [fd66])]
 simp [fd66, b66, hone, hlen, htake, ← hH1, cp0, cells_of co]
 refine WCl.mono hwr ?_
 rintro _ H2 ⟨rfl, len2, keep2, hif⟩
 have kp2 : Kp H1 H2 p lb mi := ⟨len2, fun b z hb n1 n2 n3 n4 => keep2 b z hb n2 (hv1.off hb n4), fun b z hb n1 n2 n3 n4 => keep2 b z hb n2 (hv1.offL n4), fun b hb ho => by
  by_cases hz : writeE (dropD part) s.ds s.room = 0
  · rw [if_pos hz] at hif
    obtain ⟨v', hL, hoff⟩ := hif
    exact ⟨_, _, _, hL.at', hoff b hb⟩
  · rw [if_neg hz] at hif
    exact ⟨_, _, _, hif.at', hv1.offL ho⟩⟩
 have co2 : H2[H.length]? = some (.cells false (deedM (dropD part) .nilsl .nilsl)) := keep2 _ _ co (fun e => by rw [e] at co; have := hv1.led.at'; rw [co] at this; have := congrArg (fun x => match x with | some (ABlk.cells _ l) => l.length | _ => 0) this; simp [hlen] at this) (hv1.off co (by intro y e; cases e))
 have hlt : H1.length ≤ H2.length := len2
 by_cases hz : writeE (dropD part) s.ds s.room = 0
 · rw [if_pos hz] at hif
   obtain ⟨v', hL, hoff⟩ := hif
   have rows := kp2.rows hv1
   have hv2 : Vlt H2 p lb mi { s with ds := s.ds ++ [dropD part] } v' q es ck := ⟨keep2 _ _ hv1.box hv1.plb (hv1.off hv1.box (by intro y e; cases e)), hL, hv1.tgt.keepD (isD_int _) rows, keep2 _ _ hv1.map hv1.lbmi.symm (hv1.off hv1.map (by intro y e; cases e)), hv1.ents.keep rows, by simp⟩
   have hct := c49d hv2 few part
   simp [hlt, hz, cells_of co2, htake, hlen]
   refine WCl.mono hct ?_
   rintro r H3 h3
   simp [dropS, hz]
   exact (h3.after kp2).after kp1
 · rw [if_neg hz] at hif
   have rows := kp2.rows hv1
   have hv2 : Vlt H2 p lb mi s v q es ck := ⟨keep2 _ _ hv1.box hv1.plb (hv1.off hv1.box (by intro y e; cases e)), hif, hv1.tgt.keepD (isD_int _) rows, keep2 _ _ hv1.map hv1.lbmi.symm (hv1.off hv1.map (by intro y e; cases e)), hv1.ents.keep rows, hv1.vn⟩
   simp [hlt, hz, dropS]
   exact ⟨kp1.trans kp2, _, _, _, _, hv2⟩
theorem c41b (h : Vlt H p lb mi s v q es ck) (part : Int) (hp : part < 0 ∨ 16 ≤ part) (lim : Nat) : Cl envE 17 [.ptr (some (p, 0)), I part] lim H (I 1) H := by
 refine cl_is e17 rfl ?_
 rw [fr_init (by simp [fd17])]
 by_cases h1 : part < 0
 · simp [fd17, b17, h1]
 · have h2 : 16 ≤ part := by omega
   simp [fd17, b17, h1, h2]
theorem c41g (h : Vlt H p lb mi s v q es ck) (ok : VOk s) (few : s.bags.length < 1000000000000) (part : Int) (hp : 0 ≤ part ∧ part < 16) :
 WCl envE 17 [.ptr (some (p, 0)), I part] 0 H fun r H' => (keysS s part = [] ∧ r = I 0 ∧ VStep H H' p lb mi s) ∨ (keysS s part ≠ [] ∧ r = I (writeE (dropD part) s.ds s.room) ∧ VStep H H' p lb mi (dropS s part)) := by
 have h1 : ¬ part < 0 := by omega
 have h2 : ¬ 16 ≤ part := by omega
 refine cl_of e17 rfl ?_
 rw [fr_init (by simp [fd17])]
 simp [fd17, b17, h1, h2]
 refine WCl.mono (c40k h few part hp.1 0) ?_
 rintro r _ ⟨X, rfl, hr⟩
 have hv1 := h.app (X := X)
 by_cases hk : keysS s part = []
 · simp [hr.len, hk]
   exact .app h
 · have hkl : ¬ (keysS s part).length = 0 := fun e => hk (List.length_eq_zero_iff.1 e)
   simp [hr.len, hk, hkl]
   have hw := c55d hv1 ok few part
   have hd : deedM (dropD part) .nilsl .nilsl = deedV 4 0 [] zeroV .nilsl zeroV 0 0 .nilsl zeroV zeroV part := rfl
   rw [hd] at hw
   refine WCl.mono hw ?_
   rintro _ H3 ⟨rfl, h3⟩
   simp
   exact h3.after .app
end
end Go.Proofs.YtgbnbgkldeifkaaGreatA
namespace Go.Proofs.YtgbnbgkldeifkaaGreatA
open Go
set_option linter.unusedSimpArgs false
set_option linter.unusedVariables false
def addK (ks : List (List UInt8)) (key : List UInt8) : List (List UInt8) := if key ∈ ks then ks else ks ++ [key]
theorem VOk.putV {s : VSt} (ok : VOk s) {node : Int} {key : List UInt8} {known : Nat → Int} {data : List UInt8} : VOk (putO s node key known data).s := by
 unfold putO
 split
 · exact ok
 · split
   · exact ok
   · split
     · exact ok
     · split
       · split
         · exact ok.wrote ⟨putR_fit, Nat.zero_le _⟩
         · exact ok
       · exact ok
theorem put_keys {s : VSt} {node : Int} {key : List UInt8} {known : Nat → Int} {data : List UInt8} :
 ((putO s node key known data).e = 0 ∧ keyOk key = true ∧ (putO s node key known data).s.bags.map Prod.fst = addK (s.bags.map Prod.fst) key ∧ (putO s node key known data).s.ds.length = s.ds.length + 1 ∧ (putO s node key known data).s.room = s.room) ∨ ((putO s node key known data).e ≠ 0 ∧ (putO s node key known data).s = s) := by
 unfold putO
 split
 · exact .inr ⟨by show (1 : Int) ≠ 0; omega, rfl⟩
 · rename_i h1
   have hk : keyOk key = true := by
    cases h : keyOk key
    · exact absurd (.inr (.inr h)) h1
    · rfl
   split
   · exact .inr ⟨by show (6 : Int) ≠ 0; omega, rfl⟩
   · split
     · exact .inr ⟨by show (5 : Int) ≠ 0; omega, rfl⟩
     · split
       · split
         · rename_i h5
           refine .inl ⟨rfl, hk, ?_, ?_, ?_⟩
           · rw [wroteS, if_pos h5]
             simp only [countS, bagD]
             simp
             rw [setB_fst]
             rfl
           · rw [wroteS, if_pos h5]
             simp [countS, bagD]
           · rw [wroteS, if_pos h5]
             simp [countS, bagD]
         · rename_i h5
           exact .inr ⟨h5, rfl⟩
       · rename_i h4
         exact .inr ⟨h4, rfl⟩
theorem strLess_iff : ∀ {a b : List UInt8}, strLess a b = true ↔ a < b
 | a, [] => by
  cases a <;> simp [strLess]
 | [], b :: y => by simp [strLess]
 | a :: x, b :: y => by
  unfold strLess
  rw [List.cons_lt_cons_iff, Bool.or_eq_true, Bool.and_eq_true, decide_eq_true_eq, beq_iff_eq, strLess_iff]
theorem sortS_perm {l : List (List UInt8)} : (sortS l).Perm l := List.mergeSort_perm _ _
theorem sortS_sorted {l : List (List UInt8)} : (sortS l).Pairwise fun a b => a ≤ b := by
 have tr : ∀ a b c : List UInt8, decide (a ≤ b) = true → decide (b ≤ c) = true → decide (a ≤ c) = true := fun a b c h1 h2 => by simp only [decide_eq_true_eq] at *; exact List.le_trans h1 h2
 have to : ∀ a b : List UInt8, (decide (a ≤ b) || decide (b ≤ a)) = true := fun a b => by simp only [Bool.or_eq_true, decide_eq_true_eq]; exact List.le_total a b
 exact (List.pairwise_mergeSort tr to l).imp fun {a b} h => by simpa using h
theorem rising {l : List (List UInt8)} (h : l.Nodup) {i : Nat} (h0 : 0 < i) (hi : i < (sortS l).length) : strLess (sortS l)[i] (sortS l)[i - 1] = false ∧ ((sortS l)[i] == (sortS l)[i - 1]) = false := by
 have hs := List.pairwise_iff_getElem.1 (sortS_sorted (l := l)) (i - 1) i (by omega) hi (by omega)
 have hn : (sortS l).Nodup := (sortS_perm (l := l)).nodup_iff.2 h
 have hne := List.pairwise_iff_getElem.1 hn (i - 1) i (by omega) hi (by omega)
 constructor
 · rw [Bool.eq_false_iff]
   intro q
   exact List.not_lt.2 hs (strLess_iff.1 q)
 · simpa using fun e => hne e.symm
def partF (ks : List (List UInt8)) (p : Int) : List (List UInt8) := ks.filter fun k => decide (spotF k = p)
def total (ks : List (List UInt8)) : Nat → Nat
 | 0 => 0
 | n + 1 => total ks n + (partF ks n).length
theorem total_cons {k : List UInt8} {ks : List (List UInt8)} : ∀ {n : Nat}, total (k :: ks) n = total ks n + if 0 ≤ spotF k ∧ spotF k < (n : Int) then 1 else 0
 | 0 => by simp [total]
 | n + 1 => by
  simp only [total, total_cons (n := n)]
  unfold partF
  by_cases h : spotF k = (n : Int)
  · rw [List.filter_cons_of_pos (by simpa using h), List.length_cons, if_neg (by omega), if_pos (by omega)]
    omega
  · rw [List.filter_cons_of_neg (by simpa using h)]
    by_cases h2 : 0 ≤ spotF k ∧ spotF k < (n : Int)
    · rw [if_pos h2, if_pos (by omega)]
      omega
    · rw [if_neg h2, if_neg (by omega)]; omega
theorem total_all : ∀ {ks : List (List UInt8)}, (∀ k ∈ ks, keyOk k = true) → total ks 16 = ks.length
 | [], _ => by decide
 | k :: ks, h => by
  have h1 := spot_ok (h k (.head _))
  rw [total_cons, total_all fun x hx => h x (.tail _ hx), if_pos (by omega), List.length_cons]
theorem total_le {ks : List (List UInt8)} : ∀ {n : Nat}, total ks n ≤ n * ks.length
 | 0 => by simp [total]
 | n + 1 => by
  have h1 := total_le (ks := ks) (n := n)
  have h2 : (partF ks n).length ≤ ks.length := List.length_filter_le _ _
  rw [Nat.succ_mul]
  simp only [total]
  omega
theorem keysS_len {s : VSt} {p : Int} : (keysS s p).length = (partF (s.bags.map Prod.fst) p).length := sortS_len
theorem keysS_mem {s : VSt} {p : Int} {k : List UInt8} : k ∈ keysS s p ↔ k ∈ s.bags.map Prod.fst ∧ spotF k = p := by
 unfold keysS
 rw [(sortS_perm).mem_iff, List.mem_filter, decide_eq_true_eq]
theorem keysS_rising {s : VSt} {p : Int} (h : (s.bags.map Prod.fst).Nodup) {i : Nat} (h0 : 0 < i) (hi : i < (keysS s p).length) : strLess (keysS s p)[i] ((keysS s p)[i - 1]'(by omega)) = false ∧ ((keysS s p)[i] == ((keysS s p)[i - 1]'(by omega))) = false := rising (h.filter _) h0 hi
theorem rest_fst {part : Int} {l : List (List UInt8 × Bag)} : (restB part l).map Prod.fst = (l.map Prod.fst).filter fun k => !decide (spotF k = part) := by
 induction l with
 | nil => rfl
 | cons x l ih =>
  unfold restB at ih ⊢
  by_cases h : spotF x.1 = part
  · rw [List.filter_cons_of_neg (by simp [h]), List.map_cons, List.filter_cons_of_neg (by simp [h]), ih]
  · rw [List.filter_cons_of_pos (by simp [h]), List.map_cons, List.map_cons, List.filter_cons_of_pos (by simp [h]), ih]
theorem rest_none {part : Int} {ks : List (List UInt8)} : partF (ks.filter fun k => !decide (spotF k = part)) part = [] := by
 unfold partF
 rw [List.filter_filter, List.filter_eq_nil_iff]
 intro k _
 by_cases h : spotF k = part <;> simp [h]
theorem part_split (ks : List (List UInt8)) (part : Int) : (ks.filter fun k => !decide (spotF k = part)).length + (partF ks part).length = ks.length := by
 induction ks with
 | nil => rfl
 | cons k ks ih =>
  unfold partF at ih ⊢
  by_cases h : spotF k = part
  · rw [List.filter_cons_of_neg (by simp [h]), List.filter_cons_of_pos (by simp [h]), List.length_cons, List.length_cons]; omega
  · rw [List.filter_cons_of_pos (by simp [h]), List.filter_cons_of_neg (by simp [h]), List.length_cons, List.length_cons]; omega
def InM : List (List UInt8) → List (AV × AV × Nat) → Prop
 | [], [] => True
 | k :: ks, e :: es => (∃ n, e = (.str k, I 1, n)) ∧ InM ks es
 | _, _ => False
theorem InM.len : ∀ {ks : List (List UInt8)} {es : List (AV × AV × Nat)}, InM ks es → es.length = ks.length
 | [], [], _ => rfl
 | _ :: _, _ :: _, h => by simp [InM.len h.2]
 | [], _ :: _, h => h.elim
 | _ :: _, [], h => h.elim
theorem InM.find {key : List UInt8} : ∀ {ks : List (List UInt8)} {es : List (AV × AV × Nat)} (i : Nat), InM ks es → (key ∉ ks ∧ findKey .s (.str key) es i = some none) ∨ (key ∈ ks ∧ ∃ j, findKey .s (.str key) es i = some (some (i + j, I 1)) ∧ InM ks (es.modify j fun e => (.str key, I 1, e.2.2)))
 | [], [], i, _ => .inl ⟨by simp, rfl⟩
 | k :: ks, e :: es, i, h => by
  obtain ⟨⟨n, rfl⟩, h3⟩ := h
  by_cases hk : key = k
  · subst hk
    exact .inr ⟨.head _, 0, by simp [findKey, eqCell], ⟨⟨n, rfl⟩, h3⟩⟩
  · have hk' : (key == k) = false := by simpa using hk
    rcases h3.find (key := key) (i + 1) with ⟨g1, g2⟩ | ⟨g1, j, g2, g3⟩
    · exact .inl ⟨by simp [hk, g1], by simp [findKey, eqCell, hk', g2]⟩
    · refine .inr ⟨.tail _ g1, j + 1, ?_, ?_⟩
      · simp only [findKey, eqCell, hk', Option.bind_some, Bool.false_eq_true, if_false, g2]
        congr 3
        omega
      · rw [List.modify_succ_cons]
        exact ⟨⟨n, rfl⟩, g3⟩
 | [], _ :: _, _, h => h.elim
 | _ :: _, [], _, h => h.elim
theorem InM.put {key : List UInt8} {n : Nat} : ∀ {ks : List (List UInt8)} {es : List (AV × AV × Nat)}, InM ks es → InM (ks ++ [key]) (es ++ [(.str key, I 1, n)])
 | [], [], _ => ⟨⟨n, rfl⟩, trivial⟩
 | _ :: _, _ :: _, h => ⟨h.1, h.2.put⟩
 | [], _ :: _, h => h.elim
 | _ :: _, [], h => h.elim
end Go.Proofs.YtgbnbgkldeifkaaGreatA

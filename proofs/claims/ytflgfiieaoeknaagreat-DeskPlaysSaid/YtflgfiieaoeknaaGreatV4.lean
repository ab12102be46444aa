/- What a vault's functions do: Put, Merge. No statement about the program is proved here. -/
import Derived.Test.YtflgfiieaoeknaaGreatV3
namespace Go.Proofs.YtflgfiieaoeknaaGreatA
open Go
set_option linter.unusedSimpArgs false
set_option linter.unusedVariables false
set_option maxRecDepth 1000000
attribute [local simp] deed_zero

def bagD (n : Int) (key : List UInt8) (b : Bag) : Deed := ⟨3, n, key, b, zRingS, 0⟩
theorem VOk.wrote {s : VSt} (ok : VOk s) {d : Deed} (hf : deedFits d) : VOk (wroteS s d) := by
  unfold wroteS
  split
  case isFalse => exact ok
  rename_i hz
  have hm : deedMay d = true ∧ (s.ds.length : Int) < s.room := by
    unfold writeE at hz
    split at hz
    · rename_i q
      refine ⟨q, ?_⟩
      split at hz
      · omega
      · have := ok.le; omega
    · omega
  have hle : (((s.ds ++ [d]).length : Nat) : Int) ≤ s.room := by have := hm.2; simp; omega
  have hfit : ∀ x ∈ s.ds ++ [d], deedFits x := fun x hx => by
    rcases List.mem_append.1 hx with q | q
    · exact ok.fit x q
    · rw [List.mem_singleton.1 q]; exact hf
  have hs : s.sure ≤ (s.ds ++ [d]).length := by have := ok.sureN; simp; omega
  have hrn : s.rings ≤ (s.ds ++ [d]).length := by have := ok.ringsN; simp; omega
  unfold countS
  split
  · exact ⟨ok.r0, ok.r1, hle, hfit, ok.rfit, ok.bfit, hrn, ok.d0, ok.d1, hs⟩
  · split
    · exact ⟨ok.r0, ok.r1, hle, hfit, hf.2, ok.bfit, by have := ok.ringsN; simp only [List.length_append, List.length_singleton]; omega, ok.d0, ok.d1, hs⟩
    · split
      · rename_i h1 h2 h3
        have hn : 0 ≤ d.n ∧ d.n ≤ 1000000 := by
          have := hm.1
          simp [deedMay, h3, withinB] at this
          exact this.2.2.2
        refine ⟨ok.r0, ok.r1, hle, hfit, ok.rfit, fun key b hb => ?_, hrn, ?_, ?_, hs⟩
        · simp only [lookB_set] at hb
          split at hb
          · cases hb; exact hf.1
          · exact ok.bfit _ _ hb
        · have := ok.d0; simp only; omega
        · have := ok.d1; simp only; omega
      · exact ⟨ok.r0, ok.r1, hle, hfit, ok.rfit, ok.bfit, hrn, ok.d0, ok.d1, hs⟩
/-- A variable of a function's own is written to. -/
theorem VStep.setF {H H4 : Heap} {p lb mi b : Nat} {s' : VSt} {y : List AV} {z : ABlk} (h : VStep H H4 p lb mi s') (hb : H4[b]? = some (.cells false y)) (h1 : b ≠ p) (h2 : b ≠ lb) (h3 : b ≠ mi) (h4 : H.length ≤ b) : VStep H (H4.set b z) p lb mi s' := by
  obtain ⟨k, v, q, es, ck, hv⟩ := h
  refine ⟨⟨by rw [List.length_set]; exact k.1, fun c w hc n1 n2 n3 n4 => get_set (k.2 c w hc n1 n2 n3 n4) (by have := lt_of hc; omega), fun c w hc n1 n2 n3 n4 => get_set (k.keep2 c w hc n1 n2 n3 n4) (by have := lt_of hc; omega), fun c hc ho => by obtain ⟨v1, s1, r1, g1, g2⟩ := k.offs c hc ho; exact ⟨v1, s1, r1, get_set g1 h2, g2⟩⟩, v, q, es, ck, get_set hv.box h1, ⟨get_set hv.led.at' h2, hv.led.row.setF hb, hv.led.few⟩, hv.tgt.set (off_falseR hv.tgt hb), get_set hv.map h3, hv.ents.keep fun c w hc _ => get_set hc (fun e => by subst e; rw [hb] at hc; cases hc), hv.vn⟩
structure PutR where
  a : Int
  c : Int
  e : Int
  s : VSt
def putO (s : VSt) (node : Int) (key : List UInt8) (known : Nat → Int) (data : List UInt8) : PutR :=
  if node < 0 ∨ 8 ≤ node ∨ keyOk key = false then ⟨0, 0, 1, s⟩
  else if s.dots = 1000000 then ⟨0, 0, 6, s⟩
  else if fullS s key = true then ⟨0, 0, 5, s⟩
  else if putE (bagOf s key).known (bagOf s key).vals known node (s.dots + 1) data = 0 then
    (if writeE (bagD (s.dots + 1) key ⟨putK (bagOf s key).known (bagOf s key).vals known node (s.dots + 1) data, putR (bagOf s key).known (bagOf s key).vals known node (s.dots + 1) data⟩) s.ds s.room = 0 then
      ⟨node, s.dots + 1, 0, wroteS s (bagD (s.dots + 1) key ⟨putK (bagOf s key).known (bagOf s key).vals known node (s.dots + 1) data, putR (bagOf s key).known (bagOf s key).vals known node (s.dots + 1) data⟩)⟩
    else ⟨0, 0, writeE (bagD (s.dots + 1) key ⟨putK (bagOf s key).known (bagOf s key).vals known node (s.dots + 1) data, putR (bagOf s key).known (bagOf s key).vals known node (s.dots + 1) data⟩) s.ds s.room, s⟩)
  else ⟨0, 0, putE (bagOf s key).known (bagOf s key).vals known node (s.dots + 1) data, s⟩
theorem putR_len {k known : Nat → Int} {l : List Val} {a c : Int} {data : List UInt8} : (putR k l known a c data).length ≤ 32 := by
  rcases putE_cases (k := k) (known := known) (l := l) (a := a) (c := c) (data := data) with ⟨_, e⟩ | ⟨_, _, e⟩ | ⟨_, hl, e⟩
  · simp [putR, e]
  · simp [putR, e]
  · simp [putR, e, hl]
theorem putR_fit {k known : Nat → Int} {l : List Val} {a c : Int} {data : List UInt8} : (putR k l known a c data).length * 32 ≤ reachBytes := by
  have hr : reachBytes = 140737488351232 := rfl
  have := putR_len (k := k) (known := known) (l := l) (a := a) (c := c) (data := data)
  omega
theorem joinR_fit {ka kb : Nat → Int} {la lb : List Val} : (joinR ka la kb lb).length * 32 ≤ reachBytes := by
  have hr : reachBytes = 140737488351232 := rfl
  have := joinR_len (ka := ka) (kb := kb) (la := la) (lb := lb)
  omega
theorem bag_len {s : VSt} (ok : VOk s) {key : List UInt8} : (bagOf s key).vals.length < 4611686018427387904 := by
  have hr : reachBytes = 140737488351232 := rfl
  have := bag_fit ok (key := key)
  omega
theorem zr_nil {H : Heap} {n : Int} {key : List UInt8} {b : Bag} : Rd H 1 intC (bagD n key b).ring.plan.targets .nilsl := .inl .nil
set_option maxHeartbeats 2000000 in
theorem c38 {H : Heap} {p lb mi : Nat} {s : VSt} {v q : AV} {es : List (AV × AV × Nat)} {ck : Nat} (h : Vlt H p lb mi s v q es ck) (ok : VOk s) (node : Int) (key : List UInt8) (known : Nat → Int) (data : List UInt8) :
    WCl envE 38 [.ptr (some (p, 0)), I node, .str key, .agg (vecC known), .str data] 0 H fun r H' => r = .tup [.agg [I (putO s node key known data).a, I (putO s node key known data).c], I (putO s node key known data).e] ∧ VStep H H' p lb mi (putO s node key known data).s := by
  obtain ⟨R, hR⟩ : ∃ R, R = putO s node key known data := ⟨_, rfl⟩
  rw [← hR]
  obtain ⟨H1, hH1⟩ : ∃ H1, H1 = H ++ [.cells false (vecC known), .cells false [I 0, I 0]] := ⟨_, rfl⟩
  have hv1 : Vlt H1 p lb mi s v q es ck := by rw [hH1]; exact h.app
  have kp1 : Kp H H1 p lb mi := by rw [hH1]; exact .app
  have ck0 : H1[H.length]? = some (.cells false (vecC known)) := by rw [hH1]; simp
  have cr0 : H1[H.length + 1]? = some (.cells false [I 0, I 0]) := by rw [hH1]; simp
  have cp0 := hv1.cells0
  have hst0 : ∀ (H9 : Heap) (x y : Int), H9[H.length + 1]? = some (.cells false [I 0, I 0]) → storeAt 0 H9 2 (.ptr (some (H.length + 1, 0))) (.agg [I x, I y]) = some (H9.set (H.length + 1) (.cells false [I x, I y])) := fun H9 x y hc => by
    have := store_of (lim := 0) (n := 2) (o := 0) (v := .agg [I x, I y]) hc (by omega) (by simp [AV.cells]) (by simp) (by simp [AV.cells])
    simpa [AV.cells] using this
  have np : H.length + 1 ≠ p := by have := lt_of h.box; omega
  have nl : H.length + 1 ≠ lb := by have := lt_of h.led.at'; omega
  have nm : H.length + 1 ≠ mi := by have := lt_of h.map; omega
  by_cases n1 : node < 0
  · have e : R = ⟨0, 0, 1, s⟩ := by rw [hR]; simp [putO, n1]
    rw [e]
    refine cl_of e38 rfl ?_
    rw [fr_init (by simp [fd38])]
    simp [fd38, b38, n1]
    exact VStep.app h
  by_cases n2 : 8 ≤ node
  · have e : R = ⟨0, 0, 1, s⟩ := by rw [hR]; simp [putO, n2]
    rw [e]
    refine cl_of e38 rfl ?_
    rw [fr_init (by simp [fd38])]
    simp [fd38, b38, n1, n2]
    exact VStep.app h
  cases hk : keyOk key
  · have e : R = ⟨0, 0, 1, s⟩ := by rw [hR]; simp [putO, hk]
    rw [e]
    refine cl_of e38 rfl ?_
    rw [fr_init (by simp [fd38])]
    simp [fd38, b38, n1, n2, hk]
    exact VStep.app h
  by_cases hd : s.dots = 1000000
  · have e : R = ⟨0, 0, 6, s⟩ := by rw [hR]; simp [putO, n1, n2, hk, hd]
    rw [e]
    refine cl_of e38 rfl ?_
    rw [fr_init (by simp [fd38])]
    simp [fd38, b38, n1, n2, hk, ← hH1, cp0, hd, hst0 _ 0 0 cr0, cells_of (List.getElem?_set_self (lt_of cr0))]
    exact ((VStep.refl hv1).after kp1).setF cr0 np nl nm (by omega)
  have hfull := c68 hv1 key 0 (Nat.zero_le _)
  have hw : IntKind.i64.wrap (s.dots + 1) = s.dots + 1 := by have := ok.d0; have := ok.d1; rw [wrap_i64] <;> omega
  obtain ⟨m, hm⟩ : ∃ m, m = s.dots + 1 := ⟨_, rfl⟩
  rw [← hm] at hw
  refine cl_of e38 rfl ?_
  rw [fr_init (by simp [fd38])]
  simp [fd38, b38, n1, n2, hk, ← hH1, cp0, hd]
  refine WCl.mono hfull ?_
  rintro _ _ ⟨rfl, X, rfl⟩
  have crX : (H1 ++ X)[H.length + 1]? = some (.cells false [I 0, I 0]) := get_app cr0
  have fresh : ∀ z, VStep H ((H1 ++ X).set (H.length + 1) z) p lb mi s := fun z => ((VStep.app hv1).after kp1).setF crX np nl nm (by omega)
  cases hfl : fullS s key
  case true =>
    have e : R = ⟨0, 0, 5, s⟩ := by rw [hR]; simp [putO, n1, n2, hk, hd, hfl]
    rw [e]
    simp [hst0 _ 0 0 crX, cells_of (List.getElem?_set_self (lt_of crX))]
    exact fresh _
  obtain ⟨K', hK'⟩ : ∃ K', K' = putK (bagOf s key).known (bagOf s key).vals known node m data := ⟨_, rfl⟩
  obtain ⟨L', hL'⟩ : ∃ L', L' = putR (bagOf s key).known (bagOf s key).vals known node m data := ⟨_, rfl⟩
  obtain ⟨E1, hE1⟩ : ∃ E1, E1 = putE (bagOf s key).known (bagOf s key).vals known node m data := ⟨_, rfl⟩
  have k71i : ∀ H Q, wPu envE 77 (some [.agg (bagV (bagOf s key).known (roL valC (bagOf s key).vals)), .agg (vecC known), .agg [I node, I m], .str data]) H Q = Q (.tup [.agg (bagV K' (thaw (owL 3 valC L') H).1), I E1]) (thaw (owL 3 valC L') H).2 := fun H Q => by
    rw [hK', hL', hE1]
    exact k77 (bag_len ok)
  obtain ⟨H2, hH2⟩ : ∃ H2, H2 = H1 ++ (X ++ [ABlk.cells false [I node, I m]]) := ⟨_, rfl⟩
  have kp2 : Kp H H2 p lb mi := by rw [hH2]; exact kp1.trans .app
  have hv2 : Vlt H2 p lb mi s v q es ck := by rw [hH2]; exact hv1.app
  have c8 : ∀ Z, Heap.cells? (H2 ++ Z) H.length = some (vecC known) := fun Z => by rw [hH2]; exact cells_of (get_app (get_app ck0))
  have c108 : Heap.cells? H2 H.length = some (vecC known) := by simpa using c8 []
  have b12 : ∀ Z, (H2 ++ Z)[H1.length + X.length]? = some (.cells false [I node, I m]) := fun Z => by
    refine get_app ?_
    rw [hH2, ← List.append_assoc]
    have : H1.length + X.length = (H1 ++ X).length := by simp
    rw [this]
    exact get_new
  have c12 := fun Z => cells_of (b12 Z)
  have c152 : Heap.cells? H2 (H1.length + X.length) = some [I node, I m] := by simpa using c12 []
  have b10 : H2[H.length + 1]? = some (.cells false [I 0, I 0]) := by rw [hH2]; exact get_app cr0
  have cp2 := hv2.cells0
  have cm2 := hv2.map
  obtain ⟨x, rr, g1, g2, g3, g4⟩ := hv2.look key
  have fq : ∀ X, frz (H2 ++ X) 11 rr = some (roL valC (bagOf s key).vals) := fun X => (g4.app (X := X)).frz (d := 9) valC_len val_flat
  have fq0 : frz H2 11 rr = some (roL valC (bagOf s key).vals) := g4.frz (d := 9) valC_len val_flat
  obtain ⟨v1, X1, t1, r1⟩ := thaw_owL (H := H2) (lim := 0) (es := 3) val_still (Nat.zero_le _) L'
  obtain ⟨H3, hH3⟩ : ∃ H3, H3 = H2 ++ (X1 ++ [ABlk.cells false (bagV K' v1)]) := ⟨_, rfl⟩
  have o1 := r1.one
  have kp3 : Kp H H3 p lb mi := by rw [hH3]; exact kp2.trans .app
  have hv3 : Vlt H3 p lb mi s v q es ck := by rw [hH3]; exact hv2.app
  have c13 : Heap.cells? H3 (H2.length + X1.length) = some (bagV K' v1) := by rw [hH3]; simp
  have b158 : H3[H1.length + X.length]? = some (.cells false [I node, I m]) := by rw [hH3]; exact b12 _
  have c158 := cells_of b158
  have b139 : H3[H.length + 1]? = some (.cells false [I 0, I 0]) := by rw [hH3]; exact get_app b10
  have rd3 : Rd H3 3 valC L' v1 := .inl (by
    have := r1.app (X := [ABlk.cells false (bagV K' v1)])
    rw [List.append_assoc] at this
    rw [hH3]
    exact this)
  have lenX : H.length + 1 < H1.length + X.length := by rw [hH1]; simp; omega
  have np2 : H1.length + X.length ≠ p := by have := lt_of h.box; omega
  have nl2 : H1.length + X.length ≠ lb := by have := lt_of h.led.at'; omega
  have nm2 : H1.length + X.length ≠ mi := by have := lt_of h.map; omega
  have hfitD : deedFits (bagD m key ⟨K', L'⟩) := ⟨by rw [hL']; exact putR_fit, Nat.zero_le _⟩
  have hkl : (bagD m key ⟨K', L'⟩).key.length < 4611686018427387904 := by
    simp [keyOk] at hk
    simp only [bagD]
    omega
  have hwr := c58 hv3 ok (bagD m key ⟨K', L'⟩) v1 .nilsl (.inr (.inr rfl)) rd3 zr_nil hfitD hkl
  have hdm : deedV 3 m key K' v1 zeroV 0 0 .nilsl zeroV zeroV 0 = deedM (bagD m key ⟨K', L'⟩) v1 .nilsl := rfl
  rw [← hdm] at hwr
  have hm' : ¬ s.dots + 1 = s.dots := by omega
  have hR2 : R = if E1 = 0 then (if writeE (bagD m key ⟨K', L'⟩) s.ds s.room = 0 then ⟨node, m, 0, wroteS s (bagD m key ⟨K', L'⟩)⟩ else ⟨0, 0, writeE (bagD m key ⟨K', L'⟩) s.ds s.room, s⟩) else ⟨0, 0, E1, s⟩ := by
    rw [hR, hE1, hK', hL', hm]
    simp [putO, n1, n2, hk, hd, hfl]
  have hlen3 : H2.length + (X1.length + 1) ≤ H3.length := by rw [hH3]; simp
  have done3 : VStep H H3 p lb mi s := ⟨kp3, _, _, _, _, hv3⟩
  have s0 := hst0 H3 0 0 b139
  have cset0 := cells_of (List.getElem?_set_self (lt_of b139) (a := ABlk.cells false [I 0, I 0]))
  have key2 : ∀ (K : Prop), K → K := fun _ h => h
  by_cases hE0 : E1 = 0
  · rw [if_pos hE0] at hR2
    cases x with
    | none =>
      simp only at g2
      simp [bagV_zero, hv1.cells, cp2, cm2, hw, ← hm, hm', ← hH2, c8, c108, c12, c152, g1, g2, isKey, fq, fq0, k71i, t1, o1, ← hH3, c13, c158, hlen3, hE0]
      refine WCl.mono hwr ?_
      rintro _ H4 ⟨rfl, hs4⟩
      have b140 := hs4.1.2 _ _ b139 np nl nm (by intro y e; cases e)
      have b159 := hs4.1.2 _ _ b158 np2 nl2 nm2 (by intro y e; cases e)
      by_cases hE2 : writeE (bagD m key ⟨K', L'⟩) s.ds s.room = 0
      · rw [if_pos hE2] at hR2
        rw [hR2]
        simp [hE2, cells_of b159, hst0 H4 node m b140, cells_of (List.getElem?_set_self (lt_of b140))]
        exact (hs4.after kp3).setF b140 np nl nm (by omega)
      · rw [if_neg hE2] at hR2
        rw [hR2]
        simp [hE2, hst0 H4 0 0 b140, cells_of (List.getElem?_set_self (lt_of b140))]
        have hs5 := hs4.after kp3
        rw [wroteS, if_neg hE2] at hs5
        exact hs5.setF b140 np nl nm (by omega)
    | some y =>
      obtain ⟨j, w⟩ := y
      simp only at g2
      subst g2
      simp [bagV_zero, hv1.cells, cp2, cm2, hw, ← hm, hm', ← hH2, c8, c108, c12, c152, g1, isKey, fq, fq0, k71i, t1, o1, ← hH3, c13, c158, hlen3, hE0]
      refine WCl.mono hwr ?_
      rintro _ H4 ⟨rfl, hs4⟩
      have b140 := hs4.1.2 _ _ b139 np nl nm (by intro y e; cases e)
      have b159 := hs4.1.2 _ _ b158 np2 nl2 nm2 (by intro y e; cases e)
      by_cases hE2 : writeE (bagD m key ⟨K', L'⟩) s.ds s.room = 0
      · rw [if_pos hE2] at hR2
        rw [hR2]
        simp [hE2, cells_of b159, hst0 H4 node m b140, cells_of (List.getElem?_set_self (lt_of b140))]
        exact (hs4.after kp3).setF b140 np nl nm (by omega)
      · rw [if_neg hE2] at hR2
        rw [hR2]
        simp [hE2, hst0 H4 0 0 b140, cells_of (List.getElem?_set_self (lt_of b140))]
        have hs5 := hs4.after kp3
        rw [wroteS, if_neg hE2] at hs5
        exact hs5.setF b140 np nl nm (by omega)
  · rw [if_neg hE0] at hR2
    rw [hR2]
    cases x with
    | none =>
      simp only at g2
      simp [bagV_zero, hv1.cells, cp2, cm2, hw, ← hm, hm', ← hH2, c8, c108, c12, c152, g1, g2, isKey, fq, fq0, k71i, t1, o1, ← hH3, c13, c158, hlen3, hE0, s0, cset0]
      exact done3.setF b139 np nl nm (by omega)
    | some y =>
      obtain ⟨j, w⟩ := y
      simp only at g2
      subst g2
      simp [bagV_zero, hv1.cells, cp2, cm2, hw, ← hm, hm', ← hH2, c8, c108, c12, c152, g1, isKey, fq, fq0, k71i, t1, o1, ← hH3, c13, c158, hlen3, hE0, s0, cset0]
      exact done3.setF b139 np nl nm (by omega)
structure MergeR where
  e : Int
  s : VSt
def mergeD (s : VSt) (key : List UInt8) (b : Bag) : Deed := bagD s.dots key ⟨joinK (bagOf s key).known (bagOf s key).vals b.known b.vals, joinR (bagOf s key).known (bagOf s key).vals b.known b.vals⟩
def mergeO (s : VSt) (key : List UInt8) (b : Bag) : MergeR :=
  if keyOk key = false ∨ bagMay b.known b.vals = false then ⟨1, s⟩
  else if fullS s key = true then ⟨5, s⟩
  else if joinE (bagOf s key).known (bagOf s key).vals b.known b.vals ≠ 0 ∨ belowB b.known b.vals (bagOf s key).known (bagOf s key).vals = true then ⟨joinE (bagOf s key).known (bagOf s key).vals b.known b.vals, s⟩
  else ⟨writeE (mergeD s key b) s.ds s.room, wroteS s (mergeD s key b)⟩
set_option maxHeartbeats 2000000 in
theorem c26 {H : Heap} {p lb mi : Nat} {s : VSt} {v q : AV} {es : List (AV × AV × Nat)} {ck : Nat} (h : Vlt H p lb mi s v q es ck) (ok : VOk s) (key : List UInt8) (b : Bag) (qb : AV) (hb : Rd H 3 valC b.vals qb) (hbf : b.vals.length * 32 ≤ reachBytes) :
    WCl envE 26 [.ptr (some (p, 0)), .str key, .agg (bagV b.known qb)] 0 H fun r H' => r = I (mergeO s key b).e ∧ VStep H H' p lb mi (mergeO s key b).s := by
  have hrb : reachBytes = 140737488351232 := rfl
  obtain ⟨R, hR⟩ : ∃ R, R = mergeO s key b := ⟨_, rfl⟩
  rw [← hR]
  have o0 := hb.one
  obtain ⟨H1, hH1⟩ : ∃ H1, H1 = H ++ [ABlk.cells false (bagV b.known qb)] := ⟨_, rfl⟩
  have hv1 : Vlt H1 p lb mi s v q es ck := by rw [hH1]; exact h.app
  have kp1 : Kp H H1 p lb mi := by rw [hH1]; exact .app
  have fb : ∀ X, frz (H1 ++ X) 11 qb = some (roL valC b.vals) := fun X => by rw [hH1]; exact (hb.app.app (X := X)).frz (d := 9) valC_len val_flat
  have fb0 : frz H1 11 qb = some (roL valC b.vals) := by rw [hH1]; exact hb.app.frz (d := 9) valC_len val_flat
  have cb : ∀ Z, Heap.cells? (H1 ++ Z) H.length = some (bagV b.known qb) := fun Z => by rw [hH1]; simp
  have cb0 : Heap.cells? H1 H.length = some (bagV b.known qb) := by simpa using cb []
  have hbl : b.vals.length < 4611686018427387904 := by omega
  have hmay : ∀ H K, wPu envE 67 (some [.agg (bagV b.known (roL valC b.vals))]) H K = K (.bool (bagMay b.known b.vals)) H := fun H K => k67 hbl
  cases hk : keyOk key
  · have e : R = ⟨1, s⟩ := by rw [hR]; simp [mergeO, hk]
    rw [e]
    refine cl_of e26 rfl ?_
    rw [fr_init (by simp [fd26])]
    simp [fd26, b26, o0, hk]
    exact VStep.app h
  cases hm : bagMay b.known b.vals
  · have e : R = ⟨1, s⟩ := by rw [hR]; simp [mergeO, hm]
    rw [e]
    refine cl_of e26 rfl ?_
    rw [fr_init (by simp [fd26])]
    simp [fd26, b26, o0, hk, ← hH1, cb0, fb0, hmay, hm]
    exact (VStep.refl hv1).after kp1
  have hfull := c68 hv1 key 0 (Nat.zero_le _)
  refine cl_of e26 rfl ?_
  rw [fr_init (by simp [fd26])]
  simp [fd26, b26, o0, hk, ← hH1, cb0, fb0, hmay, hm]
  refine WCl.mono hfull ?_
  rintro _ _ ⟨rfl, X, rfl⟩
  cases hfl : fullS s key
  case true =>
    have e : R = ⟨5, s⟩ := by rw [hR]; simp [mergeO, hk, hm, hfl]
    rw [e]
    simp
    exact (VStep.app hv1).after kp1
  obtain ⟨H2, hH2⟩ : ∃ H2, H2 = H1 ++ X := ⟨_, rfl⟩
  have kp2 : Kp H H2 p lb mi := by rw [hH2]; exact kp1.trans .app
  have hv2 : Vlt H2 p lb mi s v q es ck := by rw [hH2]; exact hv1.app
  obtain ⟨x, rr, g1, g2, g3, g4⟩ := hv2.look key
  have o4 := g4.one
  obtain ⟨ok1, hok1⟩ : ∃ k, k = (bagOf s key).known := ⟨_, rfl⟩
  obtain ⟨ol, hol⟩ : ∃ l, l = (bagOf s key).vals := ⟨_, rfl⟩
  rw [← hol] at g4
  rw [← hok1] at g2
  have holl : ol.length < 4611686018427387904 := by rw [hol]; exact bag_len ok
  obtain ⟨K', hK'⟩ : ∃ K', K' = joinK ok1 ol b.known b.vals := ⟨_, rfl⟩
  obtain ⟨L', hL'⟩ : ∃ L', L' = joinR ok1 ol b.known b.vals := ⟨_, rfl⟩
  obtain ⟨E1, hE1⟩ : ∃ E1, E1 = joinE ok1 ol b.known b.vals := ⟨_, rfl⟩
  have k53i : ∀ H Q, wPu envE 69 (some [.agg (bagV ok1 (roL valC ol)), .agg (bagV b.known (roL valC b.vals))]) H Q = Q (.tup [.agg (bagV K' (thaw (owL 3 valC L') H).1), I E1]) (thaw (owL 3 valC L') H).2 := fun H Q => by
    rw [hK', hL', hE1]
    exact k69 holl hbl
  have k54i : ∀ H Q, wPu envE 31 (some [.agg (bagV b.known (roL valC b.vals)), .agg (bagV ok1 (roL valC ol))]) H Q = Q (.bool (belowB b.known b.vals ok1 ol)) H := fun H Q => k31 hbl holl
  obtain ⟨H3, hH3⟩ : ∃ H3, H3 = H2 ++ [ABlk.cells false (bagV ok1 rr)] := ⟨_, rfl⟩
  have kp3 : Kp H H3 p lb mi := by rw [hH3]; exact kp2.trans .app
  have hv3 : Vlt H3 p lb mi s v q es ck := by rw [hH3]; exact hv2.app
  have rr3 : Row 0 H3 3 valC ol rr := by rw [hH3]; exact g4.app
  have fr3 : ∀ X, frz (H3 ++ X) 11 rr = some (roL valC ol) := fun X => (rr3.app (X := X)).frz (d := 9) valC_len val_flat
  have fr30 : frz H3 11 rr = some (roL valC ol) := rr3.frz (d := 9) valC_len val_flat
  have fb3 : ∀ X, frz (H3 ++ X) 11 qb = some (roL valC b.vals) := fun Y => by rw [hH3, hH2, List.append_assoc, List.append_assoc]; exact fb _
  have fb30 : frz H3 11 qb = some (roL valC b.vals) := by simpa using fb3 []
  have cb3 : ∀ Z, Heap.cells? (H3 ++ Z) H.length = some (bagV b.known qb) := fun Z => by rw [hH3, hH2, List.append_assoc, List.append_assoc]; exact cb _
  have cb30 : Heap.cells? H3 H.length = some (bagV b.known qb) := by simpa using cb3 []
  have c7 : ∀ Z, Heap.cells? (H3 ++ Z) H2.length = some (bagV ok1 rr) := fun Z => by rw [hH3]; simp
  have c74 : Heap.cells? H3 H2.length = some (bagV ok1 rr) := by simpa using c7 []
  obtain ⟨v1, X1, t1, r1⟩ := thaw_owL (H := H3) (lim := 0) (es := 3) val_still (Nat.zero_le _) L'
  obtain ⟨H4, hH4⟩ : ∃ H4, H4 = H3 ++ (X1 ++ [ABlk.cells false (bagV K' v1)]) := ⟨_, rfl⟩
  have o1 := r1.one
  have kp4 : Kp H H4 p lb mi := by rw [hH4]; exact kp3.trans .app
  have hv4 : Vlt H4 p lb mi s v q es ck := by rw [hH4]; exact hv3.app
  have c8 : Heap.cells? H4 (H3.length + X1.length) = some (bagV K' v1) := by rw [hH4]; simp
  have rd4 : Rd H4 3 valC L' v1 := .inl (by
    have := r1.app (X := [ABlk.cells false (bagV K' v1)])
    rw [List.append_assoc] at this
    rw [hH4]
    exact this)
  have cb4 : Heap.cells? H4 H.length = some (bagV b.known qb) := by rw [hH4]; exact cb3 _
  have c88 : Heap.cells? H4 H2.length = some (bagV ok1 rr) := by rw [hH4]; exact c7 _
  have fb4 : frz H4 11 qb = some (roL valC b.vals) := by rw [hH4]; exact fb3 _
  have fr4 : frz H4 11 rr = some (roL valC ol) := by rw [hH4]; exact fr3 _
  have cp4 := hv4.cells0
  have hdm : deedV 3 s.dots key K' v1 zeroV 0 0 .nilsl zeroV zeroV 0 = deedM (bagD s.dots key ⟨K', L'⟩) v1 .nilsl := rfl
  have hkl : (bagD s.dots key ⟨K', L'⟩).key.length < 4611686018427387904 := by
    simp [keyOk] at hk
    simp only [bagD]
    omega
  have hwr := c58 hv4 ok (bagD s.dots key ⟨K', L'⟩) v1 .nilsl (.inr (.inr rfl)) rd4 zr_nil ⟨by rw [hL']; exact joinR_fit, Nat.zero_le _⟩ hkl
  rw [← hdm] at hwr
  have hR2 : R = if E1 ≠ 0 ∨ belowB b.known b.vals ok1 ol = true then ⟨E1, s⟩ else ⟨writeE (bagD s.dots key ⟨K', L'⟩) s.ds s.room, wroteS s (bagD s.dots key ⟨K', L'⟩)⟩ := by
    rw [hR, hE1, hK', hL', hok1, hol]
    simp [mergeO, mergeD, hk, hm, hfl]
  have hlen4 : H3.length ≤ H4.length := by rw [hH4]; simp
  have cp2 := hv2.cells0
  have cm2 := hv2.map
  have g2' := g2
  by_cases hE0 : E1 = 0
  · by_cases hB : belowB b.known b.vals ok1 ol = true
    · rw [if_pos (.inr hB)] at hR2
      rw [hR2]
      cases x with
      | none =>
        simp only at g2
        simp [bagV_zero, ← hH2, cp2, cm2, g1, g2, isKey, o4, ← hH3, c74, cb30, fr30, fb30, k53i, t1, o1, ← hH4, cb4, c88, fb4, fr4, hE0, k54i, hB]
        exact (VStep.refl hv4).after kp4
      | some y =>
        obtain ⟨j, w⟩ := y
        simp only at g2
        subst g2
        simp [bagV_zero, ← hH2, cp2, cm2, g1, isKey, o4, ← hH3, c74, cb30, fr30, fb30, k53i, t1, o1, ← hH4, cb4, c88, fb4, fr4, hE0, k54i, hB]
        exact (VStep.refl hv4).after kp4
    · rw [if_neg (by simp [hE0, hB])] at hR2
      rw [hR2]
      cases x with
      | none =>
        simp only at g2
        simp [bagV_zero, ← hH2, cp2, cm2, g1, g2, isKey, o4, ← hH3, c74, cb30, fr30, fb30, k53i, t1, o1, ← hH4, cb4, c88, fb4, fr4, hE0, k54i, hB, c8, cp4]
        refine WCl.mono hwr ?_
        rintro _ H5 ⟨rfl, hs5⟩
        have hlen5 := hs5.1.1
        simp [hlen5]
        exact hs5.after kp4
      | some y =>
        obtain ⟨j, w⟩ := y
        simp only at g2
        subst g2
        simp [bagV_zero, ← hH2, cp2, cm2, g1, isKey, o4, ← hH3, c74, cb30, fr30, fb30, k53i, t1, o1, ← hH4, cb4, c88, fb4, fr4, hE0, k54i, hB, c8, cp4]
        refine WCl.mono hwr ?_
        rintro _ H5 ⟨rfl, hs5⟩
        have hlen5 := hs5.1.1
        simp [hlen5]
        exact hs5.after kp4
  · rw [if_pos (.inl hE0)] at hR2
    rw [hR2]
    cases x with
    | none =>
      simp only at g2
      simp [bagV_zero, ← hH2, cp2, cm2, g1, g2, isKey, o4, ← hH3, c74, cb30, fr30, fb30, k53i, t1, o1, ← hH4, hE0]
      exact (VStep.refl hv4).after kp4
    | some y =>
      obtain ⟨j, w⟩ := y
      simp only at g2
      subst g2
      simp [bagV_zero, ← hH2, cp2, cm2, g1, isKey, o4, ← hH3, c74, cb30, fr30, fb30, k53i, t1, o1, ← hH4, hE0]
      exact (VStep.refl hv4).after kp4
end Go.Proofs.YtflgfiieaoeknaaGreatA

/- Nothing is taken where there is no ring. No statement about the program is proved here. -/
import Derived.Test.YtflgfiieaoeknaaGreatT0
namespace Go.Proofs.YtflgfiieaoeknaaGreatA
open Go Go.RowKit
set_option linter.unusedVariables false
set_option linter.unusedSimpArgs false
set_option maxRecDepth 1000000
attribute [local simp] deed_zero ring_zero msg_zero

abbrev zMsg : List AV := mV 0 0 0 0 0 0 0 0 [] zeroV .nilsl zeroV 0 0 .nilsl zeroV zeroV .nilsl
theorem k65' {kd : Int} {m : Msg} {H : Heap} {K : AV → Heap → Prop} : wPu envE 70 (some [.agg (mV kd m.from' m.to m.seq m.for' m.about m.part m.epoch m.key m.bag.known (roL valC m.bag.vals) m.ring.status m.ring.plan.version m.ring.plan.by' (roL intC m.ring.plan.targets) m.ring.epoch m.ring.owner (roL claimC m.claims))]) H K = K (.bool (msgPlaced m)) H := by
  exact k70 (m := { m with kind := kd }) (H := H) (K := K)
theorem msg_roframe (kd : Int) (m : Msg) (H : Heap) : mapO (frz H 11) (mV kd m.from' m.to m.seq m.for' m.about m.part m.epoch m.key m.bag.known (roL valC m.bag.vals) m.ring.status m.ring.plan.version m.ring.plan.by' (roL intC m.ring.plan.targets) m.ring.epoch m.ring.owner (roL claimC m.claims)) = some (mV kd m.from' m.to m.seq m.for' m.about m.part m.epoch m.key m.bag.known (roL valC m.bag.vals) m.ring.status m.ring.plan.version m.ring.plan.by' (roL intC m.ring.plan.targets) m.ring.epoch m.ring.owner (roL claimC m.claims)) :=
  mV_frz (d := 10) (by simp) (by simp) (by simp)
theorem store_msg {lim : Nat} {G : Heap} {i : Nat} (h : G[i]? = some (.cells false zMsg)) (hl : lim ≤ i) : storeAt lim G 62 (.ptr (some (i, 0))) (.agg zMsg) = some G := by
  have := store_of (lim := lim) (n := 62) (o := 0) (v := .agg zMsg) h hl (by simp [AV.cells]) (by simp) (by simp [AV.cells])
  rw [this]
  simp only [AV.cells, mV_over mV_len]
  congr 1
  apply List.ext_getElem?
  intro j
  rw [List.getElem?_set]
  split
  · rename_i e
    subst e
    rw [if_pos (lt_of h), h]
  · rfl

/-! ## A vault is opened, wherever -/
theorem c14l {H : Heap} {lb : Nat} {room : Int} (lim : Nat) (hlim : lim ≤ H.length) (h : H[lb]? = some (.cells false [.nilsl, I 0, I room])) :
    WCl envE 11 [.ptr (some (lb, 0))] lim H fun r H' => r = .ptr (some (H.length + 1, 0)) ∧ ∃ X, H' = H ++ X ∧ Vlt H' (H.length + 1) lb H.length (emptyS room) .nilsl .nilsl [] 0 := by
  refine cl_of e11 rfl ?_
  obtain ⟨B, hB⟩ : ∃ B, B = vltE lb H.length := ⟨_, rfl⟩
  have hbo : (∀ x : AV, x ∈ B → x.one = true) = True := eq_true (List.all_eq_true.1 (by rw [hB]; exact vlt_one))
  have hL : Led 0 (H ++ [.map [] 0, .cells false B]) lb .nilsl [] 0 room := ⟨get_app h, .nil, by simp⟩
  have hall := c50 hL (by simp) lim (by simp; omega)
  rw [fr_init (by simp [fd11])]
  simp [fd11, b11, vlt_zero, ← hB, hbo]
  refine WCl.mono hall ?_
  rintro x _ ⟨X, rfl, hD⟩
  have hl := hD.len
  simp [hl]
  refine loop_go [3, 4, 16, 17, 18] rfl (fun m vs H' => H' = H ++ .map [] 0 :: .cells false B :: X ∧ vs = [.ptr (some (H.length + 1, 0)), .fn (.func 49) [.ptr (some (H.length + 1, 0))] [], x, I 0, I 0]) ?_ 0 ⟨rfl, rfl⟩
  rintro J hJ m vs H' f ⟨rfl, rfl⟩
  simp [lp11_0]
  refine ⟨?_, ?_, .nil, ?_, trivial, fun _ => rfl⟩
  · simp [hB, vltE_eq]
  · exact ⟨by rw [List.getElem?_append_left (lt_of h)]; exact h, .nil, by simp [emptyS]⟩
  · simp
theorem open_newL (room : Int) (H : Heap) (lim : Nat) (hlim : lim ≤ H.length + 1) (h0 : 0 ≤ room) (h1 : room ≤ 3000) {K : AV → Heap → Prop} (hK : ∀ X, Vlt (H ++ ABlk.cells false [.nilsl, I 0, I room] :: X) (H.length + 2) H.length (H.length + 1) (emptyS room) .nilsl .nilsl [] 0 → K (.ptr (some (H.length + 2, 0))) (H ++ ABlk.cells false [.nilsl, I 0, I room] :: X)) :
    WCl envE 11 [.ptr (some (H.length, 0))] lim (H ++ [.cells false [.nilsl, I 0, I room]]) K := by
  refine WCl.mono (c14l (H := H ++ [.cells false [.nilsl, I 0, I room]]) (lb := H.length) (room := room) lim (by simp; omega) (by simp)) ?_
  rintro _ _ ⟨rfl, X, rfl, hv⟩
  have e : (H ++ [ABlk.cells false [.nilsl, I 0, I room]]).length = H.length + 1 := by simp
  rw [e, List.append_assoc] at hv
  rw [e, List.append_assoc]
  exact hK _ hv

/-! ## Without a ring -/
def NoRing (v : AV) (H : Heap) : Prop := ∀ X lim, lim ≤ (H ++ X).length → WCl envE 93 [v] lim (H ++ X) fun r H' => (∃ Y, H' = H ++ X ++ Y) ∧ r = .tup [.agg (ringV zeroV 0 0 .nilsl zeroV zeroV), .bool false]
theorem noRing_nil {H : Heap} : NoRing (.ptr none) H := by
  intro X lim hlim
  have hover : ∀ {st ep ow : Nat → Int} {ver by' : Int} {q : AV} (l : List AV), l.length = 43 → setFrom l 0 (ringV st ver by' q ep ow) = ringV st ver by' q ep ow := fun l hl => setFrom_all _ _ (by rw [hl, ringV_len])
  obtain ⟨G, hG⟩ : ∃ G, G = H ++ X := ⟨_, rfl⟩
  rw [← hG] at hlim ⊢
  refine cl_of e93 rfl ?_
  rw [fr_init (by simp [fd93])]
  simp [fd93, b93, hlim, hover]
theorem noRing_vlt {H : Heap} {p lb mi : Nat} {s : VSt} {v q : AV} {es : List (AV × AV × Nat)} {ck : Nat} (h : Vlt H p lb mi s v q es ck) (ok : VOk s) (hr : s.rings = 0) : NoRing (.ptr (some (p, 0))) H := by
  intro X lim hlim
  refine WCl.mono (c93 (h.app (X := X)) ok lim hlim) ?_
  rintro _ _ ⟨Y, rfl, ⟨_, rfl⟩ | ⟨h2, _⟩⟩
  · exact ⟨⟨Y, rfl⟩, rfl⟩
  · exact absurd hr h2
theorem c66n {v : AV} {H : Heap} (h : NoRing v H) (m : Msg) (X : Heap) (lim : Nat) (hlim : lim ≤ (H ++ X).length) : WCl envE 71 [.agg (msgC m), v] lim (H ++ X) fun r H' => (∃ Y, H' = H ++ X ++ Y) ∧ r = I 8 := by
  have hover : ∀ {st ep ow : Nat → Int} {ver by' : Int} {q : AV} (l : List AV), l.length = 43 → setFrom l 0 (ringV st ver by' q ep ow) = ringV st ver by' q ep ow := fun l hl => setFrom_all _ _ (by rw [hl, ringV_len])
  refine cl_of e71 rfl ?_
  rw [fr_init (by simp [fd71])]
  have hc := fun Z => h (X ++ Z) lim (by simp at hlim ⊢; omega)
  simp only [← List.append_assoc] at hc
  simp [fd71, b71]
  simp only [← List.append_assoc]
  refine WCl.mono (hc _) ?_
  rintro _ G ⟨⟨Y, hG⟩, rfl⟩
  have hl : lim ≤ G.length := by rw [hG]; simp at hlim ⊢; omega
  simp [hl, hover]
  exact ⟨_, by rw [hG]; simp only [List.append_assoc]; rfl⟩
theorem c35n {v : AV} {H : Heap} (h : NoRing v H) (m : Msg) (lim : Nat) (hlim : lim ≤ H.length) :
    WCl envE 27 [.agg (msgC m), v] lim H fun r H' => ∃ e : Int, (e = 1 ∨ e = 8) ∧ (m.kind ≠ 5 → e = 1) ∧ r = .tup [.agg zMsg, I e] ∧ ∃ X, H' = H ++ X := by
  have hl2 : lim ≤ H.length + 2 := by omega
  by_cases h1 : m.kind = 5
  · cases h2 : msgPlaced m
    · refine cl_of e27 rfl ?_
      rw [fr_init (by simp [fd27])]
      simp [fd27, b27, h1, hlim, hl2, k65', h2, msg_roframe]
    · by_cases h3 : spotF m.key = m.part
      · refine cl_of e27 rfl ?_
        rw [fr_init (by simp [fd27])]
        simp [fd27, b27, h1, hlim, hl2, k65', h2, h3, msg_roframe]
        have := c66n h m
        simp only [msgC_eq, h1] at this
        refine WCl.mono (this _ lim (by simp; omega)) ?_
        rintro _ G ⟨⟨Y, hG⟩, rfl⟩
        have cz : G[H.length + 1]? = some (.cells false zMsg) := by rw [hG]; simp
        simp [store_msg cz (by omega : lim ≤ H.length + 1), cells_of cz]
        exact ⟨_, by rw [hG]; simp only [List.append_assoc]; rfl⟩
      · refine cl_of e27 rfl ?_
        rw [fr_init (by simp [fd27])]
        simp [fd27, b27, h1, hlim, hl2, k65', h2, h3, msg_roframe]
  · refine cl_of e27 rfl ?_
    rw [fr_init (by simp [fd27])]
    simp [fd27, b27, h1, hlim, hl2]
/-! ## What is light -/
theorem c47 (l : List Ring) (hl : l.length < 4611686018427387904) : ∃ n, Pu envE 47 [roL ringC l] (I n) := by
  suffices h : ∃ d, Pu envE 47 [roL ringC l] d ∧ ∃ n, d = I n by
    obtain ⟨d, h1, n, rfl⟩ := h
    exact ⟨n, h1⟩
  refine pu_ex e47 rfl ?_
  rw [fr_init (by simp [fd47])]
  simp [fd47, b47]
  refine loop_go [5, 6, 7] rfl (fun m vs H => ∃ i, m + i = l.length ∧ vs = [roL ringC l, I l.length, I i]) ?_ l.length ⟨0, rfl, rfl⟩
  rintro J hJ m vs H b ⟨i, hm, rfl⟩
  by_cases hi : i < l.length
  · have hw := wrap_succ (i := i) (by omega)
    have hld := load_roL ringC_len hi (H := H)
    have hover : ∀ q : List AV, q.length = 43 → setFrom q 0 (ringC l[i]) = ringC l[i] := fun q hq => setFrom_all _ _ (by rw [hq, ringC_len])
    simp only [ringC_eq] at hover
    by_cases hn : (100 : Int) < l[i].plan.targets.length
    · simp [lp47_0, hi, idxSl_roL hi, hld, hn, hover, -load_tp]
    · simp [lp47_0, hi, idxSl_roL hi, hld, hn, hw, hover, -load_tp]
      exact nxt hJ (m - 1) (by omega) ⟨i + 1, by omega, rfl⟩
  · simp [lp47_0, hi]
theorem heavy28 (r s : Ring) : ∃ n, Pu envE 47 [.ro 2 (ringV r.status r.plan.version r.plan.by' (roL intC r.plan.targets) r.epoch r.owner ++ ringV s.status s.plan.version s.plan.by' (roL intC s.plan.targets) s.epoch s.owner)] (I n) := by
  have := c47 [r, s] (by simp)
  simpa [roL] using this
theorem two_rings {l : List AV} {st ep ow st2 ep2 ow2 : Nat → Int} {v b v2 b2 : Int} {r r2 : AV} (h : l.length = 86) : setFrom (setFrom l 0 (ringV st v b r ep ow)) 43 (ringV st2 v2 b2 r2 ep2 ow2) = ringV st v b r ep ow ++ ringV st2 v2 b2 r2 ep2 ow2 :=
  setFrom_two (a := ringV st v b r ep ow) (b := ringV st2 v2 b2 r2 ep2 ow2) (by rw [h]; rfl)
theorem two_take {st ep ow st2 ep2 ow2 : Nat → Int} {v b v2 b2 : Int} {r r2 : AV} : (ringV st v b r ep ow ++ ringV st2 v2 b2 r2 ep2 ow2).take 86 = ringV st v b r ep ow ++ ringV st2 v2 b2 r2 ep2 ow2 := List.take_of_length_le (by simp)
theorem c22 (m : Msg) (r : Ring) (hl : m.bag.vals.length < 4611686018427387904) : ∃ b, Pu envE 22 [.agg (msgC m), .agg (ringC r)] (.bool b) := by
  suffices h : ∃ d, Pu envE 22 [.agg (msgC m), .agg (ringC r)] d ∧ ∃ b, d = .bool b by
    obtain ⟨d, h1, b, rfl⟩ := h
    exact ⟨b, h1⟩
  refine pu_ex e22 rfl ?_
  obtain ⟨x, hx⟩ := heavy15 m.bag.known m.bag.vals hl
  obtain ⟨y, hy⟩ := heavy28 r m.ring
  have t1 := fun {st ep ow st2 ep2 ow2 : Nat → Int} {v b v2 b2 : Int} {r r2 : AV} {l : List AV} => two_rings (st := st) (ep := ep) (ow := ow) (st2 := st2) (ep2 := ep2) (ow2 := ow2) (v := v) (b := b) (v2 := v2) (b2 := b2) (r := r) (r2 := r2) (l := l)
  have fz : ∀ H, mapO (frz H 10) (ringV r.status r.plan.version r.plan.by' (roL intC r.plan.targets) r.epoch r.owner ++ ringV m.ring.status m.ring.plan.version m.ring.plan.by' (roL intC m.ring.plan.targets) m.ring.epoch m.ring.owner) = some (ringV r.status r.plan.version r.plan.by' (roL intC r.plan.targets) r.epoch r.owner ++ ringV m.ring.status m.ring.plan.version m.ring.plan.by' (roL intC m.ring.plan.targets) m.ring.epoch m.ring.owner) := fun H => mapO_app (by simp) (by simp)
  have fz1 : ∀ H, mapO (frz H 11) (ringV r.status r.plan.version r.plan.by' (roL intC r.plan.targets) r.epoch r.owner ++ ringV m.ring.status m.ring.plan.version m.ring.plan.by' (roL intC m.ring.plan.targets) m.ring.epoch m.ring.owner) = some (ringV r.status r.plan.version r.plan.by' (roL intC r.plan.targets) r.epoch r.owner ++ ringV m.ring.status m.ring.plan.version m.ring.plan.by' (roL intC m.ring.plan.targets) m.ring.epoch m.ring.owner) := fun H => mapO_app (by simp) (by simp)
  by_cases hk : (m.key.length : Int) ≤ 200
  · rw [fr_init (by simp [fd22])]
    simp [fd22, b22, frz_sl, hk, wPu_eq hx, wPu_eq hy, two_rings, two_take, setFrom_len, fz, fz1]
    exact (Classical.em _).symm
  · rw [fr_init (by simp [fd22])]
    simp [fd22, b22, hk]
end Go.Proofs.YtflgfiieaoeknaaGreatA

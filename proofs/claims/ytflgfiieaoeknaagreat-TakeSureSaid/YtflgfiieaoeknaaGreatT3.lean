/- Give and End at a taker. No statement about the program is proved here. -/
import Derived.Test.YtflgfiieaoeknaaGreatT2
namespace Go.Proofs.YtflgfiieaoeknaaGreatA
open Go Go.RowKit
set_option linter.unusedVariables false
set_option linter.unusedSimpArgs false
set_option maxRecDepth 1000000
attribute [local simp] deed_zero ring_zero msg_zero

theorem store_hid {b k n o : Nat} {G : Heap} {g : Bool} {z : List AV} {v : AV} (hk : k ≠ b) (h : G[k]? = some (.cells g z)) (h1 : v.cells.length = n) (h2 : o + n ≤ z.length) (h3 : v.cells.all AV.one = true) :
    storeAt 0 (Go.Proofs.YtflgfiieaoeknaaGreatA.hide [b] G) n (.ptr (some (k, o))) v = some ((Go.Proofs.YtflgfiieaoeknaaGreatA.hide [b] G).set k (.cells g (setFrom z o v.cells))) :=
  store_of (by rw [hide_get, if_neg (by simpa using hk)]; exact h) (Nat.zero_le _) h1 h2 h3
theorem unhid_set {b k : Nat} {G : Heap} {x : ABlk} (hb : b < G.length) (hk : k ≠ b) : unhide [b] G ((Go.Proofs.YtflgfiieaoeknaaGreatA.hide [b] G).set k x) = G.set k x := by
  apply List.ext_getElem?
  intro j
  rw [unhide_get (by simpa using hb) (by rw [List.length_set, hide_len]; exact Nat.le_refl _), List.getElem?_set, List.getElem?_set, hide_get, hide_len]
  by_cases hj : j = b
  · subst hj
    rw [if_pos (by simp), if_neg hk]
  · simp [hj]
theorem clone_rd {α : Type} {es bytes lim : Nat} {f : α → List AV} {H : Heap} {l : List α} {q : AV} (hl : ∀ x, (f x).length = es) (hes : 0 < es) (h1 : ∀ x, (f x).all AV.one = true) (hb : l.length * bytes ≤ most) (hb2 : l.length ≤ most) (h : Rd H es f l q) :
    ∃ v X, cloneG es bytes [q] lim H = some (v, H ++ X) ∧ Row H.length (H ++ X) es f l v := by
  have hel : elems H es q = some (l.length, l.flatMap f) := by
    rcases h with h | rfl
    · exact h.elems hl
    · simp only [elems, roL, flatMap_len hl, if_true]
  by_cases e : l = []
  · subst e
    refine ⟨.nilsl, [], ?_, .inl ⟨rfl, rfl⟩⟩
    simp only [cloneG, appendAV, hel, Option.bind_some, List.length_nil, if_true, List.append_nil]
  · have hm : l.length ≠ 0 := fun q => e (List.length_eq_zero_iff.1 q)
    have hone : (l.flatMap f).all AV.one = true := by
      rw [List.all_flatMap]
      exact List.all_eq_true.2 fun x _ => h1 x
    refine ⟨.sl H.length 0 l.length es, [.cells true (l.flatMap f)], ?_, .inr ⟨e, _, Nat.le_refl _, rfl, by simp⟩⟩
    simp only [cloneG, appendAV, hel, Option.bind_some, hm, if_false]
    rw [if_pos ⟨hb, hb2, hes, hone⟩]
theorem store_over {G : Heap} {i : Nat} {z y : List AV} (h : G[i]? = some (.cells false z)) (hz : z.length = 62) (hy : y.length = 62) (ho : y.all AV.one = true) : storeAt 0 G 62 (.ptr (some (i, 0))) (.agg y) = some (G.set i (.cells false y)) := by
  have := store_of (lim := 0) (n := 62) (o := 0) (v := .agg y) h (Nat.zero_le _) (by simpa [AV.cells] using hy) (by simp [hz]) (by simpa [AV.cells] using ho)
  rw [this]
  simp only [AV.cells]
  rw [setFrom_all _ _ (by rw [hz, hy])]
abbrev bkM (kk fr p ep : Int) : List AV := mV kk 7 fr 0 0 0 p ep [] zeroV .nilsl zeroV 0 0 .nilsl zeroV zeroV .nilsl
section
variable {H : Heap} {p0 lb mi : Nat} {s : VSt} {v q : AV} {es : List (AV × AV × Nat)} {ck : Nat} {b : Bag} {qb : AV} {fr p ep : Int} {key : List UInt8}
theorem c35o (h : Vlt H p0 lb mi s v q es ck) (ok : VOk s) (hb : Rd H 3 valC b.vals qb) (t : TkOk s 5 fr p) (hsp : spotF key = p) (hM : mayE (gM 5 fr p ep key b) s.ring = false) :
    WCl envE 27 [.agg (gQ 5 fr p ep key b.known qb), .ptr (some (p0, 0))] 0 H fun r H' => (∃ X, H' = H ++ X) ∧ r = .tup [.agg zMsg, I 11] := by
  obtain ⟨H1, hH1⟩ : ∃ H1, H1 = H ++ [ABlk.cells false (gQ 5 fr p ep key b.known qb), ABlk.cells false zMsg] := ⟨_, rfl⟩
  have hv1 : Vlt H1 p0 lb mi s v q es ck := by rw [hH1]; exact h.app
  have rd1 : Rd H1 3 valC b.vals qb := by rw [hH1]; exact hb.app
  have cb : Heap.cells? H1 H.length = some (gQ 5 fr p ep key b.known qb) := by rw [hH1]; simp
  have cz : H1[H.length + 1]? = some (.cells false zMsg) := by rw [hH1]; simp
  have fm := gQ_frz (kd := 5) (fr := fr) (p := p) (ep := ep) (key := key) (b := b) (rd1.frz (d := 9) valC_len val_flat)
  have km := fun H K => k65g (kd := 5) (fr := fr) (p := p) (ep := ep) (key := key) (b := b) t.hfr t.hp (H := H) (K := K)
  have o0 := hb.one
  have h6 := c66r (kd := 5) (ep := ep) (key := key) hv1 ok rd1 t 0 (Nat.zero_le _)
  refine cl_of e27 rfl ?_
  rw [fr_init (by simp [fd27])]
  simp [fd27, b27, o0, ← hH1, cb, fm, km, hsp]
  refine WCl.mono h6 ?_
  rintro _ G ⟨⟨X, hG⟩, rfl⟩
  have cz2 : G[H.length + 1]? = some (.cells false zMsg) := by rw [hG]; exact get_app cz
  simp [hM, store_msg cz2 (Nat.zero_le _), cells_of cz2]
  exact ⟨_, by rw [hG, hH1]; simp only [List.append_assoc]; rfl⟩
set_option maxHeartbeats 1000000 in
theorem c35g (h : Vlt H p0 lb mi s v q es ck) (ok : VOk s) (hb : Rd H 3 valC b.vals qb) (hD : isD (b.vals.flatMap valC) = false) (hbl : b.vals.length ≤ 32) (t : TkOk s 5 fr p) (hsp : spotF key = p) (hM : mayE (gM 5 fr p ep key b) s.ring = true) (he : (mergeO s key b).e = 0) :
    WCl envE 27 [.agg (gQ 5 fr p ep key b.known qb), .ptr (some (p0, 0))] 0 H fun r H' => VStep H H' p0 lb mi { (mergeO s key b).s with sure := (mergeO s key b).s.ds.length } ∧ ∃ q', AV.one q' = true ∧ r = .tup [.agg (mV 6 7 fr 1 0 0 p ep key b.known q' zeroV 0 0 .nilsl zeroV zeroV .nilsl), I 0] := by
  have hrb : reachBytes = 140737488351232 := rfl
  obtain ⟨H1, hH1⟩ : ∃ H1, H1 = H ++ [ABlk.cells false (gQ 5 fr p ep key b.known qb), ABlk.cells false zMsg] := ⟨_, rfl⟩
  have hv1 : Vlt H1 p0 lb mi s v q es ck := by rw [hH1]; exact h.app
  have kp1 : Kp H H1 p0 lb mi := by rw [hH1]; exact .app
  have rd1 : Rd H1 3 valC b.vals qb := by rw [hH1]; exact hb.app
  have cb0 : H1[H.length]? = some (.cells false (gQ 5 fr p ep key b.known qb)) := by rw [hH1]; simp
  have cb := cells_of cb0
  have cz : H1[H.length + 1]? = some (.cells false zMsg) := by rw [hH1]; simp
  have fm := gQ_frz (kd := 5) (fr := fr) (p := p) (ep := ep) (key := key) (b := b) (rd1.frz (d := 9) valC_len val_flat)
  have km := fun H K => k65g (kd := 5) (fr := fr) (p := p) (ep := ep) (key := key) (b := b) t.hfr t.hp (H := H) (K := K)
  have o0 := hb.one
  have np : H.length ≠ p0 := by have := lt_of h.box; omega
  have nl : H.length ≠ lb := by have := lt_of h.led.at'; omega
  have nm : H.length ≠ mi := by have := lt_of h.map; omega
  have np1 : H.length + 1 ≠ p0 := by have := lt_of h.box; omega
  have nl1 : H.length + 1 ≠ lb := by have := lt_of h.led.at'; omega
  have nm1 : H.length + 1 ≠ mi := by have := lt_of h.map; omega
  have h6 := c66r (kd := 5) (ep := ep) (key := key) hv1 ok rd1 t 0 (Nat.zero_le _)
  refine cl_of e27 rfl ?_
  rw [fr_init (by simp [fd27])]
  simp [fd27, b27, o0, ← hH1, cb, fm, km, hsp]
  refine WCl.mono h6 ?_
  rintro _ G ⟨⟨X, hG⟩, rfl⟩
  have hvG : Vlt G p0 lb mi s v q es ck := by rw [hG]; exact hv1.app
  have kpG : Kp H G p0 lb mi := by rw [hG]; exact kp1.trans .app
  have rdG : Rd G 3 valC b.vals qb := by rw [hG]; exact rd1.app
  have cbG : G[H.length]? = some (.cells false (gQ 5 fr p ep key b.known qb)) := by rw [hG]; exact get_app cb0
  have czG : G[H.length + 1]? = some (.cells false zMsg) := by rw [hG]; exact get_app cz
  simp [hM, cells_of cbG]
  refine WCl.mono (c26 hvG ok key b qb rdG (by omega)) ?_
  rintro _ H3 ⟨rfl, hs3⟩
  obtain ⟨S, hS⟩ : ∃ S, S = (mergeO s key b).s := ⟨_, rfl⟩
  rw [← hS] at hs3 ⊢
  have cb3 := hs3.1.2 _ _ cbG np nl nm (by intro y e; cases e)
  have cz3 := hs3.1.2 _ _ czG np1 nl1 nm1 (by intro y e; cases e)
  have rd3 : Rd H3 3 valC b.vals qb := rdG.keepD hD (hs3.1.rows hvG)
  obtain ⟨k3, v3, q3, es3, ck3, hv3⟩ := hs3
  simp [he]
  refine WCl.mono (c36 hv3) ?_
  rintro _ H4 ⟨hs4, n, rfl⟩
  have cb4 := hs4.1.2 _ _ cb3 np nl nm (by intro y e; cases e)
  have cz4 := hs4.1.2 _ _ cz3 np1 nl1 nm1 (by intro y e; cases e)
  have rd4 : Rd H4 3 valC b.vals qb := rd3.keepD hD (hs4.1.rows hv3)
  have fm4 := gQ_frz (kd := 5) (fr := fr) (p := p) (ep := ep) (key := key) (b := b) (rd4.frz (d := 9) valC_len val_flat)
  obtain ⟨G5, hG5⟩ : ∃ G5, G5 = H4 ++ [ABlk.cells false (bkM 6 fr p ep)] := ⟨_, rfl⟩
  have l4 : H.length + 1 < H4.length := lt_of cz4
  have cb5 : G5[H.length]? = some (.cells false (gQ 5 fr p ep key b.known qb)) := by rw [hG5]; exact get_app cb4
  have cz5 : G5[H.length + 1]? = some (.cells false zMsg) := by rw [hG5]; exact get_app cz4
  have c95 : G5[H4.length]? = some (.cells false (bkM 6 fr p ep)) := by rw [hG5]; exact get_new
  have rd5 : Rd G5 3 valC b.vals qb := by rw [hG5]; exact rd4.app
  have ne : H4.length ≠ H.length := by omega
  have len5 : H.length < G5.length := lt_of cb5
  obtain ⟨B, hB⟩ : ∃ B, B = [H.length] := ⟨_, rfl⟩
  have oB : H.length ∈ B := by rw [hB]; simp
  obtain ⟨z1, hz1⟩ : ∃ z1, z1 = mV 6 7 fr 1 0 0 p ep [] zeroV .nilsl zeroV 0 0 .nilsl zeroV zeroV .nilsl := ⟨_, rfl⟩
  obtain ⟨z2, hz2⟩ : ∃ z2, z2 = mV 6 7 fr 1 0 0 p ep key zeroV .nilsl zeroV 0 0 .nilsl zeroV zeroV .nilsl := ⟨_, rfl⟩
  obtain ⟨z3, hz3⟩ : ∃ z3, z3 = mV 6 7 fr 1 0 0 p ep key b.known qb zeroV 0 0 .nilsl zeroV zeroV .nilsl := ⟨_, rfl⟩
  obtain ⟨G6, hG6⟩ : ∃ G6, G6 = G5.set H4.length (.cells false z1) := ⟨_, rfl⟩
  obtain ⟨G7, hG7⟩ : ∃ G7, G7 = G5.set H4.length (.cells false z2) := ⟨_, rfl⟩
  obtain ⟨G8, hG8⟩ : ∃ G8, G8 = G5.set H4.length (.cells false z3) := ⟨_, rfl⟩
  have t6 : G6[H4.length]? = some (.cells false z1) := by rw [hG6, List.getElem?_set_self (lt_of c95)]
  have t7 : G7[H4.length]? = some (.cells false z2) := by rw [hG7, List.getElem?_set_self (lt_of c95)]
  have t8 : G8[H4.length]? = some (.cells false z3) := by rw [hG8, List.getElem?_set_self (lt_of c95)]
  have w6 : G6.set H4.length (.cells false z2) = G7 := by rw [hG6, hG7, List.set_set]
  have w7 : G7.set H4.length (.cells false z3) = G8 := by rw [hG7, hG8, List.set_set]
  have n6 : G6.length = G5.length := by rw [hG6, List.length_set]
  have n7 : G7.length = G5.length := by rw [hG7, List.length_set]
  have n8 : G8.length = G5.length := by rw [hG8, List.length_set]
  have cb6 : G6[H.length]? = some (.cells false (gQ 5 fr p ep key b.known qb)) := by rw [hG6]; exact get_set cb5 ne
  have cb7 : G7[H.length]? = some (.cells false (gQ 5 fr p ep key b.known qb)) := by rw [hG7]; exact get_set cb5 ne
  have cb8 : G8[H.length]? = some (.cells false (gQ 5 fr p ep key b.known qb)) := by rw [hG8]; exact get_set cb5 ne
  have cz8 : G8[H.length + 1]? = some (.cells false zMsg) := by rw [hG8]; exact get_set cz5 (by omega)
  obtain ⟨h5, hh5⟩ : ∃ h5, h5 = Go.Proofs.YtflgfiieaoeknaaGreatA.hide B G5 := ⟨_, rfl⟩
  obtain ⟨h6', hh6⟩ : ∃ h6, h6 = Go.Proofs.YtflgfiieaoeknaaGreatA.hide B G6 := ⟨_, rfl⟩
  obtain ⟨h7', hh7⟩ : ∃ h7, h7 = Go.Proofs.YtflgfiieaoeknaaGreatA.hide B G7 := ⟨_, rfl⟩
  have m5 : h5.length = G5.length := by rw [hh5]; exact hide_len
  have m6 : h6'.length = G6.length := by rw [hh6]; exact hide_len
  have m7 : h7'.length = G7.length := by rw [hh7]; exact hide_len
  have s5 : storeAt 0 h5 1 (.ptr (some (H4.length, 3))) (I 1) = some (h5.set H4.length (.cells false z1)) := by
    rw [hh5, hB, hz1]
    exact store_hid (n := 1) (o := 3) (v := I 1) ne c95 rfl (by simp) rfl
  have s6 : storeAt 0 h6' 1 (.ptr (some (H4.length, 8))) (.str key) = some (h6'.set H4.length (.cells false z2)) := by
    rw [hh6, hB, hz2]
    rw [hz1] at t6
    exact store_hid (n := 1) (o := 8) (v := .str key) ne t6 rfl (by simp) rfl
  have s7 : storeAt 0 h7' 9 (.ptr (some (H4.length, 9))) (.agg (bagV b.known qb)) = some (h7'.set H4.length (.cells false z3)) := by
    rw [hh7, hB, hz3]
    rw [hz2] at t7
    exact store_hid (n := 9) (o := 9) (v := .agg (bagV b.known qb)) ne t7 rfl (by simp) (by simp [AV.cells, o0])
  have u5 : unhide B G5 (h5.set H4.length (.cells false z1)) = G6 := by rw [hh5, hB, unhid_set len5 ne, hG6]
  have u6 : unhide B G6 (h6'.set H4.length (.cells false z2)) = G7 := by rw [hh6, hB, unhid_set (lt_of cb6) ne, w6]
  have u7 : unhide B G7 (h7'.set H4.length (.cells false z3)) = G8 := by rw [hh7, hB, unhid_set (lt_of cb7) ne, w7]
  have rd8 : Rd G8 3 valC b.vals qb := by
    rcases rd5 with r | r
    · rw [hG8]; exact .inl (r.set (off_falseR r c95))
    · exact .inr r
  obtain ⟨q', X8, hcl, hrow⟩ := clone_rd (lim := 0) (bytes := 32) valC_len (by omega) valC_one (by simp only [most]; omega) (by simp only [most]; omega) rd8
  have k73 : ∀ K, WCl envE 73 [qb] 0 G8 K = K q' (G8 ++ X8) := fun K => WCl_eq (cl_prim e73 hcl)
  have oq := hrow.one
  obtain ⟨G9, hG9⟩ : ∃ G9, G9 = G8 ++ X8 := ⟨_, rfl⟩
  have t9 : G9[H4.length]? = some (.cells false z3) := by rw [hG9]; exact get_app t8
  have cz9 : G9[H.length + 1]? = some (.cells false zMsg) := by rw [hG9]; exact get_app cz8
  obtain ⟨z4, hz4⟩ : ∃ z4, z4 = mV 6 7 fr 1 0 0 p ep key b.known q' zeroV 0 0 .nilsl zeroV zeroV .nilsl := ⟨_, rfl⟩
  have s9 : storeAt 0 G9 1 (.ptr (some (H4.length, 17))) q' = some (G9.set H4.length (.cells false z4)) := by
    have hc : q'.cells = [q'] := by
      rcases hrow with ⟨_, rfl⟩ | ⟨_, _, _, rfl, _⟩ <;> rfl
    have := store_of (lim := 0) (n := 1) (o := 17) (v := q') t9 (Nat.zero_le _) (by rw [hc]; rfl) (by rw [hz3]; simp) (by rw [hc]; simp [oq])
    rw [this, hc, hz3, hz4]
    rfl
  obtain ⟨G10, hG10⟩ : ∃ G10, G10 = G9.set H4.length (.cells false z4) := ⟨_, rfl⟩
  rw [← hG10] at s9
  have t10 : G10[H4.length]? = some (.cells false z4) := by rw [hG10, List.getElem?_set_self (lt_of t9)]
  have cz10 : G10[H.length + 1]? = some (.cells false zMsg) := by rw [hG10]; exact get_set cz9 (by omega)
  have hz4l : z4.length = 62 := by rw [hz4]; exact mV_len
  have hz4o : z4.all AV.one = true := by rw [hz4]; simp [oq]
  have st := store_over (y := z4) cz10 mV_len hz4l hz4o
  have hz4t : z4.take 62 = z4 := List.take_of_length_le (by omega)
  have hz3a : (z3.drop 17).take 1 = [qb] := by rw [hz3]; exact mV_f17
  have ha : ∀ o, amongP B (.ptr (some (H.length, o))) := fun o => by rw [hB]; simp [amongP]
  simp [cells_of cb4, fm4, k72, ← hG5, hidB, ha, len5, ← hB, cells_of cb5, oB, ← hh5, s5, u5, m5, n6, cells_of cb6, ← hh6, s6, u6, m6, n7, cells_of cb7, ← hh7, s7, u7, m7, n8, cells_of cb8, k73, ← hG9, oq, s9, cells_of t10, hz4l, hz4t, st, cells_of (List.getElem?_set_self (lt_of cz10))]
  have e4 := hs4.after (kpG.trans k3)
  obtain ⟨k4, v4, q4, es4, ck4, hv4⟩ := e4
  have n4p : H4.length ≠ p0 := by have := lt_of hv4.box; omega
  have n4l : H4.length ≠ lb := by have := lt_of hv4.led.at'; omega
  have n4m : H4.length ≠ mi := by have := lt_of hv4.map; omega
  have l4' : H.length ≤ H4.length := by omega
  have e5 : VStep H G5 p0 lb mi { S with sure := S.ds.length } := by rw [hG5]; exact ⟨k4.trans .app, _, _, _, _, hv4.app⟩
  have e8 : VStep H G8 p0 lb mi { S with sure := S.ds.length } := by rw [hG8]; exact e5.setF c95 n4p n4l n4m l4'
  have e9 : VStep H G9 p0 lb mi { S with sure := S.ds.length } := by
    obtain ⟨k8, v8, q8, es8, ck8, hv8⟩ := e8
    rw [hG9]
    exact ⟨k8.trans .app, _, _, _, _, hv8.app⟩
  have e10 : VStep H G10 p0 lb mi { S with sure := S.ds.length } := by rw [hG10]; exact e9.setF t9 n4p n4l n4m l4'
  exact ⟨e10.setF cz10 np1 nl1 nm1 (by omega), q', oq, hz4⟩
end
end Go.Proofs.YtflgfiieaoeknaaGreatA

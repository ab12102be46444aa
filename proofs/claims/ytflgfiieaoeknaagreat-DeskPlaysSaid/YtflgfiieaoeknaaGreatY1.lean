/- The vault and the reference's one: what they have in common. No statement about the program is proved here. -/
import Derived.Test.YtflgfiieaoeknaaGreatX8
namespace Go.Proofs.YtflgfiieaoeknaaGreatA
open Go
set_option linter.unusedSimpArgs false
set_option linter.unusedVariables false
set_option maxRecDepth 1000000

theorem strLess_iff : ∀ {a b : List UInt8}, strLess a b = true ↔ a < b
  | a, [] => by
    cases a <;> simp [strLess]
  | [], b :: y => by simp [strLess]
  | a :: x, b :: y => by
    unfold strLess
    rw [List.cons_lt_cons_iff, Bool.or_eq_true, Bool.and_eq_true, decide_eq_true_eq, beq_iff_eq, strLess_iff]
theorem sl_irr {a : List UInt8} : strLess a a = false := by
  cases h : strLess a a with
  | false => rfl
  | true => exact absurd (strLess_iff.1 h) (List.lt_irrefl a)
theorem sl_tot {a b : List UInt8} (h : strLess a b = false) (hn : a ≠ b) : strLess b a = true := by
  have h1 : ¬ a < b := fun q => by rw [strLess_iff.2 q] at h; cases h
  exact strLess_iff.2 (Std.lt_of_le_of_ne (List.not_lt.1 h1) (Ne.symm hn))
theorem sl_trans {a b c : List UInt8} (h : strLess a b = true) (k : strLess b c = true) : strLess a c = true := strLess_iff.2 (List.lt_trans (strLess_iff.1 h) (strLess_iff.1 k))
theorem sl_asym {a b : List UInt8} (h : strLess a b = true) : strLess b a = false := by
  cases k : strLess b a with
  | false => rfl
  | true => have := sl_trans h k; rw [sl_irr] at this; cases this
theorem atP_cons {key k : List UInt8} {x : Bag} {l : List (List UInt8 × Bag)} : atP key ((k, x) :: l) = if strLess k key = true then atP key l else if k = key then some x else none := by
  unfold atP
  by_cases h : strLess k key = true
  · simp [posP, h]
  · by_cases e : k = key
    · subst e
      simp [posP, h]
    · simp [posP, h, e]
theorem atP_nil {key : List UInt8} : atP key [] = none := rfl
theorem putP_nil {key : List UInt8} {x : Bag} : putP key x [] = [(key, x)] := rfl
theorem putP_cons {key k : List UInt8} {x y : Bag} {l : List (List UInt8 × Bag)} : putP key x ((k, y) :: l) = if strLess k key = true then (k, y) :: putP key x l else if k = key then (key, x) :: l else (key, x) :: (k, y) :: l := by
  by_cases h : strLess k key = true
  · rw [if_pos h]
    unfold putP
    rw [atP_cons, if_pos h]
    simp only [posP, h, if_true, List.take_succ_cons, List.cons_append]
    cases (atP key l).isSome <;> simp
  · rw [if_neg h]
    unfold putP
    rw [atP_cons, if_neg h]
    by_cases e : k = key
    · simp [posP, h, e, sl_irr]
    · simp [posP, h, e]
theorem atP_put {key key' : List UInt8} {x : Bag} : ∀ {l : List (List UInt8 × Bag)}, atP key' (putP key x l) = if key' = key then some x else atP key' l
  | [] => by
    rw [putP_nil, atP_cons, atP_nil]
    by_cases h : key' = key
    · subst h
      simp [sl_irr]
    · have h' : ¬ key = key' := fun e => h e.symm
      simp [h, h']
  | (k, y) :: l => by
    rw [putP_cons]
    by_cases h : strLess k key = true
    · rw [if_pos h, atP_cons, atP_cons, atP_put]
      by_cases e : key' = key
      · subst e
        simp [h]
      · simp [e]
    · rw [if_neg h]
      have hf : strLess k key = false := by simpa using h
      by_cases e : k = key
      · subst e
        rw [if_pos rfl, atP_cons, atP_cons]
        by_cases e' : key' = k
        · subst e'
          simp [sl_irr]
        · have e2 : ¬ k = key' := fun q => e' q.symm
          simp [e', e2]
      · rw [if_neg e, atP_cons, atP_cons]
        have hk := sl_tot hf e
        by_cases e' : key' = key
        · subst e'
          simp [sl_irr]
        · have e2 : ¬ key = key' := fun q => e' q.symm
          by_cases hl : strLess key key' = true
          · simp [hl, e']
          · have hl' : strLess key key' = false := by simpa using hl
            have h3 := sl_tot hl' e2
            have h4 := sl_trans h3 hk
            have h5 := sl_asym h4
            have h6 : ¬ k = key' := fun q => by rw [q, sl_irr] at h4; cases h4
            simp [hl, e', e2, h5, h6]
theorem putP_len {key : List UInt8} {x : Bag} {l : List (List UInt8 × Bag)} : (putP key x l).length = if (atP key l).isSome then l.length else l.length + 1 := by
  have h1 := posP_le (key := key) (l := l)
  unfold putP
  rw [List.length_append, List.length_cons, List.length_take, List.length_drop, Nat.min_eq_left h1]
  cases h : atP key l with
  | none => simp; omega
  | some y =>
    obtain ⟨h2, _⟩ := atP_get h
    simp
    omega
theorem putP_mem {key : List UInt8} {x : Bag} {l : List (List UInt8 × Bag)} {p : List UInt8 × Bag} (h : p ∈ putP key x l) : p = (key, x) ∨ p ∈ l := by
  unfold putP at h
  rcases List.mem_append.1 h with h | h
  · exact .inr (List.mem_of_mem_take h)
  · rcases List.mem_cons.1 h with h | h
    · exact .inl h
    · exact .inr (List.mem_of_mem_drop h)

structure Sim (s : VSt) (t : RSt) : Prop where
  n : t.n = s.ds.length
  sure : t.sure = s.sure
  cap : t.cap = s.room
  dots : t.dots = s.dots
  has : t.has = decide (s.rings ≠ 0)
  ring : s.rings ≠ 0 → t.ring = s.ring
  look : ∀ key, atP key t.prs = lookB s.bags key
  plen : t.prs.length = s.bags.length
  pn : t.prs.length ≤ t.n
  bfit : ∀ p ∈ t.prs, p.2.vals.length * 32 ≤ reachBytes
section
variable {s : VSt} {t : RSt}
theorem Sim.ok (h : Sim s t) (ok : VOk s) : ROk t := ⟨by rw [h.cap]; exact ok.r0, by rw [h.cap]; exact ok.r1, by rw [h.cap, h.n]; exact ok.le, h.pn, h.bfit, by rw [h.dots]; exact ok.d0, by rw [h.dots]; exact ok.d1⟩
theorem Sim.empty {room : Int} : Sim (emptyS room) (emptyR room) := ⟨rfl, rfl, rfl, rfl, rfl, fun h => absurd rfl h, fun _ => rfl, rfl, Nat.le_refl _, fun p hp => by simp [emptyR] at hp⟩
theorem Sim.wrE (h : Sim s t) {d : Deed} : Go.Proofs.YtflgfiieaoeknaaGreatA.wrE d t.n t.cap = writeE d s.ds s.room := by
  unfold Go.Proofs.YtflgfiieaoeknaaGreatA.wrE writeE
  rw [h.n, h.cap]
theorem Sim.wrote (h : Sim s t) {d : Deed} (hk : d.kind = 2 ∨ d.kind = 3) (hf : deedFits d) : Sim (wroteS s d) (wroteR t d) := by
  unfold wroteS wroteR
  rw [h.wrE]
  split
  case isFalse => exact h
  have hn : t.n + 1 = (s.ds ++ [d]).length := by rw [h.n]; simp
  rcases hk with hk | hk
  · have e1 : ∀ s : VSt, countS s d = { s with ring := d.ring, rings := s.rings + 1 } := fun s => by simp [countS, hk]
    have e2 : ∀ t : RSt, countR t d = { t with ring := d.ring, has := true } := fun t => by simp [countR, hk]
    rw [e1, e2]
    exact ⟨hn, h.sure, h.cap, h.dots, by simp, fun _ => rfl, h.look, h.plen, by have := h.pn; simp only; omega, h.bfit⟩
  · have e1 : ∀ s : VSt, countS s d = { s with bags := setB s.bags d.key d.bag, dots := max s.dots d.n } := fun s => by simp [countS, hk]
    have e2 : ∀ t : RSt, countR t d = { t with prs := putP d.key d.bag t.prs, dots := max t.dots d.n } := fun t => by simp [countR, hk]
    rw [e1, e2]
    refine ⟨hn, h.sure, h.cap, by simp only; rw [h.dots], h.has, h.ring, fun key => ?_, ?_, ?_, fun p hp => ?_⟩
    · simp only [atP_put, lookB_set, h.look]
      by_cases e : key = d.key <;> simp [e]
    · simp only [putP_len, setB_len, h.look, h.plen]
    · have := h.pn
      simp only [putP_len]
      split <;> omega
    · rcases putP_mem hp with rfl | hp
      · exact hf.1
      · exact h.bfit _ hp
theorem Sim.bag (h : Sim s t) {key : List UInt8} : bagP t key = bagOf s key := by
  unfold bagP bagOf
  rw [h.look]
theorem Sim.full (h : Sim s t) {key : List UInt8} : fullP t key = fullS s key := by
  unfold fullP fullS
  rw [h.look, h.plen]
theorem Sim.owns (h : Sim s t) {self : Int} {key : List UInt8} : ownsQ t self key = ownsO s self key := by
  unfold ownsQ ownsO
  rw [h.has]
  by_cases e : s.rings = 0
  · simp [e]
  · rw [h.ring e]
    simp [e]
theorem Sim.sync (h : Sim s t) : Sim { s with sure := s.ds.length } { t with sure := t.n } := ⟨h.n, h.n, h.cap, h.dots, h.has, h.ring, h.look, h.plen, h.pn, h.bfit⟩
theorem Sim.put (h : Sim s t) (ok : VOk s) {node : Int} {key : List UInt8} {known : Nat → Int} {data : List UInt8} :
    (putQ t node key known data).a = (putO s node key known data).a ∧ (putQ t node key known data).c = (putO s node key known data).c ∧ (putQ t node key known data).e = (putO s node key known data).e ∧ Sim (putO s node key known data).s (putQ t node key known data).t := by
  unfold putQ putO putDR
  rw [h.full, h.bag, h.dots, h.wrE]
  have hd : (1000000 ≤ s.dots) = (s.dots = 1000000) := by apply propext; have := ok.d1; omega
  simp only [hd]
  split
  · exact ⟨rfl, rfl, rfl, h⟩
  · split
    · exact ⟨rfl, rfl, rfl, h⟩
    · split
      · exact ⟨rfl, rfl, rfl, h⟩
      · split
        · split
          · exact ⟨rfl, rfl, rfl, h.wrote (.inr rfl) ⟨putR_fit, Nat.zero_le _⟩⟩
          · exact ⟨rfl, rfl, rfl, h⟩
        · exact ⟨rfl, rfl, rfl, h⟩
theorem Sim.desk (h : Sim s t) (ok : VOk s) {self : Int} {key : List UInt8} {known : Nat → Int} {data : List UInt8} :
    (deskQ t self key known data).a = (deskO s self key known data).a ∧ (deskQ t self key known data).c = (deskO s self key known data).c ∧ (deskQ t self key known data).n = (deskO s self key known data).n ∧ (deskQ t self key known data).e = (deskO s self key known data).e ∧ Sim (deskO s self key known data).s (deskQ t self key known data).t := by
  obtain ⟨p1, p2, p3, p4⟩ := h.put ok (node := self) (key := key) (known := known) (data := data)
  unfold deskQ deskO
  rw [h.owns, p1, p2, p3]
  split
  · exact ⟨rfl, rfl, rfl, rfl, h⟩
  · split
    · exact ⟨rfl, rfl, rfl, rfl, h⟩
    · exact ⟨rfl, rfl, rfl, rfl, p4.sync⟩
theorem VOk.desk (ok : VOk s) {self : Int} {key : List UInt8} {known : Nat → Int} {data : List UInt8} : VOk (deskO s self key known data).s := by
  unfold deskO
  split
  · exact ok
  · split
    · exact ok
    · exact ok.put.sync
end
end Go.Proofs.YtflgfiieaoeknaaGreatA
/- The vault and the reference's one in one memory. No statement about the program is proved here. -/
namespace Go.Proofs.YtflgfiieaoeknaaGreatA
open Go
set_option linter.unusedSimpArgs false
set_option linter.unusedVariables false
set_option maxRecDepth 1000000

section
variable {H H' X : Heap} {p lb mi b w : Nat} {s s' : VSt} {t t' : RSt} {v q rv q2 pv : AV} {es : List (AV × AV × Nat)} {ck : Nat} {cs : List DCell9} {ps : List PR}
theorem Row.keepR {α : Type} {lim e : Nat} {f : α → List AV} {l : List α} {w : AV} (h : Row lim H e f l w) (hf : isDR (l.flatMap f) = false) (hk : ∀ (b : Nat) (y : List AV), H[b]? = some (.cells true y) → isDR y = false → H'[b]? = some (.cells true y)) : Row lim H' e f l w := by
  rcases h with h | ⟨ne, c, g1, g2, g3⟩
  · exact .inl h
  · exact .inr ⟨ne, c, g1, g2, hk c _ g3 hf⟩
theorem Ents.keepR (hk : ∀ (b : Nat) (y : List AV), H[b]? = some (.cells true y) → isDR y = false → H'[b]? = some (.cells true y)) : ∀ {l : List (List UInt8 × Bag)} {es : List (AV × AV × Nat)}, Ents H l es → Ents H' l es
  | [], [], _ => trivial
  | (k, b) :: l, e :: es, h => by
    obtain ⟨⟨r, n, h1, h2⟩, h3⟩ := h
    exact ⟨⟨r, n, h1, h2.keepR (isDR_val _) hk⟩, h3.keepR hk⟩
  | [], _ :: _, h => h.elim
  | _ :: _, [], h => h.elim
theorem DRow.keepX {lim : Nat} {ds : List Deed} (h : DRow lim H ds v) (h1 : ∀ (b : Nat) (y : List AV), H[b]? = some (.cells true y) → isDR y = false → H'[b]? = some (.cells true y)) (h2 : ∀ (b : Nat) (y : List AV), H[b]? = some (.cells true y) → ¬ Off v b → H'[b]? = some (.cells true y)) : DRow lim H' ds v := by
  rcases h with h | ⟨c, cs, g0, rfl, g2, g3, g4⟩
  · exact .inl h
  · refine .inr ⟨c, cs, g0, rfl, h2 _ _ g2 (fun o => o _ _ _ rfl), g3, fun i hi => ?_⟩
    obtain ⟨v1, v2, e, r1, r2, o1, o2⟩ := g4 i hi
    exact ⟨v1, v2, e, r1.keepR (isDR_val _) h1, r2.keepR (isDR_int _) h1, o1, o2⟩
structure Both (H : Heap) (p lb mi b w : Nat) (s : VSt) (t : RSt) (v q rv q2 pv : AV) (es : List (AV × AV × Nat)) (ck : Nat) (cs : List DCell9) (ps : List PR) : Prop where
  vl : Vlt H p lb mi s v q es ck
  rl : RV H b w t rv q2 pv cs ps
  sep : ∀ k, ¬ Off rv k → Off v k
  pb : p ≠ b
  pw : p ≠ w
  lb' : lb ≠ b
  lw : lb ≠ w
  mb : mi ≠ b
  mw : mi ≠ w
theorem Both.app (h : Both H p lb mi b w s t v q rv q2 pv es ck cs ps) : Both (H ++ X) p lb mi b w s t v q rv q2 pv es ck cs ps := ⟨h.vl.app, h.rl.app, h.sep, h.pb, h.pw, h.lb', h.lw, h.mb, h.mw⟩
/-- The vault takes a step. -/
theorem Both.vstep (h : Both H p lb mi b w s t v q rv q2 pv es ck cs ps) (k : VStep H H' p lb mi s') : ∃ v' q' es' ck', Both H' p lb mi b w s' t v' q' rv q2 pv es' ck' cs ps := by
  obtain ⟨kp, v', q', es', ck', hv⟩ := k
  have rows : ∀ (b : Nat) (y : List AV), H[b]? = some (.cells true y) → isDR y = false → H'[b]? = some (.cells true y) := fun c y hc hy => kp.rows h.vl c y hc (isDR_D hy)
  have ntr : ∀ (c : Nat) (y : List AV), H[c]? = some (.cells true y) → c ≠ p ∧ c ≠ lb ∧ c ≠ mi := fun c y hc =>
    ⟨fun e => (by subst e; rw [h.vl.box] at hc; cases hc), fun e => (by subst e; rw [h.vl.led.at'] at hc; cases hc), fun e => (by subst e; rw [h.vl.map] at hc; cases hc)⟩
  refine ⟨v', q', es', ck', hv, ⟨kp.keep _ _ h.rl.led h.pb.symm h.lb'.symm h.mb.symm (by intro y e; cases e), ?_, h.rl.cn, kp.keep _ _ h.rl.box h.pw.symm h.lw.symm h.mw.symm (by intro y e; cases e), h.rl.tgt.imp (fun g => g.keepR (isDR_int _) rows) id, h.rl.prow.keepR (isDR_pr _) rows, h.rl.rel.keep rows⟩, fun c hc => ?_, h.pb, h.pw, h.lb', h.lw, h.mb, h.mw⟩
  · rcases h.rl.row with g | ⟨ne, c, g1, g2, g3⟩
    · exact .inl g
    · obtain ⟨n1, n2, n3⟩ := ntr c _ g3
      exact .inr ⟨ne, c, g1, g2, kp.keep2 c _ g3 n1 n2 n3 (h.vl.onL (h.sep c fun o => o _ _ _ g2))⟩
  · have hlt : c < H.length := by
      rcases Nat.lt_or_ge c H.length with g | g
      · exact g
      · exact absurd (h.rl.row.off_ge g) hc
    exact hv.offL (kp.offs c hlt (h.vl.onL (h.sep c hc)))
/-- The reference's one takes a step. -/
theorem Both.rstep (h : Both H p lb mi b w s t v q rv q2 pv es ck cs ps) (k : RStep H H' b w t') : ∃ rv' q2' pv' cs' ps', Both H' p lb mi b w s t' v q rv' q2' pv' es ck cs' ps' := by
  obtain ⟨kr, rv', q2', pv', cs', ps', hr⟩ := k
  have ntr : ∀ (c : Nat) (y : List AV), H[c]? = some (.cells true y) → c ≠ b ∧ c ≠ w := fun c y hc =>
    ⟨fun e => (by subst e; rw [h.rl.led] at hc; cases hc), fun e => (by subst e; rw [h.rl.box] at hc; cases hc)⟩
  have rows : ∀ (b : Nat) (y : List AV), H[b]? = some (.cells true y) → isDR y = false → H'[b]? = some (.cells true y) := fun c y hc hy => kr.keep c _ hc (ntr c y hc).1 (ntr c y hc).2 (by intro y' e; cases e; exact hy)
  have sep2 : ∀ c, ¬ Off v c → Off rv c := fun c hc => Classical.byContradiction fun q => hc (h.sep c q)
  refine ⟨rv', q2', pv', cs', ps', ⟨kr.keep _ _ h.vl.box h.pb h.pw (by intro y e; cases e), ⟨kr.keep _ _ h.vl.led.at' h.lb' h.lw (by intro y e; cases e), ?_, h.vl.led.few⟩, h.vl.tgt.keepR (isDR_int _) rows, kr.keep _ _ h.vl.map h.mb h.mw (by intro y e; cases e), h.vl.ents.keepR rows, h.vl.vn⟩, hr, fun c hc => ?_, h.pb, h.pw, h.lb', h.lw, h.mb, h.mw⟩
  · exact h.vl.led.row.keepX rows fun c y hc ho => kr.keep2 c _ hc (ntr c y hc).1 (ntr c y hc).2 (h.rl.onR (sep2 c ho))
  · apply Classical.byContradiction
    intro ho
    have hlt : c < H.length := by
      rcases Nat.lt_or_ge c H.length with g | g
      · exact g
      · exact absurd (h.vl.led.row.off_ge g) ho
    exact hc (hr.offR (kr.offs c hlt (h.rl.onR (sep2 c ho))))
/-- All that is alive stays. -/
theorem Both.mono (h : Both H p lb mi b w s t v q rv q2 pv es ck cs ps) (hk : ∀ (k : Nat) (z : ABlk), z ≠ .dead → H[k]? = some z → H'[k]? = some z) : Both H' p lb mi b w s t v q rv q2 pv es ck cs ps := by
  have rows : ∀ (b : Nat) (y : List AV), H[b]? = some (.cells true y) → isDR y = false → H'[b]? = some (.cells true y) := fun c y hc _ => hk c _ (by simp) hc
  refine ⟨⟨hk _ _ (by simp) h.vl.box, ⟨hk _ _ (by simp) h.vl.led.at', h.vl.led.row.keepX rows fun c y hc _ => hk c _ (by simp) hc, h.vl.led.few⟩, h.vl.tgt.keepR (isDR_int _) rows, hk _ _ (by simp) h.vl.map, h.vl.ents.keepR rows, h.vl.vn⟩,
    ⟨hk _ _ (by simp) h.rl.led, h.rl.row.keep fun c y hc _ => hk c _ (by simp) hc, h.rl.cn, hk _ _ (by simp) h.rl.box, h.rl.tgt.imp (fun g => g.keepR (isDR_int _) rows) id, h.rl.prow.keepR (isDR_pr _) rows, h.rl.rel.keep rows⟩, h.sep, h.pb, h.pw, h.lb', h.lw, h.mb, h.mw⟩
end
theorem hide_last {H : Heap} {x : ABlk} : hide [H.length] (H ++ [x]) = H ++ [.dead] := by
  apply List.ext_getElem?
  intro i
  rw [hide_get]
  rcases Nat.lt_trichotomy i H.length with c | c | c
  · have : i ≠ H.length := by omega
    simp [this, List.getElem?_append_left c]
  · subst c
    simp
  · have : i ≠ H.length := by omega
    simp [this]
    rw [List.getElem?_eq_none (by simp; omega), List.getElem?_eq_none (by simp; omega)]
theorem unhide_last {H H1 : Heap} {x : ABlk} (hl : H.length < H1.length) : unhide [H.length] (H ++ [x]) H1 = H1.set H.length x := by
  apply List.ext_getElem?
  intro i
  rw [unhide_get (by simp) (by simp; omega), List.getElem?_set]
  by_cases c : i = H.length
  · subst c
    simp [hl]
  · have : ¬ H.length = i := fun e => c e.symm
    simp [c, this]
theorem hide_set {H1 : Heap} {c : Nat} {x : ABlk} (h : H1[c]? = some .dead) : hide [c] (H1.set c x) = H1 := by
  apply List.ext_getElem?
  intro i
  rw [hide_get, List.getElem?_set]
  by_cases e : i = c
  · subst e
    rw [h]
    simp [lt_of h]
  · have : ¬ c = i := fun q => e q.symm
    simp [e, this]
theorem unhide_set {H1 H2 : Heap} {c : Nat} {x : ABlk} (h1 : c < H1.length) (h2 : H1.length ≤ H2.length) : unhide [c] (H1.set c x) H2 = H2.set c x := by
  apply List.ext_getElem?
  intro i
  rw [unhide_get (by simpa using h1) (by simpa using h2), List.getElem?_set, List.getElem?_set]
  by_cases e : i = c
  · subst e
    have : i < H2.length := by omega
    simp [h1, this]
  · have : ¬ c = i := fun q => e q.symm
    simp [e, this]
end Go.Proofs.YtflgfiieaoeknaaGreatA

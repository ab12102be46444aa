/- What holds of a vault at any time; a desk's answers; the ref Owner; light. No statement about the program is proved here. -/
import Derived.Test.YtflgfiieaoeknaaGreatU0
import Derived.Test.YtflgfiieaoeknaaGreatL8
namespace Go.Proofs.YtflgfiieaoeknaaGreatA
open Go Go.RowKit
set_option linter.unusedSimpArgs false
set_option linter.unusedVariables false
set_option maxRecDepth 1000000
attribute [local simp] deed_zero ring_zero

/-! ## The bags are the fold of the deeds -/
structure Inv (s : VSt) : Prop where
  bags : s.bags = bagsF [] s.ds
  kinds : ∀ d ∈ s.ds, d.kind = 1 ∨ d.kind = 2 ∨ d.kind = 3
theorem Inv.wrote {s : VSt} (h : Inv s) {d : Deed} (hk : d.kind = 1 ∨ d.kind = 2 ∨ d.kind = 3) : Inv (wroteS s d) := by
  unfold wroteS
  split
  · have hb : bagsF [] (s.ds ++ [d]) = if d.kind = 3 then setB s.bags d.key d.bag else s.bags := by
      rw [h.bags]
      simp [bagsF, List.foldl_append]
    refine ⟨?_, ?_⟩
    · rw [(count_keep _ d).1]
      show _ = bagsF [] (s.ds ++ [d])
      rw [hb]
      rcases hk with k | k | k <;> simp [countS, k]
    · rw [(count_keep _ d).1]
      intro x hx
      rcases List.mem_append.1 hx with q | q
      · exact h.kinds x q
      · rw [List.mem_singleton.1 q]; exact hk
  · exact h
theorem Inv.put {s : VSt} (h : Inv s) {node : Int} {key : List UInt8} {known : Nat → Int} {data : List UInt8} : Inv (putO s node key known data).s := by
  unfold putO
  split
  · exact h
  · split
    · exact h
    · split
      · exact h
      · split
        · split
          · exact h.wrote (.inr (.inr rfl))
          · exact h
        · exact h
theorem Inv.sync {s : VSt} (h : Inv s) : Inv { s with sure := s.ds.length } := ⟨h.bags, h.kinds⟩
theorem put_ten {s : VSt} {node : Int} {key : List UInt8} {known : Nat → Int} {data : List UInt8} : (putO s node key known data).e ≠ 10 := by
  have hp : ∀ {k kn : Nat → Int} {l : List Val} {a c : Int} {d : List UInt8}, putE k l kn a c d ≠ 10 := by
    intro k kn l a c d
    unfold putE
    split
    · split <;> omega
    · omega
  have hw : ∀ {d : Deed} {ds : List Deed} {r : Int}, writeE d ds r ≠ 10 := by
    intro d ds r
    unfold writeE
    split
    · split <;> omega
    · omega
  unfold putO
  split
  · show (1 : Int) ≠ 10; omega
  · split
    · show (6 : Int) ≠ 10; omega
    · split
      · show (5 : Int) ≠ 10; omega
      · split
        · split
          · show (0 : Int) ≠ 10; omega
          · exact hw
        · exact hp
theorem put_zero {s : VSt} {node : Int} {key : List UInt8} {known : Nat → Int} {data : List UInt8} (h : (putO s node key known data).e = 0) : (putO s node key known data).s.ring = s.ring ∧ (putO s node key known data).s.rings = s.rings ∧ has (bagOf (putO s node key known data).s key).known (putO s node key known data).a (putO s node key known data).c = true := by
  unfold putO at h ⊢
  split
  · rename_i h1
    rw [if_pos h1] at h
    exact absurd h (by show (1 : Int) ≠ 0; omega)
  · rename_i h1
    rw [if_neg h1] at h
    split
    · rename_i h2
      rw [if_pos h2] at h
      exact absurd h (by show (6 : Int) ≠ 0; omega)
    · rename_i h2
      rw [if_neg h2] at h
      split
      · rename_i h3
        rw [if_pos h3] at h
        exact absurd h (by show (5 : Int) ≠ 0; omega)
      · rename_i h3
        rw [if_neg h3] at h
        split
        · rename_i h4
          rw [if_pos h4] at h
          split
          · rename_i h5
            obtain ⟨m1, m2, m3, m4⟩ := put_ok h4
            have hd := (putMay_iff.1 m1).2.2.1
            refine ⟨?_, ?_, ?_⟩
            · rw [wroteS, if_pos h5]; simp [countS, bagD]
            · rw [wroteS, if_pos h5]; simp [countS, bagD]
            · have hb : bagOf (wroteS s (bagD (s.dots + 1) key ⟨putK (bagOf s key).known (bagOf s key).vals known node (s.dots + 1) data, putR (bagOf s key).known (bagOf s key).vals known node (s.dots + 1) data⟩)) key = ⟨putK (bagOf s key).known (bagOf s key).vals known node (s.dots + 1) data, putR (bagOf s key).known (bagOf s key).vals known node (s.dots + 1) data⟩ := by
                rw [wroteS, if_pos h5]
                simp [countS, bagD, bagOf, lookB_set]
              rw [hb]
              simp only
              rw [m2]
              exact withV_has hd
          · rename_i h5
            rw [if_neg h5] at h
            exact absurd h h5
        · rename_i h4
          rw [if_neg h4] at h
          exact absurd h h4
theorem owns_cases {s : VSt} {self : Int} {key : List UInt8} (hr : s.rings ≠ 0) : ownsO s self key = ⟨0, 1⟩ ∨ (keyOk key = true ∧ ownerF s.ring (spotF key) ≠ self ∧ ownsO s self key = ⟨ownerF s.ring (spotF key), 10⟩) ∨ (keyOk key = true ∧ ownerF s.ring (spotF key) = self ∧ ownsO s self key = ⟨self, 0⟩) := by
  unfold ownsO
  by_cases h1 : self < 0 ∨ 8 ≤ self ∨ keyOk key = false
  · rw [if_pos h1]; exact .inl rfl
  · have hk : keyOk key = true := by
      cases h : keyOk key
      · exact absurd (.inr (.inr h)) h1
      · rfl
    rw [if_neg h1, if_neg hr]
    by_cases h2 : ownerF s.ring (spotF key) = self
    · rw [if_pos h2]; exact .inr (.inr ⟨hk, h2, rfl⟩)
    · rw [if_neg h2]; exact .inr (.inl ⟨hk, h2, rfl⟩)
theorem desk_bad {s : VSt} {self : Int} {key : List UInt8} {known : Nat → Int} {data : List UInt8} (hr : s.rings ≠ 0) (h : (deskO s self key known data).e ≠ 0) :
    (deskO s self key known data).s = s ∧ (((deskO s self key known data).e = 10 ∧ keyOk key = true ∧ (deskO s self key known data).n = ownerF s.ring (spotF key) ∧ ownerF s.ring (spotF key) ≠ self) ∨ ((deskO s self key known data).e ≠ 10 ∧ (deskO s self key known data).n = 0)) := by
  rcases owns_cases (self := self) (key := key) hr with q | ⟨k1, k2, q⟩ | ⟨k1, k2, q⟩
  · have e : deskO s self key known data = ⟨0, 0, 0, 1, s⟩ := by simp [deskO, q]
    rw [e]
    exact ⟨rfl, .inr ⟨by show (1 : Int) ≠ 10; omega, rfl⟩⟩
  · have e : deskO s self key known data = ⟨0, 0, ownerF s.ring (spotF key), 10, s⟩ := by simp [deskO, q]
    rw [e]
    exact ⟨rfl, .inl ⟨rfl, k1, rfl, k2⟩⟩
  · by_cases hp : (putO s self key known data).e = 0
    · have e : (deskO s self key known data).e = 0 := by simp [deskO, q, hp]
      exact absurd e h
    · have e : deskO s self key known data = ⟨0, 0, 0, (putO s self key known data).e, s⟩ := by simp [deskO, q, hp]
      rw [e]
      exact ⟨rfl, .inr ⟨put_ten, rfl⟩⟩
theorem desk_good {s : VSt} {self : Int} {key : List UInt8} {known : Nat → Int} {data : List UInt8} (hr : s.rings ≠ 0) (h : (deskO s self key known data).e = 0) :
    deskO s self key known data = ⟨(putO s self key known data).a, (putO s self key known data).c, self, 0, { (putO s self key known data).s with sure := (putO s self key known data).s.ds.length }⟩ ∧ (putO s self key known data).e = 0 ∧ keyOk key = true ∧ ownerF s.ring (spotF key) = self ∧ ownsO s self key = ⟨self, 0⟩ := by
  rcases owns_cases (self := self) (key := key) hr with q | ⟨k1, k2, q⟩ | ⟨k1, k2, q⟩
  · have e : deskO s self key known data = ⟨0, 0, 0, 1, s⟩ := by simp [deskO, q]
    rw [e] at h
    exact absurd h (by show (1 : Int) ≠ 0; omega)
  · have e : deskO s self key known data = ⟨0, 0, ownerF s.ring (spotF key), 10, s⟩ := by simp [deskO, q]
    rw [e] at h
    exact absurd h (by show (10 : Int) ≠ 0; omega)
  · by_cases hp : (putO s self key known data).e = 0
    · exact ⟨by simp [deskO, q, hp], hp, k1, k2, q⟩
    · have e : deskO s self key known data = ⟨0, 0, 0, (putO s self key known data).e, s⟩ := by simp [deskO, q, hp]
      rw [e] at h
      exact absurd h hp

/-! ## In memory -/
theorem Vlt.grow {H H' : Heap} {p lb mi : Nat} {s : VSt} {v q : AV} {es : List (AV × AV × Nat)} {ck : Nat} (h : Vlt H p lb mi s v q es ck) (k : ∀ (b : Nat) (z : ABlk), H[b]? = some z → H'[b]? = some z) : Vlt H' p lb mi s v q es ck :=
  ⟨k _ _ h.box, ⟨k _ _ h.led.at', h.led.row.keep fun b y _ hb => k b _ hb, h.led.few⟩, h.tgt.keep fun b y hb _ => k b _ hb, k _ _ h.map, h.ents.keep fun b y hb _ => k b _ hb, h.vn⟩
theorem Kc.below {H H' : Heap} {p mi : Nat} (h : Kc H H' p mi) (hp : H.length ≤ p) (hm : H.length ≤ mi) : ∀ (b : Nat) (z : ABlk), H[b]? = some z → H'[b]? = some z := fun b z hb => h.2 b z hb (by have := lt_of hb; omega) (by have := lt_of hb; omega)
theorem DRow.sub_all {lim : Nat} {H : Heap} {ds : List Deed} {v : AV} (h : DRow lim H ds v) : subAt v ds.length = v := by
  rcases h with ⟨_, rfl⟩ | ⟨_, h⟩
  · rfl
  · obtain ⟨b, _, rfl, _⟩ := h
    rfl
theorem c30z {H : Heap} {b : Nat} {v : AV} {ds : List Deed} {r : Int} (h : Led 0 H b v ds (ds.length : Nat) r) : Cl envE 30 [.ptr (some (b, 0)), I 0] 0 H (I 0) H := by
  have := c30 h (Nat.le_refl _) 0
  have e : stayN 0 (ds.length - ds.length) = 0 := by simp [stayN]
  rw [e, Nat.add_zero, h.row.sub_all, Nat.sub_self, Nat.sub_self] at this
  have hs : H.set b (.cells false [v, I (ds.length : Nat), I r]) = H := by
    apply List.ext_getElem?
    intro j
    rw [List.getElem?_set]
    split
    · rename_i e
      subst e
      rw [if_pos (lt_of h.at'), h.at']
    · rfl
  rw [hs] at this
  exact this
theorem c18w {H : Heap} {p lb mi : Nat} {s : VSt} {v q : AV} {es : List (AV × AV × Nat)} {ck : Nat} (h : Vlt H p lb mi s v q es ck) (key : List UInt8) (hfit : (bagOf s key).vals.length * 32 ≤ reachBytes) (lim : Nat) (hlim : lim ≤ H.length) :
    WCl envE 32 [.ptr (some (p, 0)), .str key] lim H fun r H' => ∃ X q', H' = H ++ X ∧ r = .agg (bagV (bagOf s key).known q') ∧ Row H.length (H ++ X) 3 valC (bagOf s key).vals q' := by
  refine cl_of e32 rfl ?_
  have cp := h.cells
  obtain ⟨x, r, g1, g2, g3, g4⟩ := h.look key
  have hm := h.mapZ
  obtain ⟨v1, X1, t1, r1⟩ := thaw_owL (H := H ++ [.cells false (bagV zeroV .nilsl)]) (lim := (H ++ [ABlk.cells false (bagV zeroV .nilsl)]).length) (es := 3) val_still (Nat.le_refl _) (bagOf s key).vals
  have fq : ∀ X, frz (H ++ X) 11 r = some (roL valC (bagOf s key).vals) := fun X => (g4.app (X := X)).frz (d := 9) valC_len val_flat
  have hkj := fun H K => k75 (k := (bagOf s key).known) (l := (bagOf s key).vals) (H := H) (K := K) hfit
  have o1 := r1.one
  simp only [List.append_assoc, List.cons_append, List.nil_append] at t1
  have r2 := r1.set (b := H.length) (z := .cells false (bagV (bagOf s key).known v1)) (r1.off (by simp))
  have r3 := r2.mono (lim' := H.length) (by simp)
  simp at r3
  rw [fr_init (by simp [fd32])]
  cases x with
  | none =>
    simp only at g2
    simp [fd32, b32, bagV_zero, cp, hm, g1, g2, isKey, fq, hkj, t1, o1, hlim]
    exact ⟨v1, rfl, r3⟩
  | some y =>
    obtain ⟨j, w⟩ := y
    simp only at g2
    subst g2
    simp [fd32, b32, bagV_zero, cp, hm, g1, isKey, fq, hkj, t1, o1, hlim]
    exact ⟨v1, rfl, r3⟩
theorem c55 (r : Ring) (p : Int) : Pu envE 55 [.agg (ringC r), I p] (I (ownerF r p)) := by
  refine pu_is e55 rfl ?_
  cases h : partOk p
  · have e : ownerF r p = -1 := by simp [ownerF, h]
    rw [e]
    by_cases g1 : p < 0
    · rw [fr_init (by simp [fd55])]
      simp [fd55, b55, g1]
    · have g2 : 16 ≤ p := by simp [partOk] at h; omega
      rw [fr_init (by simp [fd55])]
      simp [fd55, b55, g1, g2]
  · have hp : 0 ≤ p ∧ p < 16 := by simpa [partOk] using h
    obtain ⟨i, rfl⟩ : ∃ i : Nat, p = i := ⟨p.toNat, by omega⟩
    have hi : i < 16 := by omega
    have g1 : ¬ (i : Int) < 0 := by omega
    have g2 : ¬ (16 : Int) ≤ i := by omega
    have g3 : i ≤ 15 := by omega
    have g4 : ¬ 16 ≤ i := by omega
    have c1 := fun {st ep ow : Nat → Int} {ver by' : Int} {q : AV} => ringV_ep (st := st) (ver := ver) (by' := by') (r := q) (ep := ep) (ow := ow) hi
    have c2 := fun {st ep ow : Nat → Int} {ver by' : Int} {q : AV} => ringV_ow (st := st) (ver := ver) (by' := by') (r := q) (ep := ep) (ow := ow) hi
    have c3 := fun {st ep ow : Nat → Int} {ver by' : Int} {q : AV} => ringV_part (st := st) (ver := ver) (by' := by') (r := q) (ep := ep) (ow := ow) hi
    have d1 : ∀ {st ep ow : Nat → Int} {ver by' : Int} {q : AV}, ((ringV st ver by' q ep ow).drop (11 + i * 2)).take 1 = [I (ep i)] := fun {st ep ow ver by' q} => by
      have := c1 (st := st) (ep := ep) (ow := ow) (ver := ver) (by' := by') (q := q)
      rw [cut_at (by rw [ringV_len]; omega)] at this
      exact Option.some.inj this
    have d2 : ∀ {st ep ow : Nat → Int} {ver by' : Int} {q : AV}, ((ringV st ver by' q ep ow).drop (11 + (i * 2 + 1))).take 1 = [I (ow i)] := fun {st ep ow ver by' q} => by
      have := c2 (st := st) (ep := ep) (ow := ow) (ver := ver) (by' := by') (q := q)
      rw [cut_at (by rw [ringV_len]; omega)] at this
      exact Option.some.inj this
    have d3 : ∀ {st ep ow : Nat → Int} {ver by' : Int} {q : AV}, ((ringV st ver by' q ep ow).drop (11 + i * 2)).take 2 = [I (ep i), I (ow i)] := fun {st ep ow ver by' q} => by
      have := c3 (st := st) (ep := ep) (ow := ow) (ver := ver) (by' := by') (q := q)
      rw [cut_at (by rw [ringV_len]; omega)] at this
      exact Option.some.inj this
    have c2' : ∀ {st ep ow : Nat → Int} {ver by' : Int} {q : AV}, cut (ringV st ver by' q ep ow) (11 + (i * 2 + 1)) 1 = some [I (ow i)] := fun {st ep ow ver by' q} => c2
    have l1 : 11 + (i * 2 + 1) ≤ 43 := by omega
    have l2 : 11 + (i * 2 + 2) ≤ 43 := by omega
    have l3 : 11 + (i * 2 + 1 + 1) ≤ 43 := by omega
    by_cases h1 : r.epoch i = 0
    · have e : ownerF r i = -1 := by simp [ownerF, h1]
      rw [e]
      rw [fr_init (by simp [fd55])]
      simp [fd55, b55, h, hi, g1, g2, g4, c1, c2, c2', c3, d1, d2, d3, l1, l2, l3, h1]
    cases h2 : entMay (r.epoch i) (r.owner i)
    · have e : ownerF r i = -1 := by simp [ownerF, h2]
      rw [e]
      rw [fr_init (by simp [fd55])]
      simp [fd55, b55, h, hi, g1, g2, g4, c1, c2, c2', c3, d1, d2, d3, l1, l2, l3, h1, h2]
    · have e : ownerF r i = r.owner i := by simp [ownerF, h, h1, h2]
      rw [e]
      rw [fr_init (by simp [fd55])]
      simp [fd55, b55, h, hi, g1, g2, g4, c1, c2, c2', c3, d1, d2, d3, l1, l2, l3, h1, h2]
theorem k55 {r : Ring} {p : Int} {H : Heap} {K : AV → Heap → Prop} : wPu envE 55 (some [.agg (ringV r.status r.plan.version r.plan.by' (roL intC r.plan.targets) r.epoch r.owner), I p]) H K = K (I (ownerF r p)) H := by
  have := c55 r p
  simp only [ringC_eq] at this
  exact (wPu_eq this).trans (by simp)

/-! ## Calls -/
structure DCall where
  what : Int
  self : Int
  key : List UInt8
  data : List UInt8
  known : Nat → Int
  ring : Ring
def dcV (w se : Int) (key data : List UInt8) (k : Nat → Int) (r : List AV) : List AV := [I w, I se, .str key, .str data] ++ (vecC k ++ r)
def dcC (c : DCall) : List AV := dcV c.what c.self c.key c.data c.known (ringC c.ring)
section
variable {w se : Int} {key data : List UInt8} {k st pe po : Nat → Int} {q : AV} {ver by' : Int} {H : Heap} {d : Nat}
abbrev dV (w se : Int) (key data : List UInt8) (k : Nat → Int) (st : Nat → Int) (ver by' : Int) (q : AV) (pe po : Nat → Int) : List AV := dcV w se key data k (ringV st ver by' q pe po)
theorem dcC_len (c : DCall) : (dcC c).length = 55 := hard rfl
theorem dcC_eq (c : DCall) : dcC c = dcV c.what c.self c.key c.data c.known (ringV c.ring.status c.ring.plan.version c.ring.plan.by' (roL intC c.ring.plan.targets) c.ring.epoch c.ring.owner) := hard rfl
@[simp] theorem dV_len : (dV w se key data k st ver by' q pe po).length = 55 := hard rfl
@[simp] theorem dV_one : (dV w se key data k st ver by' q pe po).all AV.one = AV.one q := by
  unfold dV dcV
  rw [List.all_append, List.all_append, vec_one, ringV_one]
  simp
@[simp] theorem dV_take : (dV w se key data k st ver by' q pe po).take 55 = dV w se key data k st ver by' q pe po := hard rfl
@[simp] theorem dV_over {l : List AV} (h : l.length = 55) : setFrom l 0 (dV w se key data k st ver by' q pe po) = dV w se key data k st ver by' q pe po := setFrom_all _ _ (by rw [h, dV_len])
@[simp] theorem dV_f1 : ((dV w se key data k st ver by' q pe po).drop 1).take 1 = [I se] := hard rfl
@[simp] theorem dV_t1 : ((dV w se key data k st ver by' q pe po).tail).take 1 = [I se] := hard rfl
@[simp] theorem dV_f2 : ((dV w se key data k st ver by' q pe po).drop 2).take 1 = [.str key] := hard rfl
@[simp] theorem dV_f3 : ((dV w se key data k st ver by' q pe po).drop 3).take 1 = [.str data] := hard rfl
@[simp] theorem dV_f4 : ((dV w se key data k st ver by' q pe po).drop 4).take 8 = vecC k := hard rfl
@[simp] theorem dV_f12 : ((dV w se key data k st ver by' q pe po).drop 12).take 43 = ringV st ver by' q pe po := hard rfl
end
def shDCall : Sh := .cat [iS, iS, (1, .str), (1, .str), (8, shVec), (43, shRing)]
end Go.Proofs.YtflgfiieaoeknaaGreatA

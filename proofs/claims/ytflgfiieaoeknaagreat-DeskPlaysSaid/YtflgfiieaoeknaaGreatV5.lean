/- A vault is opened; who owns a part; puts and gets. No statement about the program is proved here. -/
import Derived.Test.YtflgfiieaoeknaaGreatV4
namespace Go.Proofs.YtflgfiieaoeknaaGreatA
open Go
set_option linter.unusedSimpArgs false
set_option linter.unusedVariables false
set_option maxRecDepth 1000000
attribute [local simp] deed_zero ring_zero

def emptyS (room : Int) : VSt := ⟨[], 0, room, 0, zRingS, 0, 0, []⟩
theorem empty_ok {room : Int} (h0 : 0 ≤ room) (h1 : room ≤ 3000) : VOk (emptyS room) := ⟨h0, h1, by simp [emptyS]; omega, by simp [emptyS], Nat.zero_le _, by simp [emptyS, lookB], Nat.zero_le _, by simp [emptyS], by simp [emptyS], by simp [emptyS]⟩
def vltE (lb mi : Nat) : List AV := vltC lb mi (emptyS 0) .nilsl
theorem vlt_zero {lb mi : Nat} : [AV.ptr (some (lb, 0)), I 0, I 0, I 0, I 0, I 0, I 0, I 0, I 0, I 0, I 0, I 0, AV.nilsl, I 0, I 0, I 0, I 0, I 0, I 0, I 0, I 0, I 0, I 0, I 0, I 0, I 0, I 0, I 0, I 0, I 0, I 0, I 0, I 0, I 0, I 0, I 0, I 0, I 0, I 0, I 0, I 0, I 0, I 0, I 0, I 0, I 0, I 0, AV.mapv (some mi)] = vltE lb mi := hard rfl
theorem vltE_eq {lb mi : Nat} {room : Int} : vltC lb mi (emptyS room) .nilsl = vltE lb mi := rfl
theorem c14e {H : Heap} {lb : Nat} {room : Int} (h : H[lb]? = some (.cells false [.nilsl, I 0, I room])) :
    WCl envE 11 [.ptr (some (lb, 0))] 0 H fun r H' => r = .ptr (some (H.length + 1, 0)) ∧ ∃ X, H' = H ++ X ∧ Vlt H' (H.length + 1) lb H.length (emptyS room) .nilsl .nilsl [] 0 := by
  refine cl_of e11 rfl ?_
  obtain ⟨B, hB⟩ : ∃ B, B = vltE lb H.length := ⟨_, rfl⟩
  have hbo : (∀ x : AV, x ∈ B → x.one = true) = True := eq_true (List.all_eq_true.1 (by rw [hB]; exact vlt_one))
  have hL : Led 0 (H ++ [.map [] 0, .cells false B]) lb .nilsl [] 0 room := ⟨get_app h, .nil, by simp⟩
  have hall := c50 hL (by simp) 0 (Nat.zero_le _)
  rw [fr_init (by simp [fd11])]
  simp [fd11, b11, vlt_zero, ← hB, hbo]
  refine WCl.mono hall ?_
  rintro x _ ⟨X, rfl, hD⟩
  have hl := hD.len
  simp [hl]
  refine loop_go [3, 4, 16, 17, 18] rfl (fun m vs H' => H' = H ++ .map [] 0 :: .cells false B :: X ∧ vs = [.ptr (some (H.length + 1, 0)), .fn (.func 49) [.ptr (some (H.length + 1, 0))] [], x, I 0, I 0]) ?_ 0 ⟨rfl, rfl⟩
  rintro J hJ m vs H' f ⟨rfl, rfl⟩
  simp [lp11_0]
  refine ⟨?_, ?_, .nil, ?_, trivial, fun _ => rfl⟩
  · simp [hB, vltE_eq]
  · exact ⟨by rw [List.getElem?_append_left (lt_of h)]; exact h, .nil, by simp [emptyS]⟩
  · simp
/-- What New and Open make. -/
theorem open_new (room : Int) (H : Heap) (h0 : 0 ≤ room) (h1 : room ≤ 3000) {K : AV → Heap → Prop} (hK : ∀ X, Vlt (H ++ X) (H.length + 2) H.length (H.length + 1) (emptyS room) .nilsl .nilsl [] 0 → K (.ptr (some (H.length + 2, 0))) (H ++ X)) :
    WCl envE 11 [.ptr (some (H.length, 0))] 0 (H ++ [.cells false [.nilsl, I 0, I room]]) K := by
  refine WCl.mono (c14e (H := H ++ [.cells false [.nilsl, I 0, I room]]) (lb := H.length) (room := room) (by simp)) ?_
  rintro _ _ ⟨rfl, X, rfl, hv⟩
  have e : (H ++ [ABlk.cells false [.nilsl, I 0, I room]]).length = H.length + 1 := by simp
  rw [e, List.append_assoc] at hv
  rw [e, List.append_assoc]
  exact hK _ hv
theorem new_room {room : Int} (h0 : 0 ≤ room) (h1 : room ≤ 3000) {H : Heap} {lim : Nat} {K : AV → Heap → Prop} : WCl envE 9 [I room] lim H K = K (.ptr (some (H.length, 0))) (H ++ [.cells false [.nilsl, I 0, I room]]) := by
  have := WCl_eq (K := K) (c9n room lim H)
  have e : max 0 (min room 3000) = room := by omega
  rw [e] at this
  exact this

/-! ## Owners -/
def partOk (p : Int) : Bool := decide (0 ≤ p) && decide (p < 16)
def ownerF (r : Ring) (p : Int) : Int := if partOk p = true ∧ r.epoch p.toNat ≠ 0 ∧ entMay (r.epoch p.toNat) (r.owner p.toNat) = true then r.owner p.toNat else -1
theorem c130 (p : Int) : Pu envE 130 [I p] (.bool (partOk p)) := by
  refine pu_is e130 rfl ?_
  by_cases h1 : 0 ≤ p
  · by_cases h2 : p < 16
    · rw [fr_init (by simp [fd130])]
      simp [fd130, b130, h1, h2, partOk]
    · rw [fr_init (by simp [fd130])]
      simp [fd130, b130, h1, h2, partOk]
  · rw [fr_init (by simp [fd130])]
    simp [fd130, b130, h1, partOk]
@[simp] theorem k130 {p : Int} {H : Heap} {K : AV → Heap → Prop} : wPu envE 130 (some [I p]) H K = K (.bool (partOk p)) H := (wPu_eq (c130 p)).trans (by simp)
theorem ringV_ep {st ep ow : Nat → Int} {ver by' : Int} {r : AV} {i : Nat} (h : i < 16) : cut (ringV st ver by' r ep ow) (11 + i * 2) 1 = some [I (ep i)] := by
  have := ringV_part (st := st) (ver := ver) (by' := by') (r := r) (ep := ep) (ow := ow) h
  rw [cut_at (by rw [ringV_len]; omega)] at this ⊢
  have e := Option.some.inj this
  rw [show (1 : Nat) = min 1 2 from rfl, ← List.take_take, e]
  rfl
theorem ringV_ow {st ep ow : Nat → Int} {ver by' : Int} {r : AV} {i : Nat} (h : i < 16) : cut (ringV st ver by' r ep ow) (11 + i * 2 + 1) 1 = some [I (ow i)] := by
  have := ringV_part (st := st) (ver := ver) (by' := by') (r := r) (ep := ep) (ow := ow) h
  rw [cut_at (by rw [ringV_len]; omega)] at this ⊢
  have e := Option.some.inj this
  rw [← List.drop_drop]
  have e2 : (((ringV st ver by' r ep ow).drop (11 + i * 2)).take 2).drop 1 = [I (ow i)] := by rw [e]; rfl
  rw [List.drop_take] at e2
  rw [e2]
theorem c94 (r : Ring) (p : Int) : Pu envE 94 [.agg (ringC r), I p] (I (ownerF r p)) := by
  refine pu_is e94 rfl ?_
  cases h : partOk p
  · have e : ownerF r p = -1 := by simp [ownerF, h]
    rw [e]
    rw [fr_init (by simp [fd94])]
    simp [fd94, b94, h]
  · have hp : 0 ≤ p ∧ p < 16 := by simpa [partOk] using h
    obtain ⟨i, rfl⟩ : ∃ i : Nat, p = i := ⟨p.toNat, by omega⟩
    have hi : i < 16 := by omega
    have c1 := fun {st ep ow : Nat → Int} {ver by' : Int} {q : AV} => ringV_ep (st := st) (ver := ver) (by' := by') (r := q) (ep := ep) (ow := ow) hi
    have c2 := fun {st ep ow : Nat → Int} {ver by' : Int} {q : AV} => ringV_ow (st := st) (ver := ver) (by' := by') (r := q) (ep := ep) (ow := ow) hi
    have c3 := fun {st ep ow : Nat → Int} {ver by' : Int} {q : AV} => ringV_part (st := st) (ver := ver) (by' := by') (r := q) (ep := ep) (ow := ow) hi
    have d1 : ∀ {st ep ow : Nat → Int} {ver by' : Int} {q : AV}, ((ringV st ver by' q ep ow).drop (11 + i * 2)).take 1 = [I (ep i)] := fun {st ep ow ver by' q} => by
      have := c1 (st := st) (ep := ep) (ow := ow) (ver := ver) (by' := by') (q := q)
      rw [cut_at (by rw [ringV_len]; omega)] at this
      exact Option.some.inj this
    have d2 : ∀ {st ep ow : Nat → Int} {ver by' : Int} {q : AV}, ((ringV st ver by' q ep ow).drop (11 + (i * 2 + 1))).take 1 = [I (ow i)] := fun {st ep ow ver by' q} => by
      have := c2 (st := st) (ep := ep) (ow := ow) (ver := ver) (by' := by') (q := q)
      rw [cut_at (by rw [ringV_len]; omega)] at this
      exact Option.some.inj this
    have d3 : ∀ {st ep ow : Nat → Int} {ver by' : Int} {q : AV}, ((ringV st ver by' q ep ow).drop (11 + i * 2)).take 2 = [I (ep i), I (ow i)] := fun {st ep ow ver by' q} => by
      have := c3 (st := st) (ep := ep) (ow := ow) (ver := ver) (by' := by') (q := q)
      rw [cut_at (by rw [ringV_len]; omega)] at this
      exact Option.some.inj this
    have c2' : ∀ {st ep ow : Nat → Int} {ver by' : Int} {q : AV}, cut (ringV st ver by' q ep ow) (11 + (i * 2 + 1)) 1 = some [I (ow i)] := fun {st ep ow ver by' q} => c2
    have l1 : 11 + (i * 2 + 1) ≤ 43 := by omega
    have l2 : 11 + (i * 2 + 2) ≤ 43 := by omega
    have l3 : 11 + (i * 2 + 1 + 1) ≤ 43 := by omega
    by_cases h1 : r.epoch i = 0
    · have e : ownerF r i = -1 := by simp [ownerF, h1]
      rw [e]
      rw [fr_init (by simp [fd94])]
      simp [fd94, b94, h, hi, c1, c2, c2', c3, d1, d2, d3, l1, l2, l3, h1]
    cases h2 : entMay (r.epoch i) (r.owner i)
    · have e : ownerF r i = -1 := by simp [ownerF, h2]
      rw [e]
      rw [fr_init (by simp [fd94])]
      simp [fd94, b94, h, hi, c1, c2, c2', c3, d1, d2, d3, l1, l2, l3, h1, h2]
    · have e : ownerF r i = r.owner i := by simp [ownerF, h, h1, h2]
      rw [e]
      rw [fr_init (by simp [fd94])]
      simp [fd94, b94, h, hi, c1, c2, c2', c3, d1, d2, d3, l1, l2, l3, h1, h2]
theorem k94 {r : Ring} {p : Int} {H : Heap} {K : AV → Heap → Prop} : wPu envE 94 (some [.agg (ringV r.status r.plan.version r.plan.by' (roL intC r.plan.targets) r.epoch r.owner), I p]) H K = K (I (ownerF r p)) H := by
  have := c94 r p
  simp only [ringC_eq] at this
  exact (wPu_eq this).trans (by simp)
structure OwnR where
  n : Int
  e : Int
def ownsO (s : VSt) (self : Int) (key : List UInt8) : OwnR :=
  if self < 0 ∨ 8 ≤ self ∨ keyOk key = false then ⟨0, 1⟩
  else if s.rings = 0 then ⟨0, 8⟩
  else if ownerF s.ring (spotF key) = self then ⟨self, 0⟩ else ⟨ownerF s.ring (spotF key), 10⟩
theorem owns_n {s : VSt} {self : Int} {key : List UInt8} (h : (ownsO s self key).e = 0) : (ownsO s self key).n = self := by
  unfold ownsO at h ⊢
  by_cases h1 : self < 0 ∨ 8 ≤ self ∨ keyOk key = false
  · rw [if_pos h1] at h; simp at h
  · rw [if_neg h1] at h ⊢
    by_cases h2 : s.rings = 0
    · rw [if_pos h2] at h; simp at h
    · rw [if_neg h2] at h ⊢
      by_cases h3 : ownerF s.ring (spotF key) = self
      · rw [if_pos h3]
      · rw [if_neg h3] at h; simp at h
theorem c52 {H : Heap} {p lb mi : Nat} {s : VSt} {v q : AV} {es : List (AV × AV × Nat)} {ck : Nat} (h : Vlt H p lb mi s v q es ck) (ok : VOk s) (self : Int) (key : List UInt8) (lim : Nat) (hlim : lim ≤ H.length) :
    WCl envE 52 [I self, .ptr (some (p, 0)), .str key] lim H fun r H' => r = .tup [I (ownsO s self key).n, I (ownsO s self key).e] ∧ ∃ X, H' = H ++ X := by
  obtain ⟨R, hR⟩ : ∃ R, R = ownsO s self key := ⟨_, rfl⟩
  rw [← hR]
  by_cases n1 : self < 0
  · have e : R = ⟨0, 1⟩ := by rw [hR]; simp [ownsO, n1]
    rw [e]
    refine cl_of e52 rfl ?_
    rw [fr_init (by simp [fd52])]
    simp [fd52, b52, n1]
  by_cases n2 : 8 ≤ self
  · have e : R = ⟨0, 1⟩ := by rw [hR]; simp [ownsO, n2]
    rw [e]
    refine cl_of e52 rfl ?_
    rw [fr_init (by simp [fd52])]
    simp [fd52, b52, n1, n2]
  cases hk : keyOk key
  · have e : R = ⟨0, 1⟩ := by rw [hR]; simp [ownsO, hk]
    rw [e]
    refine cl_of e52 rfl ?_
    rw [fr_init (by simp [fd52])]
    simp [fd52, b52, n1, n2, hk]
  have hover : ∀ {st ep ow : Nat → Int} {ver by' : Int} {q : AV} (l : List AV), l.length = 43 → setFrom l 0 (ringV st ver by' q ep ow) = ringV st ver by' q ep ow := fun l hl => setFrom_all _ _ (by rw [hl, ringV_len])
  refine cl_of e52 rfl ?_
  rw [fr_init (by simp [fd52])]
  simp [fd52, b52, n1, n2, hk]
  refine WCl.mono (c93 h ok lim hlim) ?_
  rintro _ _ ⟨X, rfl, ⟨hr, rfl⟩ | ⟨hr, q', rfl, hq⟩⟩
  · have e : R = ⟨0, 8⟩ := by rw [hR]; simp [ownsO, n1, n2, hk, hr]
    rw [e]
    simp [hlim, hover]
  · have o1 := hq.one
    have fq : ∀ Z, frz (H ++ (X ++ Z)) 11 q' = some (roL intC s.ring.plan.targets) := fun Z => by rw [← List.append_assoc]; exact (hq.app (X := Z)).frz (d := 9) intC_len int_flat
    have hlim1 : lim ≤ H.length + (X.length + 1) := by omega
    have kk := fun H K => k94 (r := s.ring) (p := spotF key) (H := H) (K := K)
    by_cases ho : ownerF s.ring (spotF key) = self
    · have e : R = ⟨self, 0⟩ := by rw [hR]; simp [ownsO, n1, n2, hk, hr, ho]
      rw [e]
      simp [hlim, hlim1, hover, o1, fq, kk, ho]
    · have e : R = ⟨ownerF s.ring (spotF key), 10⟩ := by rw [hR]; simp [ownsO, n1, n2, hk, hr, ho]
      rw [e]
      simp [hlim, hlim1, hover, o1, fq, kk, ho]
theorem c13 {H : Heap} {p lb mi : Nat} {s : VSt} {v q : AV} {es : List (AV × AV × Nat)} {ck : Nat} (h : Vlt H p lb mi s v q es ck) (ok : VOk s) (self : Int) (key : List UInt8) (lim : Nat) (hlim : lim ≤ H.length) :
    WCl envE 13 [I self, .ptr (some (p, 0)), .str key] lim H fun r H' => ∃ X q', H' = H ++ X ∧ r = .tup [.agg (bagV (if (ownsO s self key).e = 0 then bagOf s key else zBagS).known q'), I (ownsO s self key).n, I (ownsO s self key).e] ∧ Row H.length (H ++ X) 3 valC (if (ownsO s self key).e = 0 then bagOf s key else zBagS).vals q' := by
  obtain ⟨R, hR⟩ : ∃ R, R = ownsO s self key := ⟨_, rfl⟩
  rw [← hR]
  have h1 := h.app (X := [.cells false (bagV zeroV .nilsl)])
  have ho := c52 h1 ok self key lim (by simp; omega)
  rw [← hR] at ho
  refine cl_of e13 rfl ?_
  rw [fr_init (by simp [fd13])]
  simp [fd13, b13, bagV_zero]
  refine WCl.mono ho ?_
  rintro _ _ ⟨rfl, X, rfl⟩
  by_cases he : R.e = 0
  · have hn : R.n = self := by
      rw [hR] at he ⊢
      exact owns_n he
    simp [he, hn]
    have hv2 := (h1.app (X := X))
    refine WCl.mono (c32 (by simpa using hv2) ok key lim (by simp; omega)) ?_
    rintro _ _ ⟨Y, q', rfl, rfl, hq⟩
    have o1 := hq.one
    simp [hlim, o1]
    have hq2 := hq.set (b := H.length) (z := .cells false (bagV (bagOf s key).known q')) (hq.off (by simp))
    have hq3 := hq2.mono (lim' := H.length) (by simp)
    simp at hq3
    exact ⟨q', rfl, hq3⟩
  · simp [he, hlim]
    exact ⟨.nilsl, rfl, .nil⟩
end Go.Proofs.YtflgfiieaoeknaaGreatA

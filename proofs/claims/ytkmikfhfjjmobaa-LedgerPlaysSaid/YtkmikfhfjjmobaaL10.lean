/- A ledger and the reference's one in one memory. No statement about the program is proved here. -/
import Derived.Test.YtkmikfhfjjmobaaL9
namespace Go.Proofs.YtkmikfhfjjmobaaA
open Go
set_option linter.unusedSimpArgs false
set_option linter.unusedVariables false
set_option maxRecDepth 1000000
attribute [local simp] deed_zero

/-- The cells of a row of the reference. -/
def isR (y : List AV) : Bool := match y[11]? with | some (AV.ro _ _) => true | _ => false
theorem isR_val (l : List Val) : isR (l.flatMap valC) = false := by
  unfold isR
  match l with
  | [] => rfl
  | [_] => rfl
  | [_, _] => rfl
  | [_, _, _] => rfl
  | _ :: _ :: _ :: _ :: _ => rfl
theorem isR_int : ∀ (l : List Int), isR (l.flatMap intC) = false := fun l => by
  unfold isR
  have : l.flatMap intC = l.map I := by
    induction l with
    | nil => rfl
    | cons a l ih => rw [List.flatMap_cons, ih]; rfl
  rw [this, List.getElem?_map]
  cases l[11]? <;> rfl
theorem row_isR {lim : Nat} {H : Heap} {es : Nat} {α : Type} {f : α → List AV} {l : List α} {v : AV} (h : Row lim H es f l v) : ∀ n cs, v ≠ .ro n cs := by
  intro n cs e
  subst e
  rcases h with ⟨_, q⟩ | ⟨_, b, _, q, _⟩ <;> cases q
theorem DCell.isR {lim c : Nat} {H : Heap} {cs : List AV} {d : Deed} (h : DCell lim c H cs d) : Go.Proofs.YtkmikfhfjjmobaaA.isR cs = false := by
  obtain ⟨v1, v2, rfl, r1, r2, _⟩ := h
  have e : (deedM d v1 v2)[11]? = some v1 := rfl
  unfold Go.Proofs.YtkmikfhfjjmobaaA.isR
  rw [e]
  cases v1 <;> first | rfl | exact absurd rfl (row_isR r1 _ _)
theorem isR_take {cs : List AV} : isR (cs.take 56) = isR cs := by
  unfold isR
  rw [List.getElem?_take]
  rfl
theorem DRow.keepR {lim : Nat} {H H' : Heap} {ds : List Deed} {v : AV} (h : DRow lim H ds v) (hk : ∀ (b : Nat) (y : List AV), lim ≤ b → H[b]? = some (.cells true y) → isR y = false ∨ ds = [] → H'[b]? = some (.cells true y)) : DRow lim H' ds v := by
  rcases h with h | ⟨c, cs, h0, h1, h2, h3, h4⟩
  · exact .inl h
  · refine .inr ⟨c, cs, h0, h1, hk _ _ h0 h2 ?_, h3, fun i hi => ?_⟩
    · by_cases e : ds = []
      · exact .inr e
      · have h5 := h4 0 (List.length_pos_iff.2 e)
        have := h5.isR
        rw [Nat.zero_mul, List.drop_zero, isR_take] at this
        exact .inl this
    · obtain ⟨v1, v2, e, r1, r2, o1, o2⟩ := h4 i hi
      refine ⟨v1, v2, e, ?_, ?_, o1, o2⟩
      · rcases r1 with r1 | ⟨ne, b, g1, g2, g3⟩
        · exact .inl r1
        · exact .inr ⟨ne, b, g1, g2, hk b _ g1 g3 (.inl (isR_val _))⟩
      · rcases r2 with r2 | ⟨ne, b, g1, g2, g3⟩
        · exact .inl r2
        · exact .inr ⟨ne, b, g1, g2, hk b _ g1 g3 (.inl (isR_int _))⟩
section
variable {H H' : Heap} {b c : Nat} {v rv : AV} {ds ds' : List Deed} {s s' r r' : Int} {lo : Nat}
theorem RLed.sep (h : RLed H b rv ds s r) (k : DRow lo H ds v) : ∀ c, ¬ Off rv c → Off v c := by
  intro c hc
  rcases h.row with ⟨rfl, rfl⟩ | ⟨ne, b', g1, rfl, g3⟩
  · exact absurd Off.nil hc
  · have e : c = b' := by
      apply Classical.byContradiction
      intro q
      exact hc (Off.sl (Ne.symm q))
    subst e
    rcases k with ⟨q, _⟩ | ⟨c2, cs, h0, rfl, h2, h3, h4⟩
    · exact absurd q ne
    · refine Off.sl fun e => ?_
      subst e
      rw [h2] at g3
      have e2 := (Option.some.inj g3)
      have e3 : cs = ds.flatMap deedC := by injection e2
      obtain ⟨v1, v2, h5, r1, _⟩ := h4 0 (List.length_pos_iff.2 ne)
      rw [Nat.zero_mul, List.drop_zero, e3] at h5
      cases ds with
      | nil => exact absurd rfl ne
      | cons d ds =>
        have e5 : ((d :: ds).flatMap deedC).take 56 = deedC d := by
          rw [List.flatMap_cons]
          exact List.take_left' (deedC_len d)
        rw [e5] at h5
        have e6 : (deedC d)[11]? = some (roL valC d.bag.vals) := rfl
        have e7 : (deedM (d :: ds)[0] v1 v2)[11]? = some v1 := rfl
        rw [h5, e7] at e6
        exact row_isR r1 _ _ (Option.some.inj e6)
/-- Where the rows stay as they are. -/
theorem Led.to (h : Led lo H b v ds s r) (h1 : H'[b]? = H[b]?) (hk : ∀ (k : Nat) (y : List AV), H[k]? = some (.cells true y) → H'[k]? = some (.cells true y)) : Led lo H' b v ds s r := ⟨h1.trans h.at', h.row.keep fun k y _ q => hk k y q, h.few⟩
theorem RLed.to (h : RLed H b v ds s r) (h1 : H'[b]? = H[b]?) (hk : ∀ (k : Nat) (y : List AV), H[k]? = some (.cells true y) → H'[k]? = some (.cells true y)) : RLed H' b v ds s r := ⟨h1.trans h.at', h.row.keep fun k y q _ => hk k y q⟩
/-- The ledger is written to; the reference's one stays. -/
theorem RLed.beside (h : RLed H b rv ds s r) (hv : DRow lo H ds v) (hoff : Off v b) (hbc : b ≠ c) (hk : ∀ (k : Nat) (z : ABlk), H[k]? = some z → k ≠ c → Off v k → H'[k]? = some z) (hc : ∃ y, H[c]? = some (.cells false y)) : RLed H' b rv ds s r := by
  obtain ⟨y, hc⟩ := hc
  refine ⟨hk b _ h.at' hbc hoff, h.row.keep fun k z hz hno => hk k _ hz (fun e => ?_) (h.sep hv k hno)⟩
  subst e
  rw [hc] at hz
  cases hz
theorem Led.beside (h : Led lo H b v ds' s r) (hR : Row 0 H 56 deedC ds rv) (hoff : Off rv b) (hbc : b ≠ c) (hk : ∀ (k : Nat) (z : ABlk), H[k]? = some z → k ≠ c → Off rv k → H'[k]? = some z) (hc : ∃ y, H[c]? = some (.cells false y)) (hne : ds' = [] → ds = []) : Led lo H' b v ds' s r := by
  obtain ⟨y, hc⟩ := hc
  refine ⟨hk b _ h.at' hbc hoff, h.row.keepR fun k z hlo hz hr => hk k _ hz (fun e => ?_) ?_, h.few⟩
  · subst e
    rw [hc] at hz
    cases hz
  · rcases hR with ⟨_, rfl⟩ | ⟨ne, b', g1, rfl, g3⟩
    · exact Off.nil
    · refine Off.sl fun e => ?_
      subst e
      rw [g3] at hz
      have e3 : ds.flatMap deedC = z := by
        have := Option.some.inj hz
        injection this
      rcases hr with hr | hr
      · rw [← e3] at hr
        cases ds with
        | nil => exact absurd rfl ne
        | cons d ds => exact Bool.noConfusion (hr.symm.trans (show isR ((d :: ds).flatMap deedC) = true from rfl))
      · exact ne (hne hr)
end
theorem hide1_get {o k : Nat} {H : Heap} (h : k ≠ o) : (Go.Proofs.YtkmikfhfjjmobaaA.hide [o] H)[k]? = H[k]? := by
  rw [hide_get, if_neg (by simpa using h)]
theorem hide1_self {o : Nat} {H : Heap} (h : o < H.length) : (Go.Proofs.YtkmikfhfjjmobaaA.hide [o] H)[o]? = some .dead := by
  rw [hide_get, if_pos (by simp), List.getElem?_eq_getElem h]
  rfl
theorem hide1_true {o k : Nat} {H : Heap} {y z : List AV} (ho : H[o]? = some (.cells false z)) (h : H[k]? = some (.cells true y)) : (Go.Proofs.YtkmikfhfjjmobaaA.hide [o] H)[k]? = some (.cells true y) := by
  rw [hide1_get]
  · exact h
  · rintro rfl
    rw [ho] at h
    cases h
theorem unhide1_get {o k : Nat} {H H1 : Heap} (ho : o < H.length) (hl : H.length ≤ H1.length) (h : k ≠ o) : (unhide [o] H H1)[k]? = H1[k]? := by
  rw [unhide_get (by simpa using ho) hl, if_neg (by simpa using h)]
theorem unhide1_self {o : Nat} {H H1 : Heap} (ho : o < H.length) (hl : H.length ≤ H1.length) : (unhide [o] H H1)[o]? = H[o]? := by
  rw [unhide_get (by simpa using ho) hl, if_pos (by simp)]
theorem unhide1_true {o k : Nat} {H H1 : Heap} {y : List AV} (ho : o < H.length) (hl : H.length ≤ H1.length) (hd : H1[o]? = some .dead) (h : H1[k]? = some (.cells true y)) : (unhide [o] H H1)[k]? = some (.cells true y) := by
  rw [unhide1_get ho hl]
  · exact h
  · rintro rfl
    rw [hd] at h
    cases h
theorem off_falseR {α : Type} {lim es b : Nat} {H : Heap} {f : α → List AV} {l : List α} {v : AV} {z : ABlk} (h : Row lim H es f l v) (hb : H[b]? = some z) (hz : ∀ y, z ≠ .cells true y := by intro y e; cases e) : Off v b := by
  rintro o n s rfl
  rcases h with ⟨_, q⟩ | ⟨_, b', _, q, q2⟩
  · cases q
  · cases q
    rw [hb] at q2
    exact hz _ (Option.some.inj q2)
end Go.Proofs.YtkmikfhfjjmobaaA

/- The reference's vault in memory. No statement about the program is proved here. -/
import Derived.Test.YtflgfiieaoeknaaGreatX0
import Derived.Test.YtflgfiieaoeknaaGreatR1
import Derived.Test.YtflgfiieaoeknaaGreatV6
import Derived.KernelRfl
namespace Go.Proofs.YtflgfiieaoeknaaGreatA
open Go
set_option linter.unusedSimpArgs false
set_option linter.unusedVariables false
set_option maxRecDepth 1000000

/-! ## What it has -/
structure RSt where
  n : Nat
  sure : Nat
  cap : Int
  inc : Int
  dots : Int
  has : Bool
  ring : Ring
  prs : List (List UInt8 × Bag)
def posP (key : List UInt8) : List (List UInt8 × Bag) → Nat
  | [] => 0
  | (k, _) :: l => if strLess k key then posP key l + 1 else 0
def atP (key : List UInt8) (l : List (List UInt8 × Bag)) : Option Bag := match l[posP key l]? with | some p => if p.1 == key then some p.2 else none | none => none
theorem posP_eq {key : List UInt8} : ∀ {l : List (List UInt8 × Bag)} {i : Nat}, i ≤ l.length → (∀ j (hj : j < l.length), j < i → strLess l[j].1 key = true) → (∀ (hi : i < l.length), strLess l[i].1 key = false) → posP key l = i
  | [], i, h, _, _ => by simp at h; simp [posP, h]
  | (k, x) :: l, 0, _, _, h3 => by have := h3 (by simp); simp at this; simp [posP, this]
  | (k, x) :: l, i + 1, h1, h2, h3 => by
    have h0 := h2 0 (by simp) (by omega)
    simp at h0
    have := posP_eq (key := key) (l := l) (i := i) (by simpa using h1) (fun j hj hji => by have := h2 (j + 1) (by simpa using hj) (by omega); simpa using this) (fun hi => by have := h3 (by simpa using hi); simpa using this)
    simp [posP, h0, this]
theorem posP_le {key : List UInt8} : ∀ {l : List (List UInt8 × Bag)}, posP key l ≤ l.length
  | [] => by simp [posP]
  | (k, x) :: l => by
    unfold posP
    split
    · have := posP_le (key := key) (l := l); simp only [List.length_cons]; omega
    · exact Nat.zero_le _

/-! ## How it lies in memory -/
/-- The cells of a row of the reference's deeds. -/
def isDR (y : List AV) : Bool := match y[11]? with | some (AV.sl _ _ _ _) => true | some AV.nilsl => true | some (AV.ro _ _) => true | _ => false
theorem isDR_D {y : List AV} (h : isDR y = false) : isD y = false := by
  unfold isDR at h
  unfold isD
  split at h <;> simp_all
theorem isDR_val (l : List Val) : isDR (l.flatMap valC) = false := by
  unfold isDR
  match l with
  | [] => rfl
  | [_] => rfl
  | [_, _] => rfl
  | [_, _, _] => rfl
  | _ :: _ :: _ :: x :: l =>
    have e : ∀ (a b c d : Val) (l : List Val), ((a :: b :: c :: d :: l).flatMap valC)[11]? = some (.str d.data) := fun a b c d l => rfl
    rw [e]
theorem isDR_int (l : List Int) : isDR (l.flatMap intC) = false := by
  unfold isDR
  have : l.flatMap intC = l.map I := by
    induction l with
    | nil => rfl
    | cons a l ih => rw [List.flatMap_cons, ih]; rfl
  rw [this, List.getElem?_map]
  cases l[11]? <;> rfl
structure PR where
  key : List UInt8
  known : Nat → Int
  q : AV
  one : AV.one q = true
def prC (x : PR) : List AV := .str x.key :: bagV x.known x.q
theorem prC_len (x : PR) : (prC x).length = 10 := hard rfl
theorem prC_one (x : PR) : (prC x).all AV.one = true := by
  show (true && _) = true
  rw [Bool.true_and]
  simp [x.one]
theorem isDR_pr (l : List PR) : isDR (l.flatMap prC) = false := by
  unfold isDR
  match l with
  | [] => rfl
  | [_] => rfl
  | _ :: x :: l =>
    have e : ∀ (a c : PR) (l : List PR), ((a :: c :: l).flatMap prC)[11]? = some (I (c.known 0)) := fun a c l => rfl
    rw [e]
abbrev DCell9 := { c : List AV // c.length = 56 ∧ c.all AV.one = true ∧ isDR c = true }
def rdC (c : DCell9) : List AV := c.1
theorem rdC_len (c : DCell9) : (rdC c).length = 56 := c.2.1
theorem rdC_one (c : DCell9) : (rdC c).all AV.one = true := c.2.2.1
theorem isDR_rd {l : List DCell9} (h : l ≠ []) : isDR (l.flatMap rdC) = true := by
  match l with
  | [] => exact absurd rfl h
  | c :: l =>
    have h1 := c.2.2.2
    unfold isDR at h1 ⊢
    rw [List.flatMap_cons, List.getElem?_append_left (by rw [rdC_len]; omega)]
    exact h1
def PRel (H : Heap) : List PR → List (List UInt8 × Bag) → Prop
  | [], [] => True
  | x :: xs, (k, b) :: l => (x.key = k ∧ x.known = b.known ∧ Rd H 3 valC b.vals x.q) ∧ PRel H xs l
  | _, _ => False
section
variable {H H' : Heap}
theorem PRel.len : ∀ {xs : List PR} {l : List (List UInt8 × Bag)}, PRel H xs l → xs.length = l.length
  | [], [], _ => rfl
  | x :: xs, (k, b) :: l, h => by simp [h.2.len]
  | [], _ :: _, h => h.elim
  | _ :: _, [], h => h.elim
theorem PRel.get : ∀ {xs : List PR} {l : List (List UInt8 × Bag)} (h : PRel H xs l) {i : Nat} (h1 : i < xs.length) (h2 : i < l.length), xs[i].key = l[i].1 ∧ xs[i].known = l[i].2.known ∧ Rd H 3 valC l[i].2.vals xs[i].q
  | x :: xs, (k, b) :: l, h, 0, _, _ => h.1
  | x :: xs, (k, b) :: l, h, i + 1, h1, h2 => h.2.get (by simpa using h1) (by simpa using h2)
theorem PRel.keep (hk : ∀ (b : Nat) (y : List AV), H[b]? = some (.cells true y) → isDR y = false → H'[b]? = some (.cells true y)) : ∀ {xs : List PR} {l : List (List UInt8 × Bag)}, PRel H xs l → PRel H' xs l
  | [], [], _ => trivial
  | x :: xs, (k, b) :: l, h => by
    refine ⟨⟨h.1.1, h.1.2.1, ?_⟩, h.2.keep hk⟩
    rcases h.1.2.2 with q | q
    · rcases q with q | ⟨ne, c, g1, g2, g3⟩
      · exact .inl (.inl q)
      · exact .inl (.inr ⟨ne, c, g1, g2, hk c _ g3 (isDR_val _)⟩)
    · exact .inr q
  | [], _ :: _, h => h.elim
  | _ :: _, [], h => h.elim
theorem PRel.app : ∀ {xs ys : List PR} {l m : List (List UInt8 × Bag)}, PRel H xs l → PRel H ys m → PRel H (xs ++ ys) (l ++ m)
  | [], _, [], _, _, k => k
  | x :: xs, _, (a, b) :: l, _, h, k => ⟨h.1, h.2.app k⟩
  | [], _, _ :: _, _, h, _ => h.elim
  | _ :: _, _, [], _, h, _ => h.elim
theorem PRel.take : ∀ {xs : List PR} {l : List (List UInt8 × Bag)} (i : Nat), PRel H xs l → PRel H (xs.take i) (l.take i)
  | _, _, 0, _ => by simp [PRel]
  | [], [], _ + 1, _ => trivial
  | x :: xs, (k, b) :: l, i + 1, h => ⟨h.1, h.2.take i⟩
  | [], _ :: _, _ + 1, h => h.elim
  | _ :: _, [], _ + 1, h => h.elim
theorem PRel.drop : ∀ {xs : List PR} {l : List (List UInt8 × Bag)} (i : Nat), PRel H xs l → PRel H (xs.drop i) (l.drop i)
  | _, _, 0, h => by simpa using h
  | [], [], _ + 1, _ => trivial
  | x :: xs, (k, b) :: l, i + 1, h => h.2.drop i
  | [], _ :: _, _ + 1, h => h.elim
  | _ :: _, [], _ + 1, h => h.elim
end
def rfC (b : Nat) (t : RSt) (q pv : AV) : List AV := .ptr (some (b, 0)) :: I t.inc :: I t.dots :: .bool t.has :: (ringV t.ring.status t.ring.plan.version t.ring.plan.by' q t.ring.epoch t.ring.owner ++ [pv])
section
variable {b : Nat} {t : RSt} {q q' pv pv' : AV}
@[simp] theorem rf_len : (rfC b t q pv).length = 48 := hard rfl
@[simp] theorem rf_one : (rfC b t q pv).all AV.one = (AV.one q && AV.one pv) := by
  show (true && (true && (true && (true && _)))) = _
  rw [Bool.true_and, Bool.true_and, Bool.true_and, Bool.true_and]
  simp
@[simp] theorem rf_f0 : (rfC b t q pv).take 1 = [.ptr (some (b, 0))] := hard rfl
@[simp] theorem rf_f2 : ((rfC b t q pv).drop 2).take 1 = [I t.dots] := hard rfl
@[simp] theorem rf_f3 : ((rfC b t q pv).drop 3).take 1 = [.bool t.has] := hard rfl
@[simp] theorem rf_f4 : ((rfC b t q pv).drop 4).take 43 = ringV t.ring.status t.ring.plan.version t.ring.plan.by' q t.ring.epoch t.ring.owner := hard rfl
@[simp] theorem rf_f47 : ((rfC b t q pv).drop 47).take 1 = [pv] := hard rfl
@[simp] theorem rf_s2 {x : Int} : (rfC b t q pv).set 2 (I x) = rfC b { t with dots := x } q pv := by kernel_rfl
@[simp] theorem rf_s3 {x : Bool} : (rfC b t q pv).set 3 (.bool x) = rfC b { t with has := x } q pv := by kernel_rfl
theorem rf_s4 {r : Ring} : setFrom (rfC b t q pv) 4 (ringV r.status r.plan.version r.plan.by' q' r.epoch r.owner) = rfC b { t with ring := r } q' pv := by kernel_rfl
@[simp] theorem rf_s47 : (rfC b t q pv).set 47 pv' = rfC b t q pv' := by kernel_rfl
end
/-- The reference's ledger at b, its vault at w. -/
structure RV (H : Heap) (b w : Nat) (t : RSt) (rv q pv : AV) (cs : List DCell9) (ps : List PR) : Prop where
  led : H[b]? = some (.cells false [I t.cap, I t.sure, rv])
  row : Row 0 H 56 rdC cs rv
  cn : cs.length = t.n
  box : H[w]? = some (.cells false (rfC b t q pv))
  tgt : Rd H 1 intC t.ring.plan.targets q
  prow : Row 0 H 10 prC ps pv
  rel : PRel H ps t.prs
structure ROk (t : RSt) : Prop where
  r0 : 0 ≤ t.cap
  r1 : t.cap ≤ 3000
  le : (t.n : Int) ≤ t.cap
  pn : t.prs.length ≤ t.n
  bfit : ∀ p ∈ t.prs, p.2.vals.length * 32 ≤ reachBytes
  d0 : 0 ≤ t.dots
  d1 : t.dots ≤ 1000000
section
variable {H H' X : Heap} {b w : Nat} {t : RSt} {rv q pv : AV} {cs : List DCell9} {ps : List PR}
theorem RV.app (h : RV H b w t rv q pv cs ps) : RV (H ++ X) b w t rv q pv cs ps := ⟨get_app h.led, h.row.app, h.cn, get_app h.box, h.tgt.app, h.prow.app, h.rel.keep fun _ _ q _ => get_app q⟩
theorem RV.bw (h : RV H b w t rv q pv cs ps) : b ≠ w := by
  rintro rfl
  have := h.box
  rw [h.led] at this
  have e : ([I t.cap, I t.sure, rv] : List AV) = rfC b t q pv := by
    have := Option.some.inj this
    injection this
  have := congrArg List.length e
  rw [rf_len] at this
  simp at this
theorem RV.cells (h : RV H b w t rv q pv cs ps) (Z : Heap) : Heap.cells? (H ++ Z) w = some (rfC b t q pv) := cells_of (get_app h.box)
theorem RV.cells0 (h : RV H b w t rv q pv cs ps) : Heap.cells? H w = some (rfC b t q pv) := cells_of h.box
theorem RV.lcells (h : RV H b w t rv q pv cs ps) (Z : Heap) : Heap.cells? (H ++ Z) b = some [I t.cap, I t.sure, rv] := cells_of (get_app h.led)
theorem RV.lcells0 (h : RV H b w t rv q pv cs ps) : Heap.cells? H b = some [I t.cap, I t.sure, rv] := cells_of h.led
theorem RV.plen (h : RV H b w t rv q pv cs ps) : ps.length = t.prs.length := h.rel.len
end
theorem pr_key {ps : List PR} {i : Nat} (hi : i < ps.length) : cut (ps.flatMap prC) (i * 10) 1 = some [.str ps[i].key] := by
  have e := cut_flat prC_len hi
  unfold Go.Proofs.YtflgfiieaoeknaaGreatA.cut at e ⊢
  split at e
  · rename_i h
    rw [if_pos (by omega)]
    simp only [Option.some.injEq] at e ⊢
    have : ((ps.flatMap prC).drop (i * 10)).take 1 = (((ps.flatMap prC).drop (i * 10)).take 10).take 1 := by rw [List.take_take]; rfl
    rw [this, e]
    rfl
  · cases e
theorem pr_bag {ps : List PR} {i : Nat} (hi : i < ps.length) : cut (ps.flatMap prC) (i * 10 + 1) 9 = some (bagV ps[i].known ps[i].q) := by
  have e := cut_flat prC_len hi
  unfold Go.Proofs.YtflgfiieaoeknaaGreatA.cut at e ⊢
  split at e
  · rename_i h
    rw [if_pos (by omega)]
    simp only [Option.some.injEq] at e ⊢
    have : ((ps.flatMap prC).drop (i * 10 + 1)).take 9 = ((((ps.flatMap prC).drop (i * 10)).take 10).drop 1).take 9 := by
      rw [List.drop_take, List.drop_drop, List.take_take]; rfl
    rw [this, e]
    rfl
  · cases e
theorem c92 {H : Heap} {b w : Nat} {t : RSt} {rv q pv : AV} {cs : List DCell9} {ps : List PR} (h : RV H b w t rv q pv cs ps) (hn : t.prs.length ≤ 3000) (key : List UInt8) (lim : Nat) (hlim : lim ≤ H.length) :
    Cl envE 92 [.ptr (some (w, 0)), .str key] lim H (.tup [I (posP key t.prs), .bool (atP key t.prs).isSome]) H := by
  refine cl_is e92 rfl ?_
  have cp0 := h.cells0
  have hl := h.prow.len
  have hpl := h.plen
  rw [fr_init (by simp [fd92])]
  simp [fd92, b92]
  refine loop_go [0, 1, 6] rfl (fun m vs H' => ∃ i, m + i = t.prs.length ∧ (∀ j (hj : j < t.prs.length), j < i → strLess t.prs[j].1 key = true) ∧ H' = H ∧ vs = [.ptr (some (w, 0)), .str key, I i]) ?_ t.prs.length ⟨0, by omega, fun j _ h => by omega, rfl, rfl⟩
  rintro J hJ m vs H' f ⟨i, hm, hall, rfl, rfl⟩
  by_cases hi : i < t.prs.length
  · have hi' : (i : Int) < ps.length := by omega
    obtain ⟨pb, g1, g2⟩ := h.prow.idx (i := i) (k := .i64) (by omega)
    have hkey : cut (ps.flatMap prC) (i * 10) 1 = some [.str t.prs[i].1] := by rw [pr_key (by omega), (h.rel.get (by omega) hi).1]
    have hw : IntKind.i64.wrap ((i : Int) + 1) = (i : Int) + 1 := by rw [wrap_i64] <;> omega
    cases hs : strLess t.prs[i].1 key
    · have hpos : posP key t.prs = i := posP_eq (by omega) hall (fun _ => hs)
      have hat : (atP key t.prs).isSome = (t.prs[i].1 == key) := by
        unfold atP
        rw [hpos, List.getElem?_eq_getElem hi]
        simp only
        cases t.prs[i].1 == key <;> rfl
      simp [lp92_0, cp0, hl, hi', g1, g2, hkey, hs, hpos, hat, hlim]
    · simp [lp92_0, cp0, hl, hi', g1, g2, hkey, hs, hw]
      exact nxt hJ (m - 1) (by omega) ⟨i + 1, by omega, fun j hj hji => by
        rcases Nat.lt_or_ge j i with q | q
        · exact hall j hj q
        · have : j = i := by omega
          subst this
          exact hs, rfl, rfl⟩
  · have hi' : ¬ (i : Int) < ps.length := by omega
    have hpos : posP key t.prs = i := posP_eq (by omega) hall (fun q => absurd q hi)
    have hat : (atP key t.prs).isSome = false := by
      unfold atP
      rw [hpos, List.getElem?_eq_none (by omega)]
      rfl
    simp [lp92_0, cp0, hl, hi', hpos, hat, hlim]
def bagP (t : RSt) (key : List UInt8) : Bag := (atP key t.prs).getD zBagS
def fullP (t : RSt) (key : List UInt8) : Bool := !(atP key t.prs).isSome && decide (200 ≤ t.prs.length)
end Go.Proofs.YtflgfiieaoeknaaGreatA
/- What the reference's vault does: full, Bag, a deed counts. No statement about the program is proved here. -/
namespace Go.Proofs.YtflgfiieaoeknaaGreatA
open Go
set_option linter.unusedSimpArgs false
set_option linter.unusedVariables false
set_option maxRecDepth 1000000
attribute [local simp] deed_zero

@[simp] theorem nextH_some {B : List Nat} {v : AV} {H1 H : Heap} {T : Tmps} {dst : Option Nat} {next : Tmps → Heap → Prop} : nextH B (some (v, H1)) T H dst next = (H.length ≤ H1.length ∧ next (putT T dst v) (unhide B H H1)) := by rw [nextH]
@[simp] theorem among_ptr {B : List Nat} {b o : Nat} : amongP B (.ptr (some (b, o))) = (b ∈ B) := by simp [amongP]

/-! ## What stays while the reference's vault is written to -/
def offR (H : Heap) (b k : Nat) : Prop := ∃ x y v, H[b]? = some (.cells false [x, y, v]) ∧ Off v k
structure KR (H H' : Heap) (b w : Nat) : Prop where
  len : H.length ≤ H'.length
  keep : ∀ (k : Nat) (z : ABlk), H[k]? = some z → k ≠ b → k ≠ w → (∀ y, z = .cells true y → isDR y = false) → H'[k]? = some z
  keep2 : ∀ (k : Nat) (z : ABlk), H[k]? = some z → k ≠ b → k ≠ w → offR H b k → H'[k]? = some z
  offs : ∀ k, k < H.length → offR H b k → offR H' b k
theorem KR.app {H X : Heap} {b w : Nat} : KR H (H ++ X) b w := ⟨by simp, fun k z h _ _ _ => get_app h, fun k z h _ _ _ => get_app h, fun k _ ⟨x, y, v, h, o⟩ => ⟨x, y, v, get_app h, o⟩⟩
theorem KR.refl {H : Heap} {b w : Nat} : KR H H b w := ⟨Nat.le_refl _, fun k z h _ _ _ => h, fun k z h _ _ _ => h, fun _ _ h => h⟩
theorem KR.trans {H H1 H2 : Heap} {b w : Nat} (h : KR H H1 b w) (k : KR H1 H2 b w) : KR H H2 b w := ⟨Nat.le_trans h.1 k.1, fun c z q a d e => k.keep c z (h.keep c z q a d e) a d e, fun c z q a d e => k.keep2 c z (h.keep2 c z q a d e) a d (h.offs c (lt_of q) e), fun c q e => k.offs c (Nat.lt_of_lt_of_le q h.1) (h.offs c q e)⟩
def RStep (H H' : Heap) (b w : Nat) (t' : RSt) : Prop := KR H H' b w ∧ ∃ rv q pv cs ps, RV H' b w t' rv q pv cs ps
section
variable {H H' X : Heap} {b w : Nat} {t t' : RSt} {rv q pv : AV} {cs : List DCell9} {ps : List PR}
theorem RStep.refl (h : RV H b w t rv q pv cs ps) : RStep H H b w t := ⟨.refl, _, _, _, _, _, h⟩
theorem RStep.app (h : RV H b w t rv q pv cs ps) : RStep H (H ++ X) b w t := ⟨.app, _, _, _, _, _, h.app⟩
theorem RStep.after {H1 : Heap} (h : KR H H1 b w) (k : RStep H1 H' b w t') : RStep H H' b w t' := ⟨h.trans k.1, k.2⟩
theorem RV.offR (h : RV H b w t rv q pv cs ps) {k : Nat} (o : Go.Proofs.YtflgfiieaoeknaaGreatA.offR H b k) : Off rv k := by
  obtain ⟨x, y, v, h1, h2⟩ := o
  rw [h.led] at h1
  have := Option.some.inj h1
  injection this with _ e
  injection e with _ e
  injection e with _ e
  injection e with e _
  rw [e]
  exact h2
theorem RV.onR (h : RV H b w t rv q pv cs ps) {k : Nat} (o : Off rv k) : Go.Proofs.YtflgfiieaoeknaaGreatA.offR H b k := ⟨_, _, _, h.led, o⟩
theorem RV.off (h : RV H b w t rv q pv cs ps) {k : Nat} {z : ABlk} (hb : H[k]? = some z) (hz : ∀ y, z = .cells true y → isDR y = false) : Off rv k := by
  rcases h.row with ⟨_, rfl⟩ | ⟨ne, c, g1, rfl, g3⟩
  · exact Off.nil
  · refine Off.sl fun e => ?_
    subst e
    rw [g3] at hb
    have := hz _ (Option.some.inj hb).symm
    rw [isDR_rd ne] at this
    cases this
theorem RV.set (h : RV H b w t rv q pv cs ps) {q' pv' : AV} {ps' : List PR} (e1 : t'.n = t.n) (e2 : t'.sure = t.sure) (e3 : t'.cap = t.cap) (hq : Rd H 1 intC t'.ring.plan.targets q') (hp : Row 0 H 10 prC ps' pv') (hr : PRel H ps' t'.prs) :
    RV (H.set w (.cells false (rfC b t' q' pv'))) b w t' rv q' pv' cs ps' := by
  have hk : ∀ (k : Nat) (y : List AV), H[k]? = some (.cells true y) → (H.set w (.cells false (rfC b t' q' pv')))[k]? = some (.cells true y) := fun k y hy => get_set hy (fun e => by subst e; rw [h.box] at hy; cases hy)
  refine ⟨?_, h.row.keep fun k y hy _ => hk k y hy, by rw [e1]; exact h.cn, List.getElem?_set_self (lt_of h.box), ?_, hp.keep fun k y hy _ => hk k y hy, hr.keep fun k y hy _ => hk k y hy⟩
  · rw [e2, e3]
    exact get_set h.led h.bw.symm
  · rcases hq with hq | hq
    · exact .inl (hq.keep fun k y hy _ => hk k y hy)
    · exact .inr hq
theorem KR.setw {z : ABlk} (hb : b ≠ w) : KR H (H.set w z) b w := ⟨by simp, fun k y hy _ n _ => get_set hy (Ne.symm n), fun k y hy _ n _ => get_set hy (Ne.symm n), fun k hk ⟨x, y, v, g, o⟩ => ⟨x, y, v, get_set g (Ne.symm hb), o⟩⟩
end
theorem c97 {H : Heap} {b w : Nat} {t : RSt} {rv q pv : AV} {cs : List DCell9} {ps : List PR} (h : RV H b w t rv q pv cs ps) (hn : t.prs.length ≤ 3000) (key : List UInt8) (lim : Nat) (hlim : lim ≤ H.length) :
    Cl envE 97 [.ptr (some (w, 0)), .str key] lim H (.bool (fullP t key)) H := by
  refine cl_is e97 rfl ?_
  have cp0 := h.cells0
  have hl := h.prow.len
  have hpl := h.plen
  have k92 : ∀ K, WCl envE 92 [.ptr (some (w, 0)), .str key] lim H K = K (.tup [I (posP key t.prs), .bool (atP key t.prs).isSome]) H := fun K => WCl_eq (c92 h hn key lim hlim)
  have el : (200 ≤ (ps.length : Int)) = (200 ≤ t.prs.length) := by apply propext; omega
  rw [fr_init (by simp [fd97])]
  cases ha : (atP key t.prs).isSome
  · rw [ha] at k92
    simp [fd97, b97, k92, cp0, hl, fullP, ha, el]
  · rw [ha] at k92
    simp [fd97, b97, k92, cp0, hl, fullP, ha]
theorem atP_get {key : List UInt8} {l : List (List UInt8 × Bag)} {x : Bag} (h : atP key l = some x) : ∃ hi : posP key l < l.length, l[posP key l].1 = key ∧ l[posP key l].2 = x := by
  unfold atP at h
  rcases Nat.lt_or_ge (posP key l) l.length with c | c
  · rw [List.getElem?_eq_getElem c] at h
    simp only at h
    split at h
    · rename_i e
      exact ⟨c, by simpa using e, by simpa using h⟩
    · cases h
  · rw [List.getElem?_eq_none c] at h
    cases h
theorem c56 {H : Heap} {b w : Nat} {t : RSt} {rv q pv : AV} {cs : List DCell9} {ps : List PR} (h : RV H b w t rv q pv cs ps) (hn : t.prs.length ≤ 3000) (key : List UInt8) (lim : Nat) (hlim : lim ≤ H.length) :
    WCl envE 56 [.ptr (some (w, 0)), .str key] lim H fun r H' => ∃ X q', H' = H ++ X ∧ r = .agg (bagV (bagP t key).known q') ∧ Rd H 3 valC (bagP t key).vals q' := by
  refine cl_of e56 rfl ?_
  have cp := h.cells
  have hl := h.prow.len
  have hpl := h.plen
  have k92 : ∀ X K, WCl envE 92 [.ptr (some (w, 0)), .str key] lim (H ++ X) K = K (.tup [I (posP key t.prs), .bool (atP key t.prs).isSome]) (H ++ X) := fun X K => WCl_eq (c92 (h.app (X := X)) hn key lim (by simp; omega))
  rw [fr_init (by simp [fd56])]
  cases ha : atP key t.prs with
  | none =>
    rw [ha] at k92
    simp [fd56, b56, bagV_zero, k92, bagP, ha, hlim]
    exact ⟨.nilsl, rfl, .inl .nil⟩
  | some x =>
    obtain ⟨hi, e1, e2⟩ := atP_get ha
    obtain ⟨pb, g1, g2⟩ := h.prow.idx (i := posP key t.prs) (k := .i64) (by omega)
    have hbag := pr_bag (ps := ps) (i := posP key t.prs) (by omega)
    obtain ⟨_, r2, r3⟩ := h.rel.get (i := posP key t.prs) (by omega) hi
    have o1 := (ps[posP key t.prs]'(by omega)).one
    rw [ha] at k92
    have g2' : ∀ X, Heap.cells? (H ++ X) pb = some (ps.flatMap prC) := fun X => cells_app g2
    simp [fd56, b56, bagV_zero, k92, cp, g1, g2', hbag, o1, bagP, ha, hlim]
    rw [e2] at r2 r3
    exact ⟨_, by rw [r2], r3⟩
end Go.Proofs.YtflgfiieaoeknaaGreatA

/- Light calls. No statement about the program is proved here. -/
import Derived.Test.YtflgfiieaoeknaaGreatX8
import Derived.KernelRfl
namespace Go.Proofs.YtflgfiieaoeknaaGreatA
open Go Go.RowKit
set_option linter.unusedSimpArgs false
set_option linter.unusedVariables false
set_option maxRecDepth 1000000
attribute [local simp] ring_zero

/-! ## Calls -/
structure DCall where
  what : Int
  self : Int
  key : List UInt8
  data : List UInt8
  known : Nat → Int
  ring : Ring
def dcV (w se : Int) (key data : List UInt8) (k : Nat → Int) (r : List AV) : List AV := [I w, I se, .str key, .str data] ++ (vecC k ++ r)
def dcC (c : DCall) : List AV := dcV c.what c.self c.key c.data c.known (ringC c.ring)
section
variable {w se : Int} {key data : List UInt8} {k st pe po : Nat → Int} {q : AV} {ver by' : Int} {H : Heap} {d : Nat}
abbrev dV (w se : Int) (key data : List UInt8) (k : Nat → Int) (st : Nat → Int) (ver by' : Int) (q : AV) (pe po : Nat → Int) : List AV := dcV w se key data k (ringV st ver by' q pe po)
theorem dcC_len (c : DCall) : (dcC c).length = 55 := hard rfl
theorem dcC_eq (c : DCall) : dcC c = dcV c.what c.self c.key c.data c.known (ringV c.ring.status c.ring.plan.version c.ring.plan.by' (roL intC c.ring.plan.targets) c.ring.epoch c.ring.owner) := hard rfl
@[simp] theorem dV_len : (dV w se key data k st ver by' q pe po).length = 55 := hard rfl
@[simp] theorem dV_one : (dV w se key data k st ver by' q pe po).all AV.one = AV.one q := by
  unfold dV dcV
  rw [List.all_append, List.all_append, vec_one, ringV_one]
  simp
@[simp] theorem dV_take : (dV w se key data k st ver by' q pe po).take 55 = dV w se key data k st ver by' q pe po := hard rfl
@[simp] theorem dV_over {l : List AV} (h : l.length = 55) : setFrom l 0 (dV w se key data k st ver by' q pe po) = dV w se key data k st ver by' q pe po := setFrom_all _ _ (by rw [h, dV_len])
@[simp] theorem dV_f1 : ((dV w se key data k st ver by' q pe po).drop 1).take 1 = [I se] := hard rfl
@[simp] theorem dV_t1 : ((dV w se key data k st ver by' q pe po).tail).take 1 = [I se] := hard rfl
@[simp] theorem dV_f2 : ((dV w se key data k st ver by' q pe po).drop 2).take 1 = [.str key] := hard rfl
@[simp] theorem dV_f3 : ((dV w se key data k st ver by' q pe po).drop 3).take 1 = [.str data] := hard rfl
@[simp] theorem dV_f4 : ((dV w se key data k st ver by' q pe po).drop 4).take 8 = vecC k := hard rfl
@[simp] theorem dV_f12 : ((dV w se key data k st ver by' q pe po).drop 12).take 43 = ringV st ver by' q pe po := hard rfl
end
def shDCall : Sh := .cat [iS, iS, (1, .str), (1, .str), (8, shVec), (43, shRing)]
theorem c47 (l : List Ring) (hl : l.length < 4611686018427387904) : ∃ n, Pu envE 47 [roL ringC l] (I n) := by
  suffices h : ∃ d, Pu envE 47 [roL ringC l] d ∧ ∃ n, d = I n by
    obtain ⟨d, h1, n, rfl⟩ := h
    exact ⟨n, h1⟩
  refine pu_ex e47 rfl ?_
  rw [fr_init (by simp [fd47])]
  simp [fd47, b47]
  refine loop_go [5, 6, 7] rfl (fun m vs H => ∃ i, m + i = l.length ∧ vs = [roL ringC l, I l.length, I i]) ?_ l.length ⟨0, rfl, rfl⟩
  rintro J hJ m vs H b ⟨i, hm, rfl⟩
  by_cases hi : i < l.length
  · have hw := wrap_succ (i := i) (by omega)
    have hld := load_roL ringC_len hi (H := H)
    have hover : ∀ q : List AV, q.length = 43 → setFrom q 0 (ringC l[i]) = ringC l[i] := fun q hq => setFrom_all _ _ (by rw [hq, ringC_len])
    simp only [ringC_eq] at hover
    by_cases hn : (100 : Int) < l[i].plan.targets.length
    · simp [lp47_0, hi, idxSl_roL hi, hld, hn, hover, -load_tp]
    · simp [lp47_0, hi, idxSl_roL hi, hld, hn, hw, hover, -load_tp]
      exact nxt hJ (m - 1) (by omega) ⟨i + 1, by omega, rfl⟩
  · simp [lp47_0, hi]
theorem heavy28a (r : Ring) : ∃ n, Pu envE 47 [.ro 1 (ringV r.status r.plan.version r.plan.by' (roL intC r.plan.targets) r.epoch r.owner)] (I n) := by
  have := c47 [r] (by simp)
  simpa [roL] using this
theorem c7 (l : List DCall) (hl : l.length < 4611686018427387904) : ∃ b, Pu envE 7 [roL dcC l] (.bool b) := by
  suffices h : ∃ d, Pu envE 7 [roL dcC l] d ∧ ∃ b, d = .bool b by
    obtain ⟨d, h1, b, rfl⟩ := h
    exact ⟨b, h1⟩
  refine pu_ex e7 rfl ?_
  rw [fr_init (by simp [fd7])]
  simp [fd7, b7]
  refine loop_go [5, 6, 7] rfl (fun m vs H => ∃ i, m + i = l.length ∧ vs = [roL dcC l, I l.length, I i]) ?_ l.length ⟨0, rfl, rfl⟩
  rintro J hJ m vs H b ⟨i, hm, rfl⟩
  by_cases hi : i < l.length
  · have hw := wrap_succ (i := i) (by omega)
    have hld := load_roL dcC_len hi (H := H)
    rw [dcC_eq] at hld
    obtain ⟨y, hy⟩ := heavy28a l[i].ring
    by_cases h60 : (60 : Int) ≤ i
    · simp [lp7_0, hi, idxSl_roL hi, hld, h60, -load_tp]
    · by_cases h200 : (200 : Int) < l[i].key.length
      · simp [lp7_0, hi, idxSl_roL hi, hld, h60, h200, -load_tp]
      · by_cases h300 : (300 : Int) < l[i].data.length
        · simp [lp7_0, hi, idxSl_roL hi, hld, h60, h200, h300, -load_tp]
        · by_cases h0 : 0 < y
          · simp [lp7_0, hi, idxSl_roL hi, hld, h60, h200, h300, frz_sl, wPu_eq hy, h0, -load_tp]
          · simp [lp7_0, hi, idxSl_roL hi, hld, h60, h200, h300, frz_sl, wPu_eq hy, h0, hw, -load_tp]
            exact nxt hJ (m - 1) (by omega) ⟨i + 1, by omega, rfl⟩
  · simp [lp7_0, hi]
theorem of_dcall {xs : List AV} (h : Fits shDCall xs) : ∃ c, xs = dcC c ∧ c.ring.plan.targets.length * 8 ≤ reachBytes := by
  obtain ⟨a0, r1, rfl, k1⟩ := of_cat_int h
  obtain ⟨a1, r2, rfl, k2⟩ := of_cat_int k1
  obtain ⟨r, rest, rfl, _, h1, h2⟩ := fits_cons k2
  obtain ⟨s, rfl, _⟩ := fits_str h1
  obtain ⟨r, rest, rfl, _, h3, h4⟩ := fits_cons h2
  obtain ⟨s2, rfl, _⟩ := fits_str h3
  obtain ⟨r, rest, rfl, _, h5, h6⟩ := fits_cons h4
  obtain ⟨k, rfl⟩ := of_vec h5
  obtain ⟨r, rest, rfl, _, h7, h8⟩ := fits_cons h6
  obtain ⟨rg, rfl, _, h9⟩ := of_ring h7
  have := fits_nil h8; subst this
  exact ⟨⟨a0, a1, s, s2, k, rg⟩, by simp [dcC, dcV], h9⟩
end Go.Proofs.YtflgfiieaoeknaaGreatA

/- Two messages held against each other. No statement about the program is proved here. -/
import Derived.Test.YtflgfiieaoeknaaGreatT7
import Derived.Test.YtflgfiieaoeknaaGreatU1
namespace Go.Proofs.YtflgfiieaoeknaaGreatA
open Go Go.RowKit
set_option linter.unusedVariables false
set_option linter.unusedSimpArgs false
set_option maxRecDepth 1000000
attribute [local simp] msg_zero

/-- A message of a giver or taker, as it is handed on. -/
abbrev gotF (kd fr to sq pa ep : Int) (key : List UInt8) (k : Nat → Int) (l : List Val) : List AV := mV kd fr to sq 0 0 pa ep key k (roL valC l) zeroV 0 0 (.ro 0 []) zeroV zeroV (.ro 0 [])
theorem c29s (kd fr to sq pa ep : Int) (key : List UInt8) (k : Nat → Int) (l : List Val) (hl : l.length < 4611686018427387904) : Pu envE 29 [.ro 1 (gotF kd fr to sq pa ep key k l), .ro 1 (gotF kd fr to sq pa ep key k l)] (I 0) := by
  refine pu_is e29 rfl ?_
  have hsame : bagSame k l k l = true := bagSame_refl (b := ⟨k, l⟩)
  have hk := fun H K => k15 (k := k) (k' := k) (l := l) (l' := l) hl (H := H) (K := K)
  rw [hsame] at hk
  rw [fr_init (by simp [fd29])]
  simp [fd29, b29]
  refine loop_go [1, 13, 14, 15] rfl (fun m vs H => ∃ i, m + i = 1 ∧ vs = [.ro 1 (gotF kd fr to sq pa ep key k l), .ro 1 (gotF kd fr to sq pa ep key k l), I 1, I i]) ?_ 1 ⟨0, rfl, rfl⟩
  rintro J hJ m vs H f ⟨i, hm, rfl⟩
  by_cases hi : i < 1
  · have hi0 : i = 0 := by omega
    subst hi0
    have h1 : idxSlAV 62 (I ((0 : Nat) : Int)) (.ro 1 (gotF kd fr to sq pa ep key k l)) = some (.tp (gotF kd fr to sq pa ep key k l)) := rfl
    have h2 : ∀ H, loadAt H (some 62) (.tp (gotF kd fr to sq pa ep key k l)) = some (.agg (gotF kd fr to sq pa ep key k l)) := fun H => rfl
    simp at h1
    have hw : IntKind.i64.wrap ((0 : Int) + 1) = 1 := by decide
    simp [lp29_0, h1, h2, -load_tp, hk]
    exact nxt hJ (m - 1) (by omega) ⟨1, by omega, rfl⟩
  · have : i = 1 := by omega
    subst this
    simp [lp29_0]
theorem k29s {kd fr to sq pa ep : Int} {key : List UInt8} {k : Nat → Int} {l : List Val} (hl : l.length < 4611686018427387904) {H : Heap} {K : AV → Heap → Prop} : wPu envE 29 (some [.ro 1 (gotF kd fr to sq pa ep key k l), .ro 1 (gotF kd fr to sq pa ep key k l)]) H K = K (I 0) H := (wPu_eq (c29s kd fr to sq pa ep key k l hl)).trans (by simp)
theorem ringD_eq {r : Ring} : deedMay (ringD r) = ringMay r := by
  cases h : ringMay r
  · have e : namedD (ringD r) = ringD r := by simp [namedD, ringD]
    simp only [deedMay, e, deedSame_refl, Bool.true_and]
    simp [ringD, h]
  · exact ringD_may h
theorem frz_one2 {H : Heap} {d b es : Nat} {cs cs' : List AV} (h1 : H.cells? b = some cs) (h2 : cs.length = es) (h3 : mapO (frz H d) cs = some cs') : frz H (d + 1) (.sl b 0 1 es) = some (.ro 1 cs') := by
  have e : cut cs 0 (1 * es) = some cs := by
    unfold cut
    rw [if_pos (by omega), List.drop_zero, List.take_of_length_le (by omega)]
  unfold frz
  simp only [Nat.one_ne_zero, if_false, h1, Option.bind_some, e, h3, Option.map_some]
end Go.Proofs.YtflgfiieaoeknaaGreatA

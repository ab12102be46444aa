/- Open of an empty ledger. No statement about the program is proved here. -/
import Derived.Test.YtflgfiieaoeknaaV4
namespace Go.Proofs.YtflgfiieaoeknaaA
open Go
set_option linter.unusedSimpArgs false
set_option linter.unusedVariables false
set_option maxRecDepth 1000000
attribute [local simp] deed_zero ring_zero

def emptyS (room : Int) : VSt := ⟨[], 0, room, 0, zRingS, 0, 0, []⟩
theorem empty_ok {room : Int} (h0 : 0 ≤ room) (h1 : room ≤ 3000) : VOk (emptyS room) := ⟨h0, h1, by simp [emptyS]; omega, by simp [emptyS], Nat.zero_le _, by simp [emptyS, lookB], Nat.zero_le _, by simp [emptyS], by simp [emptyS], by simp [emptyS]⟩
def vltE (lb mi : Nat) : List AV := vltC lb mi (emptyS 0) .nilsl
theorem vlt_zero {lb mi : Nat} : [AV.ptr (some (lb, 0)), I 0, I 0, I 0, I 0, I 0, I 0, I 0, I 0, I 0, I 0, I 0, AV.nilsl, I 0, I 0, I 0, I 0, I 0, I 0, I 0, I 0, I 0, I 0, I 0, I 0, I 0, I 0, I 0, I 0, I 0, I 0, I 0, I 0, I 0, I 0, I 0, I 0, I 0, I 0, I 0, I 0, I 0, I 0, I 0, I 0, I 0, I 0, AV.mapv (some mi)] = vltE lb mi := hard rfl
theorem vltE_eq {lb mi : Nat} {room : Int} : vltC lb mi (emptyS room) .nilsl = vltE lb mi := rfl
theorem c14e {H : Heap} {lb : Nat} {room : Int} (h : H[lb]? = some (.cells false [.nilsl, I 0, I room])) :
    WCl envE 14 [.ptr (some (lb, 0))] 0 H fun r H' => r = .ptr (some (H.length + 1, 0)) ∧ ∃ X, H' = H ++ X ∧ Vlt H' (H.length + 1) lb H.length (emptyS room) .nilsl .nilsl [] 0 := by
  refine cl_of e14 rfl ?_
  obtain ⟨B, hB⟩ : ∃ B, B = vltE lb H.length := ⟨_, rfl⟩
  have hbo : (∀ x : AV, x ∈ B → x.one = true) = True := eq_true (List.all_eq_true.1 (by rw [hB]; exact vlt_one))
  have hL : Led 0 (H ++ [.map [] 0, .cells false B]) lb .nilsl [] 0 room := ⟨get_app h, .nil, by simp⟩
  have hall := c50 hL (by simp) 0 (Nat.zero_le _)
  rw [fr_init (by simp [fd14])]
  simp [fd14, b14, vlt_zero, ← hB, hbo]
  refine WCl.mono hall ?_
  rintro x _ ⟨X, rfl, hD⟩
  have hl := hD.len
  simp [hl]
  refine loop_go [3, 4, 16, 17, 18] rfl (fun m vs H' => H' = H ++ .map [] 0 :: .cells false B :: X ∧ vs = [.ptr (some (H.length + 1, 0)), .fn (.func 49) [.ptr (some (H.length + 1, 0))] [], x, I 0, I 0]) ?_ 0 ⟨rfl, rfl⟩
  rintro J hJ m vs H' f ⟨rfl, rfl⟩
  simp [lp14_0]
  refine ⟨?_, ?_, .nil, ?_, EntK.nil, fun _ => rfl⟩
  · simp [hB, vltE_eq]
  · exact ⟨by rw [List.getElem?_append_left (lt_of h)]; exact h, .nil, by simp [emptyS]⟩
  · simp
/-- What New and Open make. -/
theorem open_new (room : Int) (H : Heap) (h0 : 0 ≤ room) (h1 : room ≤ 3000) {K : AV → Heap → Prop} (hK : ∀ X, Vlt (H ++ X) (H.length + 2) H.length (H.length + 1) (emptyS room) .nilsl .nilsl [] 0 → K (.ptr (some (H.length + 2, 0))) (H ++ X)) :
    WCl envE 14 [.ptr (some (H.length, 0))] 0 (H ++ [.cells false [.nilsl, I 0, I room]]) K := by
  refine WCl.mono (c14e (H := H ++ [.cells false [.nilsl, I 0, I room]]) (lb := H.length) (room := room) (by simp)) ?_
  rintro _ _ ⟨rfl, X, rfl, hv⟩
  have e : (H ++ [ABlk.cells false [.nilsl, I 0, I room]]).length = H.length + 1 := by simp
  rw [e, List.append_assoc] at hv
  rw [e, List.append_assoc]
  exact hK _ hv
theorem new_room {room : Int} (h0 : 0 ≤ room) (h1 : room ≤ 3000) {H : Heap} {lim : Nat} {K : AV → Heap → Prop} : WCl envE 13 [I room] lim H K = K (.ptr (some (H.length, 0))) (H ++ [.cells false [.nilsl, I 0, I room]]) := by
  have := WCl_eq (K := K) (c13 room lim H)
  have e : max 0 (min room 3000) = room := by omega
  rw [e] at this
  exact this

/-! ## Owners -/
def partOk (p : Int) : Bool := decide (0 ≤ p) && decide (p < 16)
def ownerF (r : Ring) (p : Int) : Int := if partOk p = true ∧ r.epoch p.toNat ≠ 0 ∧ entMay (r.epoch p.toNat) (r.owner p.toNat) = true then r.owner p.toNat else -1
theorem c108 (p : Int) : Pu envE 108 [I p] (.bool (partOk p)) := by
  refine pu_is e108 rfl ?_
  by_cases h1 : 0 ≤ p
  · by_cases h2 : p < 16
    · rw [fr_init (by simp [fd108])]
      simp [fd108, b108, h1, h2, partOk]
    · rw [fr_init (by simp [fd108])]
      simp [fd108, b108, h1, h2, partOk]
  · rw [fr_init (by simp [fd108])]
    simp [fd108, b108, h1, partOk]
@[simp] theorem k108 {p : Int} {H : Heap} {K : AV → Heap → Prop} : wPu envE 108 (some [I p]) H K = K (.bool (partOk p)) H := (wPu_eq (c108 p)).trans (by simp)
theorem ringV_ep {st ep ow : Nat → Int} {ver by' : Int} {r : AV} {i : Nat} (h : i < 16) : cut (ringV st ver by' r ep ow) (11 + i * 2) 1 = some [I (ep i)] := by
  have := ringV_part (st := st) (ver := ver) (by' := by') (r := r) (ep := ep) (ow := ow) h
  rw [cut_at (by rw [ringV_len]; omega)] at this ⊢
  have e := Option.some.inj this
  rw [show (1 : Nat) = min 1 2 from rfl, ← List.take_take, e]
  rfl
theorem ringV_ow {st ep ow : Nat → Int} {ver by' : Int} {r : AV} {i : Nat} (h : i < 16) : cut (ringV st ver by' r ep ow) (11 + i * 2 + 1) 1 = some [I (ow i)] := by
  have := ringV_part (st := st) (ver := ver) (by' := by') (r := r) (ep := ep) (ow := ow) h
  rw [cut_at (by rw [ringV_len]; omega)] at this ⊢
  have e := Option.some.inj this
  rw [← List.drop_drop]
  have e2 : (((ringV st ver by' r ep ow).drop (11 + i * 2)).take 2).drop 1 = [I (ow i)] := by rw [e]; rfl
  rw [List.drop_take] at e2
  rw [e2]
end Go.Proofs.YtflgfiieaoeknaaA

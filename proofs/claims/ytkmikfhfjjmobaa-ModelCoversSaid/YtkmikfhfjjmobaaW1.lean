/- The model: a map with one name. No statement about the program is proved here. -/
import Derived.Test.YtkmikfhfjjmobaaW0
namespace Go.Proofs.YtkmikfhfjjmobaaA
open Go
set_option linter.unusedSimpArgs false
set_option linter.unusedVariables false
set_option maxRecDepth 1000000

def ents (key : List UInt8) (v : AV) : List Wr → List (AV × AV × Nat)
  | [] => []
  | _ :: _ => [(.str key, v, 0)]
def clk : List Wr → Nat
  | [] => 0
  | _ :: _ => 1
/-- The model lies at p, its map at mi; what it was told under key lies in the row v. -/
structure Mod (lim : Nat) (H : Heap) (p mi : Nat) (key : List UInt8) (v : AV) (ws : List Wr) : Prop where
  box : H[p]? = some (.cells false [.mapv (some mi)])
  map : H[mi]? = some (.map (ents key v ws) (clk ws))
  row : Row lim H 11 wrC ws v
section
variable {lim p mi : Nat} {H : Heap} {key : List UInt8} {v : AV} {ws : List Wr}
theorem Mod.app (h : Mod lim H p mi key v ws) (X : Heap) : Mod lim (H ++ X) p mi key v ws := ⟨get_app h.box, get_app h.map, h.row.app⟩
theorem Mod.cells (h : Mod lim H p mi key v ws) : H.cells? p = some [.mapv (some mi)] := cells_of h.box
theorem Mod.cellsZ (h : Mod lim H p mi key v ws) (Z : Heap) : Heap.cells? (H ++ Z) p = some [.mapv (some mi)] := cells_of (get_app h.box)
theorem Mod.mapZ (h : Mod lim H p mi key v ws) (Z : Heap) : (H ++ Z)[mi]? = some (.map (ents key v ws) (clk ws)) := get_app h.map
theorem Mod.offp (h : Mod lim H p mi key v ws) : Off v p := by
  rintro o n s rfl
  rcases h.row with ⟨_, q⟩ | ⟨_, b, _, q, q2⟩
  · cases q
  · cases q
    rw [h.box] at q2
    cases q2
theorem Mod.offm (h : Mod lim H p mi key v ws) : Off v mi := by
  rintro o n s rfl
  rcases h.row with ⟨_, q⟩ | ⟨_, b, _, q, q2⟩
  · cases q
  · cases q
    rw [h.map] at q2
    cases q2
theorem Mod.ne (h : Mod lim H p mi key v ws) : p ≠ mi := by
  rintro rfl
  have := h.box
  rw [h.map] at this
  cases this
end
theorem c49 (lim : Nat) (H : Heap) : Cl envE 49 [] lim H (.ptr (some (H.length + 1, 0))) (H ++ [.map [] 0, .cells false [.mapv (some H.length)]]) := by
  refine cl_is e49 rfl ?_
  rw [fr_init (by simp [fd49])]
  simp [fd49, b49]
@[simp] theorem k49 {lim : Nat} {H : Heap} {K : AV → Heap → Prop} : WCl envE 49 [] lim H K = K (.ptr (some (H.length + 1, 0))) (H ++ [.map [] 0, .cells false [.mapv (some H.length)]]) := WCl_eq (c49 lim H)
theorem new_mod (lim : Nat) (H : Heap) (key : List UInt8) : Mod lim (H ++ [.map [] 0, .cells false [.mapv (some H.length)]]) (H.length + 1) H.length key .nilsl [] := ⟨by simp, by simp [ents, clk], .nil⟩
theorem c85 (s : List UInt8) : Pu envE 85 [.str s] (.bool (decide (1 ≤ s.length) && decide (s.length ≤ 32))) := by
  refine pu_is e85 rfl ?_
  rw [fr_init (by simp [fd85])]
  by_cases h1 : (1 : Int) ≤ s.length
  · have h1' : 1 ≤ s.length := by omega
    by_cases h2 : (s.length : Int) ≤ 32
    · have h2' : s.length ≤ 32 := by omega
      simp [fd85, b85, h1, h2, h1', h2']
    · have h2' : ¬ s.length ≤ 32 := by omega
      simp [fd85, b85, h1, h2, h1', h2']
  · have h1' : ¬ 1 ≤ s.length := by omega
    simp [fd85, b85, h1, h1']
@[simp] theorem k85 {s : List UInt8} {H : Heap} {K : AV → Heap → Prop} : wPu envE 85 (some [.str s]) H K = K (.bool (decide (1 ≤ s.length) && decide (s.length ≤ 32))) H := (wPu_eq (c85 s)).trans (by simp)
/-- One of the writes has that dot. -/
def atW (ws : List Wr) (a c : Int) : Bool := isAt (ws.map Wr.v) a c
theorem c86 {lim l2 p mi : Nat} {H : Heap} {key : List UInt8} {v : AV} {ws : List Wr} (h : Mod l2 H p mi key v ws) (a c : Int) (hs : Asc (ws.map Wr.v)) (hl : ws.length < 4611686018427387904) (hlim : lim ≤ H.length) : WCl envE 86 [.ptr (some (p, 0)), .agg [I a, I c]] lim H fun r H' => r = .bool (atW ws a c) ∧ ∃ X, H' = H ++ X := by
  refine cl_of e86 rfl ?_
  rw [fr_init (by simp [fd86])]
  have fz : ∀ Z, frz (H ++ Z) 12 v = some (roL wrC ws) := fun Z => (h.row.app (X := Z)).frz (d := 10) wrC_len wr_flat
  have hl1 : lim ≤ H.length + 1 := by omega
  obtain ⟨q, hq⟩ : ∃ q, q = pos (ws.map Wr.v) a c := ⟨_, rfl⟩
  have hk : ∀ H K, wPu envE 87 (some [roL wrC ws, .agg [I a, I c]]) H K = K (.tup [I q, .bool (atW ws a c)]) H := fun H K => by rw [hq]; exact k87 hs hl
  have hc := h.cells
  have hcz := h.cellsZ
  have hmz := h.mapZ
  cases ws with
  | nil =>
    simp only [ents, clk] at hmz
    simp [fd86, b86, hcz, rangeM, hmz]
    refine loop_go [3, 13] rfl (fun m vs H' => H' = H ++ [.cells false [I a, I c], .iter (some mi) 0 [] 0] ∧ vs = [.ptr (some (H.length, 0)), .ptr (some (H.length + 1, 0))]) ?_ 0 ⟨rfl, rfl⟩
    rintro J hJ m vs H' f ⟨rfl, rfl⟩
    simp [lp86_0, nextM, hmz, atW, isAt]
  | cons w ws =>
    simp only [ents, clk] at hmz
    simp [fd86, b86, hcz, rangeM, hmz]
    refine loop_go [3, 13] rfl (fun m vs H' => (m = 1 ∧ H' = H ++ [.cells false [I a, I c], .iter (some mi) 1 [] 1] ∨ m = 0 ∧ atW (w :: ws) a c = false ∧ ∃ X, H' = H ++ .cells false [I a, I c] :: .iter (some mi) 1 [0] 1 :: X) ∧ vs = [.ptr (some (H.length, 0)), .ptr (some (H.length + 1, 0))]) ?_ 1 ⟨.inl ⟨rfl, rfl⟩, rfl⟩
    rintro J hJ m vs H' f ⟨(⟨rfl, rfl⟩ | ⟨rfl, hat, X, rfl⟩), rfl⟩
    · cases hat : atW (w :: ws) a c
      · simp [lp86_0, nextM, entryM, hmz, hl1, fz, hk, hat]
        refine nxt hJ 0 (by omega) ⟨.inr ⟨rfl, hat, _, rfl⟩, rfl⟩
      · simp [lp86_0, nextM, entryM, hmz, hl1, fz, hk, hat]
    · simp [lp86_0, nextM, hmz, hat]
end Go.Proofs.YtkmikfhfjjmobaaA

/- What the model is told. No statement about the program is proved here. -/
import Derived.Test.YtkmikfhfjjmobaaW1
namespace Go.Proofs.YtkmikfhfjjmobaaA
open Go
set_option linter.unusedSimpArgs false
set_option linter.unusedVariables false
set_option maxRecDepth 1000000

def posW (ws : List Wr) (a c : Int) : Nat := pos (ws.map Wr.v) a c
def toldOk (key : List UInt8) (known : Nat → Int) (a c : Int) (data : List UInt8) : Bool := (decide (1 ≤ key.length) && decide (key.length ≤ 32)) && (vecMay known && (dotOk a c && decide (data.length ≤ 64)))
def toldL (ws : List Wr) (known : Nat → Int) (a c : Int) (data : List UInt8) : List Wr := ws.take (posW ws a c) ++ ⟨⟨a, c, data⟩, known⟩ :: ws.drop (posW ws a c)
theorem ents_told {ws : List Wr} {known : Nat → Int} {a c : Int} {data : List UInt8} {key : List UInt8} {v : AV} : ents key v (toldL ws known a c data) = [(.str key, v, 0)] := by
  unfold toldL
  cases ws.take (posW ws a c) <;> rfl
theorem clk_told {ws : List Wr} {known : Nat → Int} {a c : Int} {data : List UInt8} : clk (toldL ws known a c data) = 1 := by
  unfold toldL
  cases ws.take (posW ws a c) <;> rfl
theorem Row.hide {α : Type} {lim es : Nat} {H : Heap} {f : α → List AV} {l : List α} {v : AV} {B : List Nat} (h : Row lim H es f l v) (hb : ∀ b, b ∈ B → Off v b) : Row lim (hide B H) es f l v := by
  rcases h with ⟨rfl, rfl⟩ | ⟨ne, b, h1, rfl, h3⟩
  · exact .nil
  · refine .inr ⟨ne, b, h1, rfl, ?_⟩
    rw [hide_get, if_neg fun hm => hb b hm _ _ _ rfl]
    exact h3
theorem hide_unhide {B : List Nat} {H H1 : Heap} (hb : ∀ b, b ∈ B → b < H.length) (hl : H.length ≤ H1.length) : Go.Proofs.YtkmikfhfjjmobaaA.hide B (unhide B H H1) = Go.Proofs.YtkmikfhfjjmobaaA.hide B H1 := by
  apply List.ext_getElem?
  intro i
  rw [hide_get, unhide_get hb hl, hide_get]
  by_cases h : i ∈ B
  · have h1 := hb i h
    have h2 : i < H1.length := by omega
    simp [h, h1, h2]
  · simp [h]
theorem off_false {α : Type} {lim es b : Nat} {H : Heap} {f : α → List AV} {l : List α} {v : AV} {cs : List AV} (h : Row lim H es f l v) (hb : H[b]? = some (.cells false cs)) : Off v b := by
  rintro o n s rfl
  rcases h with ⟨_, q⟩ | ⟨_, b', _, q, q2⟩
  · cases q
  · cases q
    rw [hb] at q2
    cases q2
theorem e88 : envE.fn 88 = some (.prim (insertG 11 96)) := rfl
theorem posW_le {ws : List Wr} {a c : Int} : posW ws a c ≤ ws.length := by
  have := pos_le (l := ws.map Wr.v) (a := a) (c := c)
  simpa [posW] using this
@[simp] theorem eqNil_snW {α : Type} {x : α} : eqNil (some x) (none : Option α) = some false := hard rfl
/-- What a map's entries are behind a set. -/
def setE (es : List (AV × AV × Nat)) (ck : Nat) (k : AV) (v' : AV) : Option (Option (Nat × AV)) → List (AV × AV × Nat)
  | some (some (i, _)) => es.modify i fun e => (k, v', e.2.2)
  | _ => es ++ [(k, v', ck)]
def setC (ck : Nat) : Option (Option (Nat × AV)) → Nat
  | some (some _) => ck
  | _ => ck + 1
theorem unhide_set {B : List Nat} {H H1 : Heap} {i : Nat} {x : ABlk} (hb : ∀ b, b ∈ B → b < H.length) (hl : H.length ≤ H1.length) (hi : ¬ i ∈ B) : unhide B (unhide B H H1) ((Go.Proofs.YtkmikfhfjjmobaaA.hide B H1).set i x) = (unhide B H H1).set i x := by
  have e1 : (unhide B H H1).length = H1.length := unhide_len
  apply List.ext_getElem?
  intro j
  rw [unhide_get (fun b hm => by have := hb b hm; rw [e1]; omega) (by rw [e1, List.length_set, hide_len]; exact Nat.le_refl _), List.getElem?_set, List.getElem?_set, hide_get, hide_len, e1]
  by_cases h : j ∈ B
  · have : ¬ i = j := fun e => hi (e ▸ h)
    simp [h, this]
  · by_cases e : i = j
    · subst e; simp [h]
    · have h2 := unhide_get (B := B) (H := H) (H' := H1) (i := j) hb hl
      simp [h, e, h2]
@[simp] theorem nextH_some {B : List Nat} {v : AV} {H1 H : Heap} {T : Tmps} {dst : Option Nat} {next : Tmps → Heap → Prop} : nextH B (some (v, H1)) T H dst next = (H.length ≤ H1.length ∧ next (putT T dst v) (unhide B H H1)) := by rw [nextH]
@[simp] theorem among_ptr {B : List Nat} {b o : Nat} : amongP B (.ptr (some (b, o))) = (b ∈ B) := by simp [amongP]
def ToldTo (p mi : Nat) (H : Heap) (key : List UInt8) (es : List (AV × AV × Nat)) (ck : Nat) (v : AV) (ws' : List Wr) (H' : Heap) : Prop :=
  ∃ v', H'[p]? = some (.cells false [.mapv (some mi)]) ∧ H'[mi]? = some (.map (setE es ck (.str key) v' (findKey .s (.str key) es 0)) (setC ck (findKey .s (.str key) es 0))) ∧ Row 0 H' 11 wrC ws' v' ∧ H.length ≤ H'.length ∧ (∀ b z, H[b]? = some z → Off v b → b ≠ mi → H'[b]? = some z) ∧ ∀ b, b < H.length → Off v' b
set_option maxHeartbeats 2000000 in
theorem c50g {p mi : Nat} {H : Heap} {key : List UInt8} {es : List (AV × AV × Nat)} {ck : Nat} {v : AV} {ws : List Wr} (hbox : H[p]? = some (.cells false [.mapv (some mi)])) (hmap : H[mi]? = some (.map es ck)) (hrow : Row 0 H 11 wrC ws v)
    (hv : findKey .s (.str key) es 0 = some none ∧ v = .nilsl ∨ ∃ i, findKey .s (.str key) es 0 = some (some (i, v))) (known : Nat → Int) (a c : Int) (data : List UInt8) (hs : Asc (ws.map Wr.v)) (hl : ws.length < 100000000)
    (there : Bool) (h86 : ∀ X : Heap, WCl envE 86 [.ptr (some (p, 0)), .agg [I a, I c]] 0 (H ++ X) fun r H' => r = .bool there ∧ ∃ Y, H' = H ++ X ++ Y) :
    WCl envE 50 [.ptr (some (p, 0)), .str key, .agg (vecC known), .agg [I a, I c], .str data] 0 H fun r H' =>
      ((toldOk key known a c data && !there) = false ∧ r = .bool false ∧ ∃ X, H' = H ++ X) ∨
      ((toldOk key known a c data && !there) = true ∧ r = .bool true ∧ ToldTo p mi H key es ck v (toldL ws known a c data) H') := by
  refine cl_of e50 rfl ?_
  rw [fr_init (by simp [fd50])]
  have kq : ∀ H K, wPu envE 85 (some [.str key]) H K = K (.bool (decide (1 ≤ key.length) && decide (key.length ≤ 32))) H := fun H K => k85
  by_cases m12 : (decide (1 ≤ key.length) && decide (key.length ≤ 32)) = true
  case neg =>
    have e : toldOk key known a c data = false := by simp only [toldOk, m12, Bool.false_and]
    rw [Bool.not_eq_true] at m12
    simp only [m12] at kq
    by_cases m3 : 0 ≤ a <;> by_cases m4 : a < 8 <;> by_cases m5 : 1 ≤ c <;> simp [-k85, fd50, b50, kq, m3, m4, m5, e, eqNil_snW]
  simp only [m12] at kq
  have kk := kq
  cases m0 : vecMay known
  case false =>
    have e : toldOk key known a c data = false := by simp only [toldOk, m0, Bool.false_and, Bool.and_false]
    by_cases m3 : 0 ≤ a <;> by_cases m4 : a < 8 <;> by_cases m5 : 1 ≤ c <;> simp [-k85, fd50, b50, kk, m0, m3, m4, m5, e, eqNil_snW]
  have m1 : 1 ≤ key.length := by simp at m12; exact m12.1
  have m2 : key.length ≤ 32 := by simp at m12; exact m12.2
  by_cases m3 : 0 ≤ a
  case neg => simp [-k85, fd50, b50, kk, m0, m3, toldOk, dotOk, nodeOk, eqNil_snW]
  by_cases m4 : a < 8
  case neg => simp [-k85, fd50, b50, kk, m0, m3, m4, toldOk, dotOk, nodeOk, eqNil_snW]
  by_cases m5 : 1 ≤ c
  case neg => simp [-k85, fd50, b50, kk, m0, m3, m4, m5, toldOk, dotOk, nodeOk, eqNil_snW]
  by_cases m6 : c ≤ 1000000
  case neg => simp [-k85, fd50, b50, kk, m0, m3, m4, m5, m6, toldOk, dotOk, nodeOk, eqNil_snW]
  by_cases m7 : (64 : Int) < data.length
  · have m7' : (data.length ≤ 64) = False := eq_false (by omega)
    simp [-k85, fd50, b50, kk, m3, m4, m5, m6, m0, m7, m7', toldOk, dotOk, nodeOk, eqNil_snW]
  have m7' : ¬ 64 < data.length := by omega
  simp [-k85, fd50, b50, kk, m3, m4, m5, m6, m0, m7, eqNil_snW]
  refine WCl.mono (h86 [.cells false (vecC known), .cells false [I a, I c]]) ?_
  rintro _ _ ⟨rfl, X, rfl⟩
  cases there
  case true => simp
  have hmay : toldOk key known a c data = true := by simp [toldOk, dotOk, nodeOk, m0, m1, m2, m3, m4, m5, m6]; omega
  simp [hmay]
  obtain ⟨q, hq⟩ : ∃ q, q = posW ws a c := ⟨_, rfl⟩
  have hk : ∀ H K, wPu envE 87 (some [roL wrC ws, .agg [I a, I c]]) H K = K (.tup [I q, .bool (atW ws a c)]) H := fun H K => by rw [hq]; exact k87 hs (by omega)
  obtain ⟨H1, hH1⟩ : ∃ H1, H1 = H ++ .cells false (vecC known) :: .cells false [I a, I c] :: X := ⟨_, rfl⟩
  have gbox : H1[p]? = some (.cells false [.mapv (some mi)]) := by rw [hH1]; exact get_app hbox
  have gmap : H1[mi]? = some (.map es ck) := by rw [hH1]; exact get_app hmap
  have grow : Row 0 H1 11 wrC ws v := by rw [hH1]; exact hrow.app
  have cq : Heap.cells? H1 (H.length + 1) = some [I a, I c] := by rw [hH1]; simp
  have ckn : Heap.cells? H1 H.length = some (vecC known) := by rw [hH1]; simp
  have cp := cells_of gbox
  have fz := grow.frz (d := 10) wrC_len wr_flat
  have offp : Off v p := off_false grow gbox
  have offm : Off v mi := by
    rintro o n s rfl
    rcases grow with ⟨_, q⟩ | ⟨_, b, _, q, q2⟩
    · cases q
    · cases q
      rw [gmap] at q2
      cases q2
  obtain ⟨y, hy⟩ : ∃ y : Wr, y = ⟨⟨a, c, data⟩, known⟩ := ⟨_, rfl⟩
  have hbuild : setFrom [I a, I c, AV.str data, I 0, I 0, I 0, I 0, I 0, I 0, I 0, I 0] 3 (vecC known) = wrC y := by rw [hy]; rfl
  have hp1 : p < H1.length := lt_of gbox
  have hp2 : H.length < H1.length := by rw [hH1]; simp
  have hp3 : H.length + 1 < H1.length := by rw [hH1]; simp
  obtain ⟨B, hB⟩ : ∃ B, B = [p, H.length, H.length + 1] := ⟨_, rfl⟩
  have bl : ∀ b, b ∈ B → b < H1.length := fun b hb => by
    rw [hB] at hb
    simp only [List.mem_cons, List.not_mem_nil, or_false] at hb
    omega
  have bl2 : ∀ b, b ∈ B → b < (H1 ++ [ABlk.cells true (wrC y)]).length := fun b hb => by have := bl b hb; simp; omega
  have ob : ∀ b, b ∈ B → Off v b := fun b hb => by
    rw [hB] at hb
    simp only [List.mem_cons, List.not_mem_nil, or_false] at hb
    rcases hb with rfl | rfl | rfl
    · exact offp
    · exact off_false grow (cs := vecC known) (by rw [hH1]; simp)
    · exact off_false grow (cs := [I a, I c]) (by rw [hH1]; simp)
  have mb : ¬ mi ∈ B := fun hb => by
    rw [hB] at hb
    simp only [List.mem_cons, List.not_mem_nil, or_false] at hb
    have e1 := gmap
    rcases hb with rfl | rfl | rfl
    · rw [gbox] at e1; simp at e1
    · rw [hH1] at e1; simp at e1
    · rw [hH1] at e1; simp at e1
  have b1 : p ∈ B := by rw [hB]; simp
  have b2 : H.length ∈ B := by rw [hB]; simp
  have b3 : H.length + 1 ∈ B := by rw [hB]; simp
  have lb : ¬ H1.length ∈ B := fun hb => Nat.lt_irrefl _ (bl _ hb)
  have hel2 : elems (Go.Proofs.YtkmikfhfjjmobaaA.hide B (H1 ++ [.cells true (wrC y)])) 11 (.sl H1.length 0 1 11) = some (1, wrC y) := by
    simp [elems, Heap.cells?, hide_get, lb]
  obtain ⟨v', Hh, e, hr', hlen2, hkeep, hoff⟩ := ((grow.app (X := [.cells true (wrC y)])).hide ob).insert2 (bytes := 96) wrC_len (by omega) wrC_one y q (by rw [hq]; exact posW_le) hel2 (grow.off_ge (Nat.le_refl _)) (by simp only [most]; omega) (by simp only [most]; omega) (by simp)
  have hcall : ∀ K, WCl envE 88 [v, I q, .sl H1.length 0 1 11] 0 (Go.Proofs.YtkmikfhfjjmobaaA.hide B (H1 ++ [.cells true (wrC y)])) K = K v' Hh := fun K => WCl_eq (cl_prim e88 e)
  rw [hide_len] at hlen2 hoff
  have g1 : Hh[mi]? = some (.map es ck) := hkeep mi _ (by rw [hide_get, if_neg mb]; exact get_app gmap) offm
  obtain ⟨H', hH'⟩ : ∃ H', H' = unhide B (H1 ++ [.cells true (wrC y)]) Hh := ⟨_, rfl⟩
  have g2 : (Go.Proofs.YtkmikfhfjjmobaaA.hide B H')[mi]? = some (.map es ck) := by rw [hH', hide_unhide bl2 hlen2, hide_get, if_neg mb]; exact g1
  have lH' : H'.length = Hh.length := by rw [hH']; exact unhide_len
  have hsets : ∀ x, unhide B H' ((Go.Proofs.YtkmikfhfjjmobaaA.hide B H').set mi x) = H'.set mi x := fun x => by
    rw [hH', hide_unhide bl2 hlen2]
    exact unhide_set bl2 hlen2 mb
  have hget : ∀ b, H'[b]? = if b ∈ B then (H1 ++ [ABlk.cells true (wrC y)])[b]? else Hh[b]? := fun b => by rw [hH']; exact unhide_get bl2 hlen2
  simp only [List.length_append, List.length_singleton] at hlen2 hoff
  have hl1 : H.length ≤ H1.length := by omega
  have hlen3 : H1.length + 1 ≤ Hh.length := hlen2
  have e2 : toldL ws known a c data = ws.take q ++ y :: ws.drop q := by rw [hq, hy]; rfl
  have hrow2 : Row 0 H' 11 wrC (toldL ws known a c data) v' := by
    rw [e2]
    rcases hr' with h0 | ⟨ne, b, h1, rfl, h3⟩
    · exact .inl h0
    · refine .inr ⟨ne, b, h1, rfl, ?_⟩
      rw [hget, if_neg]
      · exact h3
      · intro hb
        exact hoff b (by have := bl b hb; omega) _ _ _ rfl
  have hmi : mi < H1.length := lt_of gmap
  have hres : ∀ es' cl, H'.length = Hh.length → (H'.set mi (.map es' cl))[p]? = some (.cells false [.mapv (some mi)]) ∧ (H'.set mi (.map es' cl))[mi]? = some (.map es' cl) ∧ Row 0 (H'.set mi (.map es' cl)) 11 wrC (toldL ws known a c data) v' ∧ H.length ≤ (H'.set mi (.map es' cl)).length ∧ (∀ b z, H[b]? = some z → Off v b → b ≠ mi → (H'.set mi (.map es' cl))[b]? = some z) ∧ ∀ b, b < H.length → Off v' b := by
    intro es' cl _
    refine ⟨get_set ?_ (fun e => mb (e ▸ b1)), List.getElem?_set_self (by omega), hrow2.set (hoff mi (by omega)), by simp; omega, fun b z hz ho hb => ?_, fun b hb => hoff b (by omega)⟩
    · rw [hget, if_pos b1]
      exact get_app gbox
    · refine get_set ?_ (Ne.symm hb)
      have hz1 : (H1 ++ [ABlk.cells true (wrC y)])[b]? = some z := get_app (by rw [hH1]; exact get_app hz)
      rw [hget]
      split
      · exact hz1
      · rename_i hnb
        exact hkeep b z (by rw [hide_get, if_neg hnb]; exact hz1) ho
  have hle1 : H1.length ≤ Hh.length := by omega
  rw [← hH1]
  rcases hv with ⟨hfk, rfl⟩ | ⟨i, hfk⟩
  · simp [cp, gmap, hfk, isKey, cq, ckn, fz, hk, hbuild, hidB, b1, b2, b3, hp1, hp2, hp3, ← hB, hcall, hlen3, ← hH', g2, lH', hsets]
    refine ⟨by rw [hide_len]; omega, v', ?_⟩
    rw [hfk]
    exact hres _ _ lH'
  · simp [cp, gmap, hfk, isKey, cq, ckn, fz, hk, hbuild, hidB, b1, b2, b3, hp1, hp2, hp3, ← hB, hcall, hlen3, ← hH', g2, lH', hsets]
    refine ⟨by rw [hide_len]; omega, v', ?_⟩
    rw [hfk]
    exact hres _ _ lH'
def toldMay (key : List UInt8) (ws : List Wr) (known : Nat → Int) (a c : Int) (data : List UInt8) : Bool := toldOk key known a c data && !atW ws a c
/-- A model that knows one key alone. -/
theorem c50 {p mi : Nat} {H : Heap} {key : List UInt8} {v : AV} {ws : List Wr} (h : Mod 0 H p mi key v ws) (known : Nat → Int) (a c : Int) (data : List UInt8) (hs : Asc (ws.map Wr.v)) (hl : ws.length < 100000000) :
    WCl envE 50 [.ptr (some (p, 0)), .str key, .agg (vecC known), .agg [I a, I c], .str data] 0 H fun r H' => (toldMay key ws known a c data = false ∧ r = .bool false ∧ ∃ X, H' = H ++ X) ∨ (toldMay key ws known a c data = true ∧ r = .bool true ∧ ∃ v', Mod 0 H' p mi key v' (toldL ws known a c data) ∧ H.length ≤ H'.length ∧ (∀ b z, H[b]? = some z → Off v b → b ≠ mi → H'[b]? = some z) ∧ ∀ b, b < H.length → Off v' b) := by
  have key' : ∃ r, findKey .s (.str key) (ents key v ws) 0 = some r ∧ (r = none ∧ v = .nilsl ∨ ∃ i, r = some (i, v)) ∧ (∀ v', setE (ents key v ws) (clk ws) (.str key) v' (some r) = [(.str key, v', 0)]) ∧ setC (clk ws) (some r) = 1 := by
    cases ws with
    | nil =>
      refine ⟨none, by simp [ents, findKey], .inl ⟨rfl, ?_⟩, fun v' => by simp [setE, ents, clk], rfl⟩
      rcases h.row with ⟨_, q⟩ | ⟨q, _⟩
      · exact q
      · exact absurd rfl q
    | cons w ws => exact ⟨some (0, v), by simp [ents, findKey, eqCell], .inr ⟨0, rfl⟩, fun v' => by simp [setE, ents], rfl⟩
  obtain ⟨r, k1, k2, k3, k4⟩ := key'
  refine WCl.mono (c50g h.box h.map h.row (by
    rcases k2 with ⟨rfl, k2⟩ | ⟨i, rfl⟩
    · exact .inl ⟨k1, k2⟩
    · exact .inr ⟨i, k1⟩) known a c data hs hl (atW ws a c) fun X => c86 (h.app X) a c hs (by omega) (by simp)) ?_
  rintro r2 H' (q | ⟨q1, q2, v', q3, q4, q5, q6⟩)
  · exact .inl q
  · refine .inr ⟨q1, q2, v', ⟨q3, ?_, q5⟩, q6⟩
    rw [k1, k3, k4] at q4
    rw [ents_told, clk_told]
    exact q4
end Go.Proofs.YtkmikfhfjjmobaaA

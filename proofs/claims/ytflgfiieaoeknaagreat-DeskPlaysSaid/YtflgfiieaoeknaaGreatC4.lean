/- What Below and Put of bags answer. No statement about the program is proved here. -/
import Derived.Test.YtflgfiieaoeknaaGreatC3
namespace Go.Proofs.YtflgfiieaoeknaaGreatA
open Go
set_option linter.unusedSimpArgs false
set_option maxRecDepth 1000000
attribute [local simp] bagV_zero

def belowB (ka : Nat → Int) (la : List Val) (kb : Nat → Int) (lb : List Val) : Bool := decide (joinE ka la kb lb = 0) && bagSame (joinK ka la kb lb) (joinR ka la kb lb) kb lb
theorem joinR_len {ka kb : Nat → Int} {la lb : List Val} : (joinR ka la kb lb).length ≤ 32 := by
  unfold joinR
  split
  · rename_i h
    unfold joinE at h
    split at h
    · split at h
      · omega
      · omega
    · omega
  · simp
theorem c31 (ka kb : Nat → Int) (la lb : List Val) (hla : la.length < 4611686018427387904) (hlb : lb.length < 4611686018427387904) : Pu envE 31 [.agg (bagV ka (roL valC la)), .agg (bagV kb (roL valC lb))] (.bool (belowB ka la kb lb)) := by
  refine pu_is e31 rfl ?_
  rw [fr_init (by simp [fd31])]
  obtain ⟨v0, X0, e0, r0⟩ := thaw_owL (H := [.cells false (bagV ka (roL valC la)), .cells false (bagV kb (roL valC lb))]) (lim := 0) (es := 3) val_still (by simp) (joinR ka la kb lb)
  have fz : ∀ X, frz (.cells false (bagV ka (roL valC la)) :: .cells false (bagV kb (roL valC lb)) :: (X0 ++ X)) 11 v0 = some (roL valC (joinR ka la kb lb)) := fun X => (r0.app (X := X)).frz (d := 9) valC_len val_flat
  have hl := joinR_len (ka := ka) (kb := kb) (la := la) (lb := lb)
  have hl2 : (joinR ka la kb lb).length < 4611686018427387904 := by omega
  by_cases h : joinE ka la kb lb = 0
  · simp [fd31, b31, k69 hla hlb, e0, r0.cells, r0.one, h, belowB, fz, hl2]
  · simp [fd31, b31, k69 hla hlb, e0, r0.cells, r0.one, h, belowB]
@[simp] theorem k31 {ka kb : Nat → Int} {la lb : List Val} {H : Heap} {K : AV → Heap → Prop} (hla : la.length < 4611686018427387904) (hlb : lb.length < 4611686018427387904) : wPu envE 31 (some [.agg (bagV ka (roL valC la)), .agg (bagV kb (roL valC lb))]) H K = K (.bool (belowB ka la kb lb)) H := (wPu_eq (c31 ka kb la lb hla hlb)).trans (by simp)

def keptL (known : Nat → Int) (l : List Val) : List Val := l.filter fun v => !has known v.node v.n
def putL (l : List Val) (known : Nat → Int) (a c : Int) (data : List UInt8) : List Val := insV (keptL known l) ⟨a, c, data⟩
def dotOk (a c : Int) : Bool := nodeOk a && (decide (1 ≤ c) && decide (c ≤ 1000000))
def putMay (k : Nat → Int) (l : List Val) (known : Nat → Int) (a c : Int) (data : List UInt8) : Bool := bagMay k l && (vecMay known && (dotOk a c && (!has k a c && decide (data.length ≤ 64))))
/-- Why a value is not put; 0: it is. -/
def putE (k : Nat → Int) (l : List Val) (known : Nat → Int) (a c : Int) (data : List UInt8) : Int := if putMay k l known a c data then (if 32 < (putL l known a c data).length then 5 else 0) else 1
def putK (k : Nat → Int) (l : List Val) (known : Nat → Int) (a c : Int) (data : List UInt8) : Nat → Int := if putE k l known a c data = 0 then withV (joinV k known) a c else zeroV
def putR (k : Nat → Int) (l : List Val) (known : Nat → Int) (a c : Int) (data : List UInt8) : List Val := if putE k l known a c data = 0 then putL l known a c data else []

set_option maxHeartbeats 4000000 in
theorem c77 (k : Nat → Int) (l : List Val) (known : Nat → Int) (a c : Int) (data : List UInt8) (hl : l.length < 4611686018427387904) : Pu envE 77 [.agg (bagV k (roL valC l)), .agg (vecC known), .agg [I a, I c], .str data] (.tup [.agg (bagV (putK k l known a c data) (owL 3 valC (putR k l known a c data))), I (putE k l known a c data)]) := by
  refine pu_is e77 rfl ?_
  rw [fr_init (by simp [fd77])]
  by_cases hm : putMay k l known a c data = true
  case neg =>
    have hE : putE k l known a c data = 1 := by simp [putE, hm]
    have hK : putK k l known a c data = zeroV := by simp [putK, hE]
    have hR : putR k l known a c data = [] := by simp [putR, hE]
    rw [hE, hK, hR]
    have h64 : data.length ≤ 64 ↔ ¬ (64 : Int) < data.length := by omega
    by_cases m1 : bagMay k l = true
    case neg =>
      by_cases d0 : 0 ≤ a
      · by_cases d1 : a < 8
        · by_cases d2 : 1 ≤ c
          · by_cases d3 : c ≤ 1000000 <;> simp [fd77, b77, hl, d0, d1, d2, d3, m1, owL]
          · simp [fd77, b77, hl, d0, d1, d2, m1, owL]
        · simp [fd77, b77, hl, d0, d1, m1, owL]
      · simp [fd77, b77, hl, d0, m1, owL]
    by_cases m2 : vecMay known = true
    case neg =>
      by_cases d0 : 0 ≤ a
      · by_cases d1 : a < 8
        · by_cases d2 : 1 ≤ c
          · by_cases d3 : c ≤ 1000000 <;> simp [fd77, b77, hl, d0, d1, d2, d3, m1, m2, owL]
          · simp [fd77, b77, hl, d0, d1, d2, m1, m2, owL]
        · simp [fd77, b77, hl, d0, d1, m1, m2, owL]
      · simp [fd77, b77, hl, d0, m1, m2, owL]
    by_cases d0 : 0 ≤ a
    case neg => simp [fd77, b77, hl, d0, m1, m2, owL]
    by_cases d1 : a < 8
    case neg => simp [fd77, b77, hl, d0, d1, m1, m2, owL]
    by_cases d2 : 1 ≤ c
    case neg => simp [fd77, b77, hl, d0, d1, d2, m1, m2, owL]
    by_cases d3 : c ≤ 1000000
    case neg => simp [fd77, b77, hl, d0, d1, d2, d3, m1, m2, owL]
    by_cases m3 : has k a c = true
    case pos => simp [fd77, b77, hl, d0, d1, d2, d3, m1, m2, m3, owL]
    have m4 : (64 : Int) < data.length := by
      simp [putMay, dotOk, nodeOk, m1, m2, d0, d1, d2, d3, m3, h64] at hm
      omega
    simp [fd77, b77, hl, d0, d1, d2, d3, m1, m2, m3, m4, owL]
  have hm' := hm
  simp only [putMay, Bool.and_eq_true, dotOk, nodeOk, decide_eq_true_eq, Bool.not_eq_true'] at hm'
  obtain ⟨m1, m2, ⟨⟨d0, d1⟩, d2, d3⟩, m3, m4⟩ := hm'
  have m5 : ¬ (64 : Int) < data.length := by omega
  have hll : l.length ≤ 32 := may_len m1
  have hasc := may_asc m1
  simp [fd77, b77, hl, d0, d1, d2, d3, m1, m2, m3, m5]
  refine loop_go [3, 5, 6, 8, 11, 66, 67, 68] rfl (fun m vs H => ∃ i X v, m + i = l.length ∧ H = .cells false (bagV k (roL valC l)) :: .cells false (vecC known) :: .cells false [I a, I c] :: .cells false (bagV zeroV .nilsl) :: .cells false (bagV (withV (joinV k known) a c) v) :: X ∧ Row 5 H 3 valC (keptL known (l.take i)) v ∧ vs = [.str data, .ptr (some (1, 0)), .ptr (some (2, 0)), .ptr (some (3, 0)), .ptr (some (4, 0)), roL valC l, I l.length, I i]) ?_ l.length ⟨0, [], .nilsl, rfl, rfl, .nil, rfl⟩
  rintro J hJ m vs H b ⟨i, X, v, hm2, rfl, hr, rfl⟩
  by_cases hi : i < l.length
  · have hw := wrap_succ (i := i) (by omega)
    have hld := valC_load hi (H := .cells false (bagV k (roL valC l)) :: .cells false (vecC known) :: .cells false [I a, I c] :: .cells false (bagV zeroV .nilsl) :: .cells false (bagV (withV (joinV k known) a c) v) :: X)
    have hstep : keptL known (l.take (i + 1)) = keptL known (l.take i) ++ if (!has known l[i].node l[i].n) = true then [l[i]] else [] := filter_take_succ hi
    cases hh : has known l[i].node l[i].n
    · have hlen : (keptL known (l.take i)).length ≤ l.length := filter_len_le
      obtain ⟨v', X', e, hr'⟩ := Row.push (bytes := 32) (P := [_, _, _, _, _]) (Z := [.cells false (valC l[i])]) valC_len (by omega) valC_one hr l[i] (by simp only [most]; omega) (by simp only [most]; omega)
      simp at e
      simp [lp77_0, hi, hw, idxSl_roL hi, hld, hh, e, hr'.cells, hr'.one, -load_tp]
      refine nxt hJ (m - 1) (by omega) ⟨i + 1, X', v', by omega, rfl, ?_, rfl⟩
      rw [hstep, hh]
      exact hr'.set (b := 4) (z := .cells false (bagV (withV (joinV k known) a c) v')) (hr'.off (by simp))
    · simp [lp77_0, hi, hw, idxSl_roL hi, hld, hh, -load_tp]
      refine nxt hJ (m - 1) (by omega) ⟨i + 1, _, v, by omega, rfl, ?_, rfl⟩
      rw [hstep, hh]
      simpa using hr.app (X := [.cells false (valC l[i])])
  · have hT : keptL known (l.take i) = keptL known l := by rw [List.take_of_length_le (by omega)]
    rw [hT] at hr
    have hlen : (keptL known l).length ≤ l.length := List.length_filter_le _ _
    have ka : Asc (keptL known l) := List.Pairwise.filter _ hasc
    have kl : (keptL known l).length < 4611686018427387904 := by omega
    have fz := hr.frz (d := 10) valC_len val_flat
    obtain ⟨H0, hH0⟩ : ∃ H0, H0 = .cells false (bagV k (roL valC l)) :: .cells false (vecC known) :: .cells false [I a, I c] :: .cells false (bagV zeroV .nilsl) :: .cells false (bagV (withV (joinV k known) a c) v) :: X := ⟨_, rfl⟩
    have hel : elems (H0 ++ [.cells true (valC ⟨a, c, data⟩)]) 3 (.sl H0.length 0 1 3) = some (1, valC ⟨a, c, data⟩) := by simp [elems, Heap.cells?]
    rw [← hH0] at hr
    obtain ⟨v', H', e, hr', hlen2, hkeep, hoff⟩ := ((hr.mono (Nat.zero_le _)).app (X := [.cells true (valC ⟨a, c, data⟩)])).insert2 (bytes := 32) valC_len (by omega) valC_one ⟨a, c, data⟩ (pos (keptL known l) a c) pos_le hel (hr.off_ge (by omega)) (by simp only [most]; omega) (by simp only [most]; omega) (by simp)
    have hcall : ∀ K, WCl envE 112 [v, I (pos (keptL known l) a c), .sl H0.length 0 1 3] 0 (H0 ++ [.cells true (valC ⟨a, c, data⟩)]) K = K v' H' := fun K => WCl_eq (cl_prim e112 e)
    have g3 := hkeep 3 _ (get_app (by rw [hH0]; rfl)) (hr.off (by omega))
    have g4 := hkeep 4 _ (get_app (by rw [hH0]; rfl)) (hr.off (by omega))
    rw [hH0] at hcall
    simp [valC] at hcall
    have hput : insV (keptL known l) ⟨a, c, data⟩ = putL l known a c data := rfl
    have hr2 : Row 0 H' 3 valC (putL l known a c data) v' := hr'
    have hst := store_of (lim := 0) (n := 1) (o := 8) (v := v') g4 (by omega) (by simp [hr'.cells]) (by simp) (by simp [hr'.cells, hr'.one])
    rw [hr'.cells] at hst
    simp at hst
    have hO : (H'.set 4 (.cells false (bagV (withV (joinV k known) a c) v')))[4]? = some (.cells false (bagV (withV (joinV k known) a c) v')) := List.getElem?_set_self (lt_of g4)
    have cO := cells_of hO
    have h3 := get_set (c := 4) (y := .cells false (bagV (withV (joinV k known) a c) v')) g3 (by omega)
    have hl5 : 5 ≤ (H0 ++ [ABlk.cells true (valC ⟨a, c, data⟩)]).length := by rw [hH0]; simp
    have hr3 := hr2.set (z := .cells false (bagV (withV (joinV k known) a c) v')) (hoff 4 (by omega))
    by_cases h32 : 32 < (putL l known a c data).length
    · have h32' : (32 : Int) < (putL l known a c data).length := by omega
      have hst2 := store_of (lim := 0) (n := 9) (o := 0) (v := .agg (bagV zeroV .nilsl)) h3 (by omega) (by simp) (by simp) (by simp)
      simp at hst2
      have c2 : Heap.cells? ((H'.set 4 (.cells false (bagV (withV (joinV k known) a c) v'))).set 3 (.cells false (bagV zeroV .nilsl))) 3 = some (bagV zeroV .nilsl) := cells_of (List.getElem?_set_self (lt_of h3))
      simp [lp77_0, hi, fz, ka, kl, hcall, hst, cO, hr2.len, h32, h32', hst2, c2, putE, putK, putR, hm, owL]
    · have h32' : ¬ (32 : Int) < (putL l known a c data).length := by omega
      have hst2 := store_of (lim := 0) (n := 9) (o := 0) (v := .agg (bagV (withV (joinV k known) a c) v')) h3 (by omega) (by simp) (by simp) (by simp [hr2.one])
      simp at hst2
      have c2 : Heap.cells? ((H'.set 4 (.cells false (bagV (withV (joinV k known) a c) v'))).set 3 (.cells false (bagV (withV (joinV k known) a c) v'))) 3 = some (bagV (withV (joinV k known) a c) v') := cells_of (List.getElem?_set_self (lt_of h3))
      obtain ⟨u, hu, hn, _⟩ := (hr3.set (z := .cells false (bagV (withV (joinV k known) a c) v')) (hoff 3 (by omega))).own (d := 8) valC_len (by omega) val_plain
      simp [lp77_0, hi, fz, ka, kl, hcall, hst, cO, hr2.len, h32, h32', hst2, c2, putE, putK, putR, hm, hu, hn]
theorem k77 {k known : Nat → Int} {l : List Val} {a c : Int} {data : List UInt8} {H : Heap} {K : AV → Heap → Prop} (hl : l.length < 4611686018427387904) : wPu envE 77 (some [.agg (bagV k (roL valC l)), .agg (vecC known), .agg [I a, I c], .str data]) H K = K (.tup [.agg (bagV (putK k l known a c data) (thaw (owL 3 valC (putR k l known a c data)) H).1), I (putE k l known a c data)]) (thaw (owL 3 valC (putR k l known a c data)) H).2 := (wPu_eq (c77 k l known a c data hl)).trans (by simp)
end Go.Proofs.YtflgfiieaoeknaaGreatA

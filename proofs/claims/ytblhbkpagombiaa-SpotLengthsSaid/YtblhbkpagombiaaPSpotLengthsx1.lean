-- PRINTED BY print.sh 35421559b90ae4d0a3588c463048766b98c2df88dd9212a6774a882060cdf62d: not written by this session
import Derived.Test.YtblhbkpagombiaaPSpotLengthsx0
namespace Go.Proofs.Ytblhbkpagombiaa.PSpotLengths
open Go.RowKit Go.Proofs.YtblhbkpagombiaaW.PrintWords Go.Proofs.YtblhbkpagombiaaW.PrintLast Go.Proofs.YtblhbkpagombiaaW.PrintMore
attribute [local go_sem] max2_int min2_int max_two min_two max_three min_three max_four min_four   -- for this text's walks alone
set_option linter.unusedVariables false
set_option linter.unusedSimpArgs false

/-! ### spot_May: function 8 -/
def spot_May.f (a0 : ByteArray) : Option (Bool) := if (a0.size : Int) ≥ 1 then (some (decide ((a0.size : Int) ≤ 32))) else (some false)
set_option maxHeartbeats 8000000 in
set_option maxRecDepth 100000 in
theorem spot_May.calls (a0 : ByteArray) (r : Bool) (w : World) (h : spot_May.f a0 = some r) :
    Calls Try.prog 8 #[.string a0] w fun e w' => e = .returned (.bool r) ∧ Drawn0 w w' := by
  have H : (if (a0.size : Int) ≥ 1 then (some (decide ((a0.size : Int) ≤ 32))) else (some false)) = some r := h
  clear h
  by_cases c2 : (a0.size : Int) ≥ 1
  · rw [if_pos c2] at H
    have c2b0 : decide (1 ≤ (a0.size : Int)) = true := decide_eq_true c2
    have c2b1 : decide (1 ≤ a0.size) = true := decide_eq_true (by omega)
    clear c2
    obtain rfl := Option.some.inj H
    go_enter Try.func8, Try.ntmps8
    go_wp2
    go_ret
    exact ⟨by first | rfl | (simp; done) | (simp [*]; done), by repeat (first | exact Drawn0.refl _ | apply Drawn0.step)⟩
  · rw [if_neg c2] at H
    have c2b0 : decide (1 ≤ (a0.size : Int)) = false := decide_eq_false c2
    have c2b1 : decide (1 ≤ a0.size) = false := decide_eq_false (by omega)
    clear c2
    obtain rfl := Option.some.inj H
    go_enter Try.func8, Try.ntmps8
    go_wp2
    go_ret
    exact ⟨by first | rfl | (simp; done) | (simp [*]; done), by repeat (first | exact Drawn0.refl _ | apply Drawn0.step)⟩

/-! ### spot_Hash: function 10 -/
def spot_Hash.l0 : Nat → ByteArray → Int → Int → Int → Option (Int)
  | 0, _, _, _, _ => none
  | k + 1, x0, x3, x6, x7 => if x7 < x6 then (if 0 ≤ x7 then (if x7 < (x0.size : Int) then (spot_Hash.l0 k x0 (IntKind.u64.wrap ((Go.bits .xor .u64 x3 (IntKind.u64.wrap (bt x0 x7))) * 1099511628211)) x6 (wrap64 (x7 + 1))) else (none)) else (none)) else (some (Go.bits .xor .u64 x3 (x3 / 4294967296)))
def spot_Hash.f (k : Nat) (a0 : ByteArray) : Option (Int) := spot_Hash.l0 k a0 14695981039346656037 (a0.size : Int) 0
theorem spot_Hash.mono_l : ∀ k, (∀ y0 y1 y2 y3, LeO (spot_Hash.l0 k y0 y1 y2 y3) (spot_Hash.l0 (k + 1) y0 y1 y2 y3))
  | 0 => fun _ _ _ _ r h => by simp [spot_Hash.l0] at h
  | k + 1 => by
    have ih0 := spot_Hash.mono_l k
    · intro y0 y1 y2 y3
      unfold spot_Hash.l0
      repeat' first
      | (with_reducible exact ih0 _ _ _ _)
      | (with_reducible exact LeO.refl _)
      | (with_reducible exact LeO.none _)
      | (with_reducible refine LeO.ite ?_ ?_)
      | (with_reducible refine LeO.bind ?_ (fun _ => ?_))
      | exact ih0 _ _ _ _
      | exact LeO.none _
      | refine LeO.ite ?_ ?_
      | refine LeO.bind ?_ (fun _ => ?_)
theorem spot_Hash.mono : ∀ a0 k, LeO (spot_Hash.f k a0) (spot_Hash.f (k + 1) a0) := by
  intro a0 k
  have ih0 := spot_Hash.mono_l k
  unfold spot_Hash.f
  repeat' first
      | (with_reducible exact ih0 _ _ _ _)
      | (with_reducible exact LeO.refl _)
      | (with_reducible exact LeO.none _)
      | (with_reducible refine LeO.ite ?_ ?_)
      | (with_reducible refine LeO.bind ?_ (fun _ => ?_))
      | exact ih0 _ _ _ _
      | exact LeO.none _
      | refine LeO.ite ?_ ?_
      | refine LeO.bind ?_ (fun _ => ?_)
set_option maxHeartbeats 8000000 in
set_option maxRecDepth 100000 in
theorem spot_Hash.calls (k : Nat) (a0 : ByteArray) (r : Int) (w : World) (h : spot_Hash.f k a0 = some r) :
    Calls Try.prog 10 #[.string a0] w fun e w' => e = .returned (.int .u64 r) ∧ Drawn0 w w' := by
  have H : (spot_Hash.l0 k a0 14695981039346656037 (a0.size : Int) 0) = some r := h
  clear h
  have H' := Aside0.mk H
  clear H
  go_enter Try.func10, Try.ntmps10
  go_wp2
  go_loopg [3, 7] k (fun kq v3 v7 w' => ∃ (x3_1 : Int) (x7_1 : Int), v3 = .int .u64 x3_1 ∧ v7 = .int .i64 x7_1 ∧ Aside0 (spot_Hash.l0 kq a0 x3_1 (a0.size : Int) x7_1 = some r) ∧ Aside0 (kq ≤ k) ∧ Drawn0 w w')
  case atStart => exact ⟨(14695981039346656037), (0), (by first | rfl | (simp; done) | (simp [*]; done)), (by first | rfl | (simp; done) | (simp [*]; done)), H', ⟨Nat.le_refl _⟩, by repeat (first | exact Drawn0.refl _ | apply Drawn0.step)⟩
  case round =>
    clear H'
    try clear c1
    obtain ⟨x3_1, x7_1, rfl, rfl, HA, HK1, ⟨m1, rfl⟩⟩ := hrel
    cases gk with
    | zero => exact absurd HA.out (by simp [spot_Hash.l0])
    | succ k1 =>
      have H := HA.out
      clear HA
      simp only [spot_Hash.l0] at H
      by_cases c2 : x7_1 < (a0.size : Int)
      · rw [if_pos c2] at H
        have c2b0 : decide (x7_1 < (a0.size : Int)) = true := decide_eq_true c2
        clear c2
        by_cases c3 : 0 ≤ x7_1
        · rw [if_pos c3] at H
          have c3b0 : decide (0 ≤ x7_1) = true := decide_eq_true c3
          clear c3
          by_cases c4 : x7_1 < (a0.size : Int)
          · rw [if_pos c4] at H
            have c4b0 : decide (x7_1 < (a0.size : Int)) = true := decide_eq_true c4
            clear c4
            have H' := Aside0.mk H
            clear H
            have p5 : 0 ≤ (x7_1 : Int) := of_decide_eq_true (by first | (with_reducible assumption) | assumption)
            have q5 : x7_1 < (a0.size : Int) := of_decide_eq_true (by first | (with_reducible assumption) | assumption)
            have hx5 := bt_at a0 x7_1
            replace p5 := eq_true p5
            replace q5 := eq_true q5
            go_wp2
            go_roundg k1
            case measure => have := HK1.out; omega
            case rel => exact ⟨(IntKind.u64.wrap ((Go.bits .xor .u64 x3_1 (IntKind.u64.wrap (bt a0 x7_1))) * 1099511628211)), (wrap64 (x7_1 + 1)), (by first | rfl | (simp; done) | (simp [*]; done)), (by first | rfl | (simp; done) | (simp [*]; done)), H', ⟨by have := HK1.out; omega⟩, by repeat (first | exact Drawn0.refl _ | apply Drawn0.step)⟩
          · rw [if_neg c4] at H
            exact absurd H (by simp)
        · rw [if_neg c3] at H
          exact absurd H (by simp)
      · rw [if_neg c2] at H
        have c2b0 : decide (x7_1 < (a0.size : Int)) = false := decide_eq_false c2
        clear c2
        obtain rfl := Option.some.inj H
        go_wp2
        go_ret
        exact ⟨by first | rfl | (simp; done) | (simp [*]; done), by repeat (first | exact Drawn0.refl _ | apply Drawn0.step)⟩

/-! ### starlingref7_Hash: function 11 -/
def starlingref7_Hash.l0 : Nat → ByteArray → Int → Int → Int → Option (Int)
  | 0, _, _, _, _ => none
  | k + 1, x0, x3, x6, x7 => if x7 < x6 then (if 0 ≤ x7 then (if x7 < (x0.size : Int) then (starlingref7_Hash.l0 k x0 (IntKind.u64.wrap ((Go.bits .xor .u64 x3 (IntKind.u64.wrap (bt x0 x7))) * 1099511628211)) x6 (wrap64 (x7 + 1))) else (none)) else (none)) else (some (Go.bits .xor .u64 x3 (x3 / 4294967296)))
def starlingref7_Hash.f (k : Nat) (a0 : ByteArray) : Option (Int) := starlingref7_Hash.l0 k a0 14695981039346656037 (a0.size : Int) 0
theorem starlingref7_Hash.mono_l : ∀ k, (∀ y0 y1 y2 y3, LeO (starlingref7_Hash.l0 k y0 y1 y2 y3) (starlingref7_Hash.l0 (k + 1) y0 y1 y2 y3))
  | 0 => fun _ _ _ _ r h => by simp [starlingref7_Hash.l0] at h
  | k + 1 => by
    have ih0 := starlingref7_Hash.mono_l k
    · intro y0 y1 y2 y3
      unfold starlingref7_Hash.l0
      repeat' first
      | (with_reducible exact ih0 _ _ _ _)
      | (with_reducible exact LeO.refl _)
      | (with_reducible exact LeO.none _)
      | (with_reducible refine LeO.ite ?_ ?_)
      | (with_reducible refine LeO.bind ?_ (fun _ => ?_))
      | exact ih0 _ _ _ _
      | exact LeO.none _
      | refine LeO.ite ?_ ?_
      | refine LeO.bind ?_ (fun _ => ?_)
theorem starlingref7_Hash.mono : ∀ a0 k, LeO (starlingref7_Hash.f k a0) (starlingref7_Hash.f (k + 1) a0) := by
  intro a0 k
  have ih0 := starlingref7_Hash.mono_l k
  unfold starlingref7_Hash.f
  repeat' first
      | (with_reducible exact ih0 _ _ _ _)
      | (with_reducible exact LeO.refl _)
      | (with_reducible exact LeO.none _)
      | (with_reducible refine LeO.ite ?_ ?_)
      | (with_reducible refine LeO.bind ?_ (fun _ => ?_))
      | exact ih0 _ _ _ _
      | exact LeO.none _
      | refine LeO.ite ?_ ?_
      | refine LeO.bind ?_ (fun _ => ?_)
set_option maxHeartbeats 8000000 in
set_option maxRecDepth 100000 in
theorem starlingref7_Hash.calls (k : Nat) (a0 : ByteArray) (r : Int) (w : World) (h : starlingref7_Hash.f k a0 = some r) :
    Calls Try.prog 11 #[.string a0] w fun e w' => e = .returned (.int .u64 r) ∧ Drawn0 w w' := by
  have H : (starlingref7_Hash.l0 k a0 14695981039346656037 (a0.size : Int) 0) = some r := h
  clear h
  have H' := Aside0.mk H
  clear H
  go_enter Try.func11, Try.ntmps11
  go_wp2
  go_loopg [3, 7] k (fun kq v3 v7 w' => ∃ (x3_1 : Int) (x7_1 : Int), v3 = .int .u64 x3_1 ∧ v7 = .int .i64 x7_1 ∧ Aside0 (starlingref7_Hash.l0 kq a0 x3_1 (a0.size : Int) x7_1 = some r) ∧ Aside0 (kq ≤ k) ∧ Drawn0 w w')
  case atStart => exact ⟨(14695981039346656037), (0), (by first | rfl | (simp; done) | (simp [*]; done)), (by first | rfl | (simp; done) | (simp [*]; done)), H', ⟨Nat.le_refl _⟩, by repeat (first | exact Drawn0.refl _ | apply Drawn0.step)⟩
  case round =>
    clear H'
    try clear c1
    obtain ⟨x3_1, x7_1, rfl, rfl, HA, HK1, ⟨m1, rfl⟩⟩ := hrel
    cases gk with
    | zero => exact absurd HA.out (by simp [starlingref7_Hash.l0])
    | succ k1 =>
      have H := HA.out
      clear HA
      simp only [starlingref7_Hash.l0] at H
      by_cases c2 : x7_1 < (a0.size : Int)
      · rw [if_pos c2] at H
        have c2b0 : decide (x7_1 < (a0.size : Int)) = true := decide_eq_true c2
        clear c2
        by_cases c3 : 0 ≤ x7_1
        · rw [if_pos c3] at H
          have c3b0 : decide (0 ≤ x7_1) = true := decide_eq_true c3
          clear c3
          by_cases c4 : x7_1 < (a0.size : Int)
          · rw [if_pos c4] at H
            have c4b0 : decide (x7_1 < (a0.size : Int)) = true := decide_eq_true c4
            clear c4
            have H' := Aside0.mk H
            clear H
            have p5 : 0 ≤ (x7_1 : Int) := of_decide_eq_true (by first | (with_reducible assumption) | assumption)
            have q5 : x7_1 < (a0.size : Int) := of_decide_eq_true (by first | (with_reducible assumption) | assumption)
            have hx5 := bt_at a0 x7_1
            replace p5 := eq_true p5
            replace q5 := eq_true q5
            go_wp2
            go_roundg k1
            case measure => have := HK1.out; omega
            case rel => exact ⟨(IntKind.u64.wrap ((Go.bits .xor .u64 x3_1 (IntKind.u64.wrap (bt a0 x7_1))) * 1099511628211)), (wrap64 (x7_1 + 1)), (by first | rfl | (simp; done) | (simp [*]; done)), (by first | rfl | (simp; done) | (simp [*]; done)), H', ⟨by have := HK1.out; omega⟩, by repeat (first | exact Drawn0.refl _ | apply Drawn0.step)⟩
          · rw [if_neg c4] at H
            exact absurd H (by simp)
        · rw [if_neg c3] at H
          exact absurd H (by simp)
      · rw [if_neg c2] at H
        have c2b0 : decide (x7_1 < (a0.size : Int)) = false := decide_eq_false c2
        clear c2
        obtain rfl := Option.some.inj H
        go_wp2
        go_ret
        exact ⟨by first | rfl | (simp; done) | (simp [*]; done), by repeat (first | exact Drawn0.refl _ | apply Drawn0.step)⟩

/-! ### spot_Of: function 12 -/
def spot_Of.f (k : Nat) (a0 : ByteArray) : Option (Int) := (spot_May.f a0).bind fun t101 => (if t101 = true then ((spot_Hash.f k a0).bind fun t102 => (some (wrap64 (Int.tmod t102 16)))) else (some (-1)))
theorem spot_Of.mono : ∀ a0 k, LeO (spot_Of.f k a0) (spot_Of.f (k + 1) a0) := by
  intro a0 k
  unfold spot_Of.f
  repeat' first
      | (with_reducible exact spot_Hash.mono _ _)
      | (with_reducible exact LeO.refl _)
      | (with_reducible exact LeO.none _)
      | (with_reducible refine LeO.ite ?_ ?_)
      | (with_reducible refine LeO.bind ?_ (fun _ => ?_))
      | exact spot_Hash.mono _ _
      | exact LeO.none _
      | refine LeO.ite ?_ ?_
      | refine LeO.bind ?_ (fun _ => ?_)
set_option maxHeartbeats 8000000 in
set_option maxRecDepth 100000 in
theorem spot_Of.calls (k : Nat) (a0 : ByteArray) (r : Int) (w : World) (h : spot_Of.f k a0 = some r) :
    Calls Try.prog 12 #[.string a0] w fun e w' => e = .returned (.int .i64 r) ∧ Drawn0 w w' := by
  have H : ((spot_May.f a0).bind fun t101 => (if t101 = true then ((spot_Hash.f k a0).bind fun t102 => (some (wrap64 (Int.tmod t102 16)))) else (some (-1)))) = some r := h
  clear h
  replace H := Option.bind_eq_some_iff.mp H
  obtain ⟨t101, A20, H⟩ := H
  replace H : (if t101 = true then ((spot_Hash.f k a0).bind fun t102 => (some (wrap64 (Int.tmod t102 16)))) else (some (-1))) = some r := H
  have A2 := Aside0.mk A20
  clear A20
  by_cases c3 : t101 = true
  · subst c3
    have H1 : ((spot_Hash.f k a0).bind fun t102 => (some (wrap64 (Int.tmod t102 16)))) = some r := by rw [if_pos rfl] at H; exact H
    clear H
    have H := H1
    clear H1
    replace H := Option.bind_eq_some_iff.mp H
    obtain ⟨t102, A40, H⟩ := H
    replace H : (some (wrap64 (Int.tmod t102 16))) = some r := H
    have A4 := Aside0.mk A40
    clear A40
    obtain rfl := Option.some.inj H
    go_enter Try.func12, Try.ntmps12
    go_wp2_with (first | ((with_reducible refine gate_callee (f := 8) rfl ?_); refine goesL_ (some 4) rfl rfl Try.func8 (by kernel_rfl) rfl #[.string a0] rfl (by (try simp only [List.map_toArray, List.map_cons, List.map_nil]); first | done | rfl | (simp only [List.length_drop, List.length_take]; rfl)) ?_; (with_reducible refine (spot_May.calls a0 true _ A2.out).mono ?_); rintro e w' ⟨rfl, ⟨nd, rfl⟩⟩; refine ⟨_, rfl, ?_⟩) | ((with_reducible refine gate_callee (f := 10) rfl ?_); refine goesL_ (some 7) rfl rfl Try.func10 (by kernel_rfl) rfl #[.string a0] rfl (by (try simp only [List.map_toArray, List.map_cons, List.map_nil]); first | done | rfl | (simp only [List.length_drop, List.length_take]; rfl)) ?_; (with_reducible refine (spot_Hash.calls k a0 t102 _ A4.out).mono ?_); rintro e w' ⟨rfl, ⟨nd, rfl⟩⟩; refine ⟨_, rfl, ?_⟩))
    go_ret
    exact ⟨by first | rfl | (simp; done) | (simp [*]; done), by repeat (first | exact Drawn0.refl _ | apply Drawn0.step)⟩
  · replace c3 := Bool.eq_false_iff.mpr c3
    subst c3
    have H1 : (some (-1)) = some r := by rw [if_neg (show ¬ (false = true) by decide)] at H; exact H
    clear H
    have H := H1
    clear H1
    obtain rfl := Option.some.inj H
    go_enter Try.func12, Try.ntmps12
    go_wp2_with (first | ((with_reducible refine gate_callee (f := 8) rfl ?_); refine goesL_ (some 4) rfl rfl Try.func8 (by kernel_rfl) rfl #[.string a0] rfl (by (try simp only [List.map_toArray, List.map_cons, List.map_nil]); first | done | rfl | (simp only [List.length_drop, List.length_take]; rfl)) ?_; (with_reducible refine (spot_May.calls a0 false _ A2.out).mono ?_); rintro e w' ⟨rfl, ⟨nd, rfl⟩⟩; refine ⟨_, rfl, ?_⟩))
    go_ret
    exact ⟨by first | rfl | (simp; done) | (simp [*]; done), by repeat (first | exact Drawn0.refl _ | apply Drawn0.step)⟩

/-! ### starlinglaw7_awake: function 7 -/
def starlinglaw7_awake.f (k : Nat)  : Option (Bool) := (spot_May.f (⟨#[97]⟩ : ByteArray)).bind fun t103 => (if t103 = true then ((spot_May.f (⟨#[]⟩ : ByteArray)).bind fun t104 => (if t104 = true then (some false) else ((spot_Of.f k (⟨#[]⟩ : ByteArray)).bind fun t105 => (if t105 = (-1) then ((spot_Hash.f k (⟨#[97]⟩ : ByteArray)).bind fun t106 => ((starlingref7_Hash.f k (⟨#[97]⟩ : ByteArray)).bind fun t107 => (some (t106 == t107)))) else (some false))))) else (some false))
theorem starlinglaw7_awake.mono : ∀ k, LeO (starlinglaw7_awake.f k ) (starlinglaw7_awake.f (k + 1) ) := by
  intro  k
  unfold starlinglaw7_awake.f
  repeat' first
      | (with_reducible exact spot_Hash.mono _ _)
      | (with_reducible exact spot_Of.mono _ _)
      | (with_reducible exact starlingref7_Hash.mono _ _)
      | (with_reducible exact LeO.refl _)
      | (with_reducible exact LeO.none _)
      | (with_reducible refine LeO.ite ?_ ?_)
      | (with_reducible refine LeO.bind ?_ (fun _ => ?_))
      | exact spot_Hash.mono _ _
      | exact spot_Of.mono _ _
      | exact starlingref7_Hash.mono _ _
      | exact LeO.none _
      | refine LeO.ite ?_ ?_
      | refine LeO.bind ?_ (fun _ => ?_)
set_option maxHeartbeats 8000000 in
set_option maxRecDepth 100000 in
theorem starlinglaw7_awake.calls (k : Nat)  (r : Bool) (w : World) (h : starlinglaw7_awake.f k  = some r) :
    Calls Try.prog 7 #[] w fun e w' => e = .returned (.bool r) ∧ Drawn0 w w' := by
  have H : ((spot_May.f (⟨#[97]⟩ : ByteArray)).bind fun t103 => (if t103 = true then ((spot_May.f (⟨#[]⟩ : ByteArray)).bind fun t104 => (if t104 = true then (some false) else ((spot_Of.f k (⟨#[]⟩ : ByteArray)).bind fun t105 => (if t105 = (-1) then ((spot_Hash.f k (⟨#[97]⟩ : ByteArray)).bind fun t106 => ((starlingref7_Hash.f k (⟨#[97]⟩ : ByteArray)).bind fun t107 => (some (t106 == t107)))) else (some false))))) else (some false))) = some r := h
  clear h
  replace H := Option.bind_eq_some_iff.mp H
  obtain ⟨t103, A10, H⟩ := H
  replace H : (if t103 = true then ((spot_May.f (⟨#[]⟩ : ByteArray)).bind fun t104 => (if t104 = true then (some false) else ((spot_Of.f k (⟨#[]⟩ : ByteArray)).bind fun t105 => (if t105 = (-1) then ((spot_Hash.f k (⟨#[97]⟩ : ByteArray)).bind fun t106 => ((starlingref7_Hash.f k (⟨#[97]⟩ : ByteArray)).bind fun t107 => (some (t106 == t107)))) else (some false))))) else (some false)) = some r := H
  have A1 := Aside0.mk A10
  clear A10
  by_cases c2 : t103 = true
  · subst c2
    have H1 : ((spot_May.f (⟨#[]⟩ : ByteArray)).bind fun t104 => (if t104 = true then (some false) else ((spot_Of.f k (⟨#[]⟩ : ByteArray)).bind fun t105 => (if t105 = (-1) then ((spot_Hash.f k (⟨#[97]⟩ : ByteArray)).bind fun t106 => ((starlingref7_Hash.f k (⟨#[97]⟩ : ByteArray)).bind fun t107 => (some (t106 == t107)))) else (some false))))) = some r := by rw [if_pos rfl] at H; exact H
    clear H
    have H := H1
    clear H1
    replace H := Option.bind_eq_some_iff.mp H
    obtain ⟨t104, A30, H⟩ := H
    replace H : (if t104 = true then (some false) else ((spot_Of.f k (⟨#[]⟩ : ByteArray)).bind fun t105 => (if t105 = (-1) then ((spot_Hash.f k (⟨#[97]⟩ : ByteArray)).bind fun t106 => ((starlingref7_Hash.f k (⟨#[97]⟩ : ByteArray)).bind fun t107 => (some (t106 == t107)))) else (some false)))) = some r := H
    have A3 := Aside0.mk A30
    clear A30
    by_cases c4 : t104 = true
    · subst c4
      have H1 : (some false) = some r := by rw [if_pos rfl] at H; exact H
      clear H
      have H := H1
      clear H1
      obtain rfl := Option.some.inj H
      go_enter Try.func7, Try.ntmps7
      go_wp2_with (first | ((with_reducible refine gate_callee (f := 8) rfl ?_); refine goesL_ (some 1) rfl rfl Try.func8 (by kernel_rfl) rfl #[.string (⟨#[97]⟩ : ByteArray)] rfl (by (try simp only [List.map_toArray, List.map_cons, List.map_nil]); first | done | rfl | (simp only [List.length_drop, List.length_take]; rfl)) ?_; (with_reducible refine (spot_May.calls (⟨#[97]⟩ : ByteArray) true _ A1.out).mono ?_); rintro e w' ⟨rfl, ⟨nd, rfl⟩⟩; refine ⟨_, rfl, ?_⟩) | (go_at_call 8; (with_reducible refine (spot_May.calls (⟨#[]⟩ : ByteArray) true _ A3.out).mono ?_); rintro e w' ⟨rfl, ⟨nd, rfl⟩⟩))
      go_ret
      exact ⟨by first | rfl | (simp; done) | (simp [*]; done), by repeat (first | exact Drawn0.refl _ | apply Drawn0.step)⟩
    · replace c4 := Bool.eq_false_iff.mpr c4
      subst c4
      have H1 : ((spot_Of.f k (⟨#[]⟩ : ByteArray)).bind fun t105 => (if t105 = (-1) then ((spot_Hash.f k (⟨#[97]⟩ : ByteArray)).bind fun t106 => ((starlingref7_Hash.f k (⟨#[97]⟩ : ByteArray)).bind fun t107 => (some (t106 == t107)))) else (some false))) = some r := by rw [if_neg (show ¬ (false = true) by decide)] at H; exact H
      clear H
      have H := H1
      clear H1
      replace H := Option.bind_eq_some_iff.mp H
      obtain ⟨t105, A50, H⟩ := H
      replace H : (if t105 = (-1) then ((spot_Hash.f k (⟨#[97]⟩ : ByteArray)).bind fun t106 => ((starlingref7_Hash.f k (⟨#[97]⟩ : ByteArray)).bind fun t107 => (some (t106 == t107)))) else (some false)) = some r := H
      have A5 := Aside0.mk A50
      clear A50
      by_cases c6 : t105 = (-1)
      · rw [if_pos c6] at H
        have c6b0 : (t105 == (-1)) = true := beq_iff_eq.mpr c6
        have c6b1 : (t105 != (-1)) = false := bne_eq_false_iff_eq.mpr c6
        clear c6
        replace H := Option.bind_eq_some_iff.mp H
        obtain ⟨t106, A70, H⟩ := H
        replace H : ((starlingref7_Hash.f k (⟨#[97]⟩ : ByteArray)).bind fun t107 => (some (t106 == t107))) = some r := H
        have A7 := Aside0.mk A70
        clear A70
        replace H := Option.bind_eq_some_iff.mp H
        obtain ⟨t107, A80, H⟩ := H
        replace H : (some (t106 == t107)) = some r := H
        have A8 := Aside0.mk A80
        clear A80
        obtain rfl := Option.some.inj H
        go_enter Try.func7, Try.ntmps7
        go_wp2_with (first | ((with_reducible refine gate_callee (f := 8) rfl ?_); refine goesL_ (some 1) rfl rfl Try.func8 (by kernel_rfl) rfl #[.string (⟨#[97]⟩ : ByteArray)] rfl (by (try simp only [List.map_toArray, List.map_cons, List.map_nil]); first | done | rfl | (simp only [List.length_drop, List.length_take]; rfl)) ?_; (with_reducible refine (spot_May.calls (⟨#[97]⟩ : ByteArray) true _ A1.out).mono ?_); rintro e w' ⟨rfl, ⟨nd, rfl⟩⟩; refine ⟨_, rfl, ?_⟩) | (go_at_call 8; (with_reducible refine (spot_May.calls (⟨#[]⟩ : ByteArray) false _ A3.out).mono ?_); rintro e w' ⟨rfl, ⟨nd, rfl⟩⟩) | (go_at_call 12; (with_reducible refine (spot_Of.calls k (⟨#[]⟩ : ByteArray) t105 _ A5.out).mono ?_); rintro e w' ⟨rfl, ⟨nd, rfl⟩⟩) | (go_at_call 10; (with_reducible refine (spot_Hash.calls k (⟨#[97]⟩ : ByteArray) t106 _ A7.out).mono ?_); rintro e w' ⟨rfl, ⟨nd, rfl⟩⟩) | (go_at_call 11; (with_reducible refine (starlingref7_Hash.calls k (⟨#[97]⟩ : ByteArray) t107 _ A8.out).mono ?_); rintro e w' ⟨rfl, ⟨nd, rfl⟩⟩))
        go_ret
        exact ⟨by first | rfl | (simp; done) | (simp [*]; done), by repeat (first | exact Drawn0.refl _ | apply Drawn0.step)⟩
      · rw [if_neg c6] at H
        have c6b0 : (t105 == (-1)) = false := beq_eq_false_iff_ne.mpr c6
        have c6b1 : (t105 != (-1)) = true := bne_iff_ne.mpr c6
        obtain rfl := Option.some.inj H
        go_enter Try.func7, Try.ntmps7
        go_wp2_with (first | ((with_reducible refine gate_callee (f := 8) rfl ?_); refine goesL_ (some 1) rfl rfl Try.func8 (by kernel_rfl) rfl #[.string (⟨#[97]⟩ : ByteArray)] rfl (by (try simp only [List.map_toArray, List.map_cons, List.map_nil]); first | done | rfl | (simp only [List.length_drop, List.length_take]; rfl)) ?_; (with_reducible refine (spot_May.calls (⟨#[97]⟩ : ByteArray) true _ A1.out).mono ?_); rintro e w' ⟨rfl, ⟨nd, rfl⟩⟩; refine ⟨_, rfl, ?_⟩) | (go_at_call 8; (with_reducible refine (spot_May.calls (⟨#[]⟩ : ByteArray) false _ A3.out).mono ?_); rintro e w' ⟨rfl, ⟨nd, rfl⟩⟩) | (go_at_call 12; (with_reducible refine (spot_Of.calls k (⟨#[]⟩ : ByteArray) t105 _ A5.out).mono ?_); rintro e w' ⟨rfl, ⟨nd, rfl⟩⟩))
        go_ret
        exact ⟨by first | rfl | (simp; done) | (simp [*]; done), by repeat (first | exact Drawn0.refl _ | apply Drawn0.step)⟩
  · replace c2 := Bool.eq_false_iff.mpr c2
    subst c2
    have H1 : (some false) = some r := by rw [if_neg (show ¬ (false = true) by decide)] at H; exact H
    clear H
    have H := H1
    clear H1
    obtain rfl := Option.some.inj H
    go_enter Try.func7, Try.ntmps7
    go_wp2_with (first | ((with_reducible refine gate_callee (f := 8) rfl ?_); refine goesL_ (some 1) rfl rfl Try.func8 (by kernel_rfl) rfl #[.string (⟨#[97]⟩ : ByteArray)] rfl (by (try simp only [List.map_toArray, List.map_cons, List.map_nil]); first | done | rfl | (simp only [List.length_drop, List.length_take]; rfl)) ?_; (with_reducible refine (spot_May.calls (⟨#[97]⟩ : ByteArray) false _ A1.out).mono ?_); rintro e w' ⟨rfl, ⟨nd, rfl⟩⟩; refine ⟨_, rfl, ?_⟩))
    go_ret
    exact ⟨by first | rfl | (simp; done) | (simp [*]; done), by repeat (first | exact Drawn0.refl _ | apply Drawn0.step)⟩

/-! ### starlinglaw7_SpotLengths: function 6 -/
mutual
def starlinglaw7_SpotLengths.l0 : Nat → Int → Int → Int → ByteArray → ByteArray → Int → Int → Option (Bool)
  | 0, _, _, _, _, _, _, _ => none
  | k + 1, x0, x1, x2, x7, x8, x18, x19 => if x19 < x18 then ((some (([x0] : List Int) : List Int)).bind fun y108 => (if x7.size + (strOfNums y108).size ≤ 9223372036854775807 then (starlinglaw7_SpotLengths.l0 k x0 x1 x2 (x7 ++ (strOfNums y108)) x8 x18 (wrap64 (x19 + 1))) else (none))) else (starlinglaw7_SpotLengths.l1 k x0 x1 x2 x7 x8 x2 0)
def starlinglaw7_SpotLengths.l1 : Nat → Int → Int → Int → ByteArray → ByteArray → Int → Int → Option (Bool)
  | 0, _, _, _, _, _, _, _ => none
  | k + 1, x0, x1, x2, x7, x8, x27, x28 => if x28 < x27 then ((some (([x0] : List Int) : List Int)).bind fun y111 => (if x8.size + (strOfNums y111).size ≤ 9223372036854775807 then (starlinglaw7_SpotLengths.l1 k x0 x1 x2 x7 (x8 ++ (strOfNums y111)) x27 (wrap64 (x28 + 1))) else (none))) else (if x1 ≥ 1 then (starlinglaw7_SpotLengths.j2 k x1 x2 x7 x8 (decide (x1 ≤ 32))) else (starlinglaw7_SpotLengths.j2 k x1 x2 x7 x8 false))
def starlinglaw7_SpotLengths.j2 : Nat → Int → Int → ByteArray → ByteArray → Bool → Option (Bool)
  | 0, _, _, _, _, _ => none
  | k + 1, x1, x2, x7, x8, x9 => (spot_May.f x7).bind fun t114 => (if (t114 == x9) = true then ((spot_Of.f k x7).bind fun t115 => (if ((decide (t115 ≥ 0)) == x9) = true then (if x1 = x2 then ((spot_Hash.f k x7).bind fun t116 => ((spot_Hash.f k x8).bind fun t117 => (if t116 = t117 then ((starlinglaw7_awake.f k).bind fun t118 => (some t118)) else (some false)))) else ((starlinglaw7_awake.f k).bind fun t119 => (some t119))) else (some false))) else (some false))
end
def starlinglaw7_SpotLengths.f (k : Nat) (a0 : Int) (a1 : Int) (a2 : Int) : Option (Bool) := starlinglaw7_SpotLengths.l0 k a0 (wrap64 (Int.tmod (IntKind.u64.wrap (a1)) 50)) (wrap64 (Int.tmod (IntKind.u64.wrap (a2)) 50)) (⟨#[]⟩ : ByteArray) (⟨#[]⟩ : ByteArray) (wrap64 (Int.tmod (IntKind.u64.wrap (a1)) 50)) 0
theorem starlinglaw7_SpotLengths.mono_l : ∀ k, (∀ y0 y1 y2 y3 y4 y5 y6, LeO (starlinglaw7_SpotLengths.l0 k y0 y1 y2 y3 y4 y5 y6) (starlinglaw7_SpotLengths.l0 (k + 1) y0 y1 y2 y3 y4 y5 y6)) ∧ (∀ y0 y1 y2 y3 y4 y5 y6, LeO (starlinglaw7_SpotLengths.l1 k y0 y1 y2 y3 y4 y5 y6) (starlinglaw7_SpotLengths.l1 (k + 1) y0 y1 y2 y3 y4 y5 y6)) ∧ (∀ y0 y1 y2 y3 y4, LeO (starlinglaw7_SpotLengths.j2 k y0 y1 y2 y3 y4) (starlinglaw7_SpotLengths.j2 (k + 1) y0 y1 y2 y3 y4))
  | 0 => ⟨fun _ _ _ _ _ _ _ r h => by simp [starlinglaw7_SpotLengths.l0] at h, fun _ _ _ _ _ _ _ r h => by simp [starlinglaw7_SpotLengths.l1] at h, fun _ _ _ _ _ r h => by simp [starlinglaw7_SpotLengths.j2] at h⟩
  | k + 1 => by
    obtain ⟨ih0, ih1, ih2⟩ := starlinglaw7_SpotLengths.mono_l k
    refine ⟨?_, ?_, ?_⟩
    · intro y0 y1 y2 y3 y4 y5 y6
      unfold starlinglaw7_SpotLengths.l0
      repeat' first
      | (with_reducible exact ih0 _ _ _ _ _ _ _)
      | (with_reducible exact ih1 _ _ _ _ _ _ _)
      | (with_reducible exact ih2 _ _ _ _ _)
      | (with_reducible exact spot_Hash.mono _ _)
      | (with_reducible exact spot_Of.mono _ _)
      | (with_reducible exact starlinglaw7_awake.mono _)
      | (with_reducible exact LeO.refl _)
      | (with_reducible exact LeO.none _)
      | (with_reducible refine LeO.ite ?_ ?_)
      | (with_reducible refine LeO.bind ?_ (fun _ => ?_))
      | exact ih0 _ _ _ _ _ _ _
      | exact ih1 _ _ _ _ _ _ _
      | exact ih2 _ _ _ _ _
      | exact spot_Hash.mono _ _
      | exact spot_Of.mono _ _
      | exact starlinglaw7_awake.mono _
      | exact LeO.none _
      | refine LeO.ite ?_ ?_
      | refine LeO.bind ?_ (fun _ => ?_)
    · intro y0 y1 y2 y3 y4 y5 y6
      unfold starlinglaw7_SpotLengths.l1
      repeat' first
      | (with_reducible exact ih0 _ _ _ _ _ _ _)
      | (with_reducible exact ih1 _ _ _ _ _ _ _)
      | (with_reducible exact ih2 _ _ _ _ _)
      | (with_reducible exact spot_Hash.mono _ _)
      | (with_reducible exact spot_Of.mono _ _)
      | (with_reducible exact starlinglaw7_awake.mono _)
      | (with_reducible exact LeO.refl _)
      | (with_reducible exact LeO.none _)
      | (with_reducible refine LeO.ite ?_ ?_)
      | (with_reducible refine LeO.bind ?_ (fun _ => ?_))
      | exact ih0 _ _ _ _ _ _ _
      | exact ih1 _ _ _ _ _ _ _
      | exact ih2 _ _ _ _ _
      | exact spot_Hash.mono _ _
      | exact spot_Of.mono _ _
      | exact starlinglaw7_awake.mono _
      | exact LeO.none _
      | refine LeO.ite ?_ ?_
      | refine LeO.bind ?_ (fun _ => ?_)
    · intro y0 y1 y2 y3 y4
      unfold starlinglaw7_SpotLengths.j2
      repeat' first
      | (with_reducible exact ih0 _ _ _ _ _ _ _)
      | (with_reducible exact ih1 _ _ _ _ _ _ _)
      | (with_reducible exact ih2 _ _ _ _ _)
      | (with_reducible exact spot_Hash.mono _ _)
      | (with_reducible exact spot_Of.mono _ _)
      | (with_reducible exact starlinglaw7_awake.mono _)
      | (with_reducible exact LeO.refl _)
      | (with_reducible exact LeO.none _)
      | (with_reducible refine LeO.ite ?_ ?_)
      | (with_reducible refine LeO.bind ?_ (fun _ => ?_))
      | exact ih0 _ _ _ _ _ _ _
      | exact ih1 _ _ _ _ _ _ _
      | exact ih2 _ _ _ _ _
      | exact spot_Hash.mono _ _
      | exact spot_Of.mono _ _
      | exact starlinglaw7_awake.mono _
      | exact LeO.none _
      | refine LeO.ite ?_ ?_
      | refine LeO.bind ?_ (fun _ => ?_)
theorem starlinglaw7_SpotLengths.mono : ∀ a0 a1 a2 k, LeO (starlinglaw7_SpotLengths.f k a0 a1 a2) (starlinglaw7_SpotLengths.f (k + 1) a0 a1 a2) := by
  intro a0 a1 a2 k
  obtain ⟨ih0, ih1, ih2⟩ := starlinglaw7_SpotLengths.mono_l k
  unfold starlinglaw7_SpotLengths.f
  repeat' first
      | (with_reducible exact ih0 _ _ _ _ _ _ _)
      | (with_reducible exact ih1 _ _ _ _ _ _ _)
      | (with_reducible exact ih2 _ _ _ _ _)
      | (with_reducible exact spot_Hash.mono _ _)
      | (with_reducible exact spot_Of.mono _ _)
      | (with_reducible exact starlinglaw7_awake.mono _)
      | (with_reducible exact LeO.refl _)
      | (with_reducible exact LeO.none _)
      | (with_reducible refine LeO.ite ?_ ?_)
      | (with_reducible refine LeO.bind ?_ (fun _ => ?_))
      | exact ih0 _ _ _ _ _ _ _
      | exact ih1 _ _ _ _ _ _ _
      | exact ih2 _ _ _ _ _
      | exact spot_Hash.mono _ _
      | exact spot_Of.mono _ _
      | exact starlinglaw7_awake.mono _
      | exact LeO.none _
      | refine LeO.ite ?_ ?_
      | refine LeO.bind ?_ (fun _ => ?_)
set_option maxHeartbeats 8000000 in
set_option maxRecDepth 100000 in
theorem starlinglaw7_SpotLengths.calls (k : Nat) (a0 : Int) (a1 : Int) (a2 : Int) (r : Bool) (w : World) (h : starlinglaw7_SpotLengths.f k a0 a1 a2 = some r) :
    Calls Try.prog 6 #[.int .u8 a0, .int .i64 a1, .int .i64 a2] w fun e w' => e = .returned (.bool r) ∧ Below w.heap.size w w' := by
  have HB := Aside0.mk (Below.refl w.heap.size w)
  have H : (starlinglaw7_SpotLengths.l0 k a0 (wrap64 (Int.tmod (IntKind.u64.wrap (a1)) 50)) (wrap64 (Int.tmod (IntKind.u64.wrap (a2)) 50)) (⟨#[]⟩ : ByteArray) (⟨#[]⟩ : ByteArray) (wrap64 (Int.tmod (IntKind.u64.wrap (a1)) 50)) 0) = some r := h
  clear h
  have H' := Aside0.mk H
  clear H
  go_enter Try.func6, Try.ntmps6
  go_wp2
  go_loopg [7, 19] k (fun kq v7 v19 w' => ∃ (x7_1 : ByteArray) (x19_1 : Int), v7 = .string x7_1 ∧ v19 = .int .i64 x19_1 ∧ Aside0 (starlinglaw7_SpotLengths.l0 kq a0 (wrap64 (Int.tmod (IntKind.u64.wrap (a1)) 50)) (wrap64 (Int.tmod (IntKind.u64.wrap (a2)) 50)) x7_1 (⟨#[]⟩ : ByteArray) (wrap64 (Int.tmod (IntKind.u64.wrap (a1)) 50)) x19_1 = some r) ∧ Aside0 (kq ≤ k) ∧ Aside0 (Below w.heap.size w w'))
  case atStart => exact ⟨((⟨#[]⟩ : ByteArray)), (0), (by first | rfl | (simp; done) | (simp [*]; done)), (by first | rfl | (simp; done) | (simp [*]; done)), H', ⟨Nat.le_refl _⟩, ⟨by repeat (first | (with_reducible first | exact HB.out | apply below_alloc | apply pw_below_drewN | apply below_drew1) | exact HB.out)⟩⟩
  case round =>
    clear H'
    try clear p2
    obtain ⟨x7_1, x19_1, rfl, rfl, HA, HK1, HB⟩ := hrel
    cases gk with
    | zero => exact absurd HA.out (by simp [starlinglaw7_SpotLengths.l0])
    | succ k1 =>
      have H := HA.out
      clear HA
      simp only [starlinglaw7_SpotLengths.l0] at H
      by_cases c4 : x19_1 < (wrap64 (Int.tmod (IntKind.u64.wrap (a1)) 50))
      · rw [if_pos c4] at H
        have c4b0 : decide (x19_1 < (wrap64 (Int.tmod (IntKind.u64.wrap (a1)) 50))) = true := decide_eq_true c4
        clear c4
        obtain ⟨y108, hy108⟩ : ∃ y_ : List Int, y_ = (([a0] : List Int)) := ⟨_, rfl⟩
        replace H : (if x7_1.size + (strOfNums y108).size ≤ 9223372036854775807 then (starlinglaw7_SpotLengths.l0 k1 a0 (wrap64 (Int.tmod (IntKind.u64.wrap (a1)) 50)) (wrap64 (Int.tmod (IntKind.u64.wrap (a2)) 50)) (x7_1 ++ (strOfNums y108)) (⟨#[]⟩ : ByteArray) (wrap64 (Int.tmod (IntKind.u64.wrap (a1)) 50)) (wrap64 (x19_1 + 1))) else (none)) = some r := by first | (rw [hy108]; with_reducible exact H) | (have H2_ := (Option.bind_some _ _).symm.trans H; rw [hy108]; with_reducible exact H2_) | (have H2_ := (Option.bind_some _ _).symm.trans H; with_reducible exact H2_) | with_reducible exact H | (rw [hy108]; exact H) | exact H
        have Ny108 := Aside0.mk hy108
        clear hy108
        by_cases c5 : x7_1.size + (strOfNums y108).size ≤ 9223372036854775807
        · rw [if_pos c5] at H
          have c5b0 := eq_true c5
          have c5b1 : decide (x7_1.size + (strOfNums y108).size ≤ 9223372036854775807) = true := decide_eq_true c5
          try have c5b2 : (9223372036854775807 < x7_1.size + (strOfNums y108).size) = False := eq_false (Nat.not_lt.2 c5)
          have H' := Aside0.mk H
          clear H
          go_wp2_with (first | ((with_reducible refine gate_dst (N := 23) rfl ?_); refine Kd.R_lit (Kd.int .u8) _ 5 ?hg (N := 23) ?hd (xs := ([a0] : List Int)) (inner := [.int .u8 a0]) (ok := fun _ => True) (okp := fun _ => True) ?hr ?hp (fun _ hk => hk) trivial (Below.refl _ _) (Nat.le_refl _) (by simp) ?_; (case hd => rfl); (case hg => rfl); (case hr => first | (go_simp; done) | (go_simp; rfl)); (case hp => exact (Reps.one (show Kd.M (Kd.int .u8) _ _ _ a0 [.int .u8 a0] from rfl) (Reps.none _ _))); intro v109 w6 ho7 hb hg_ hnew_; clear hg_ hnew_; (first | rw [← Ny108.out] at ho7 | (simp only [Int.reduceToNat] at ho7; rw [← Ny108.out] at ho7)); have n0_ := Aside0.mk (Kd.R_lower ho7 (below_size (by repeat (first | (with_reducible first | exact HB.out | apply below_alloc | apply pw_below_drewN | apply below_drew1) | exact HB.out)))); have n1_ := Aside0.mk (below_step (by repeat (first | (with_reducible first | exact HB.out | apply below_alloc | apply pw_below_drewN | apply below_drew1) | exact HB.out)) hb); clear HB; have HO110 := n0_; have HB := n1_; clear n0_ n1_; clear hb ho7; have hcv8 := own_string (P := Try.prog) Try.underlying27 Try.underlying5 Try.underlying9 (Kd.own_of_R HO110.out)))
          go_roundg k1
          case measure => have := HK1.out; omega
          case rel => exact ⟨(x7_1 ++ (strOfNums y108)), (wrap64 (x19_1 + 1)), (by first | rfl | (simp; done) | (simp [*]; done)), (by first | rfl | (simp; done) | (simp [*]; done)), H', ⟨by have := HK1.out; omega⟩, ⟨by repeat (first | (with_reducible first | exact HB.out | apply below_alloc | apply pw_below_drewN | apply below_drew1) | exact HB.out)⟩⟩
        · rw [if_neg c5] at H
          exact absurd H (by simp)
      · rw [if_neg c4] at H
        have c4b0 : decide (x19_1 < (wrap64 (Int.tmod (IntKind.u64.wrap (a1)) 50))) = false := decide_eq_false c4
        clear c4
        have H' := Aside0.mk H
        clear H
        go_wp2
        go_loopg [8, 28] k1 (fun kq v8 v28 w' => ∃ (x8_2 : ByteArray) (x28_2 : Int), v8 = .string x8_2 ∧ v28 = .int .i64 x28_2 ∧ Aside0 (starlinglaw7_SpotLengths.l1 kq a0 (wrap64 (Int.tmod (IntKind.u64.wrap (a1)) 50)) (wrap64 (Int.tmod (IntKind.u64.wrap (a2)) 50)) x7_1 x8_2 (wrap64 (Int.tmod (IntKind.u64.wrap (a2)) 50)) x28_2 = some r) ∧ Aside0 (kq ≤ k1) ∧ Aside0 (Below w.heap.size w w'))
        case atStart => exact ⟨((⟨#[]⟩ : ByteArray)), (0), (by first | rfl | (simp; done) | (simp [*]; done)), (by first | rfl | (simp; done) | (simp [*]; done)), H', ⟨Nat.le_refl _⟩, ⟨by repeat (first | (with_reducible first | exact HB.out | apply below_alloc | apply pw_below_drewN | apply below_drew1) | exact HB.out)⟩⟩
        case round =>
          clear H'
          try clear p2
          try clear c4
          try clear c4b0
          try clear c5
          try clear c5b0
          try clear c5b1
          try clear c5b2
          try clear c6
          try clear p6
          try clear hcv8
          try clear p2
          obtain ⟨x8_2, x28_2, rfl, rfl, HA, HK2, HB⟩ := hrel
          cases gk with
          | zero => exact absurd HA.out (by simp [starlinglaw7_SpotLengths.l1])
          | succ k2 =>
            have H := HA.out
            clear HA
            simp only [starlinglaw7_SpotLengths.l1] at H
            by_cases c9 : x28_2 < (wrap64 (Int.tmod (IntKind.u64.wrap (a2)) 50))
            · rw [if_pos c9] at H
              have c9b0 : decide (x28_2 < (wrap64 (Int.tmod (IntKind.u64.wrap (a2)) 50))) = true := decide_eq_true c9
              clear c9
              obtain ⟨y111, hy111⟩ : ∃ y_ : List Int, y_ = (([a0] : List Int)) := ⟨_, rfl⟩
              replace H : (if x8_2.size + (strOfNums y111).size ≤ 9223372036854775807 then (starlinglaw7_SpotLengths.l1 k2 a0 (wrap64 (Int.tmod (IntKind.u64.wrap (a1)) 50)) (wrap64 (Int.tmod (IntKind.u64.wrap (a2)) 50)) x7_1 (x8_2 ++ (strOfNums y111)) (wrap64 (Int.tmod (IntKind.u64.wrap (a2)) 50)) (wrap64 (x28_2 + 1))) else (none)) = some r := by first | (rw [hy111]; with_reducible exact H) | (have H2_ := (Option.bind_some _ _).symm.trans H; rw [hy111]; with_reducible exact H2_) | (have H2_ := (Option.bind_some _ _).symm.trans H; with_reducible exact H2_) | with_reducible exact H | (rw [hy111]; exact H) | exact H
              have Ny111 := Aside0.mk hy111
              clear hy111
              by_cases c10 : x8_2.size + (strOfNums y111).size ≤ 9223372036854775807
              · rw [if_pos c10] at H
                have c10b0 := eq_true c10
                have c10b1 : decide (x8_2.size + (strOfNums y111).size ≤ 9223372036854775807) = true := decide_eq_true c10
                try have c10b2 : (9223372036854775807 < x8_2.size + (strOfNums y111).size) = False := eq_false (Nat.not_lt.2 c10)
                have H' := Aside0.mk H
                clear H
                go_wp2_with (first | ((with_reducible refine gate_dst (N := 32) rfl ?_); refine Kd.R_lit (Kd.int .u8) _ 5 ?hg (N := 32) ?hd (xs := ([a0] : List Int)) (inner := [.int .u8 a0]) (ok := fun _ => True) (okp := fun _ => True) ?hr ?hp (fun _ hk => hk) trivial (Below.refl _ _) (Nat.le_refl _) (by simp) ?_; (case hd => rfl); (case hg => rfl); (case hr => first | (go_simp; done) | (go_simp; rfl)); (case hp => exact (Reps.one (show Kd.M (Kd.int .u8) _ _ _ a0 [.int .u8 a0] from rfl) (Reps.none _ _))); intro v112 w11 ho12 hb hg_ hnew_; clear hg_ hnew_; (first | rw [← Ny111.out] at ho12 | (simp only [Int.reduceToNat] at ho12; rw [← Ny111.out] at ho12)); have n0_ := Aside0.mk (Kd.R_lower ho12 (below_size (by repeat (first | (with_reducible first | exact HB.out | apply below_alloc | apply pw_below_drewN | apply below_drew1) | exact HB.out)))); have n1_ := Aside0.mk (below_step (by repeat (first | (with_reducible first | exact HB.out | apply below_alloc | apply pw_below_drewN | apply below_drew1) | exact HB.out)) hb); clear HB; have HO113 := n0_; have HB := n1_; clear n0_ n1_; clear hb ho12; have hcv13 := own_string (P := Try.prog) Try.underlying27 Try.underlying5 Try.underlying9 (Kd.own_of_R HO113.out)))
                go_roundg k2
                case measure => have := HK1.out; have := HK2.out; omega
                case rel => exact ⟨(x8_2 ++ (strOfNums y111)), (wrap64 (x28_2 + 1)), (by first | rfl | (simp; done) | (simp [*]; done)), (by first | rfl | (simp; done) | (simp [*]; done)), H', ⟨by have := HK1.out; have := HK2.out; omega⟩, ⟨by repeat (first | (with_reducible first | exact HB.out | apply below_alloc | apply pw_below_drewN | apply below_drew1) | exact HB.out)⟩⟩
              · rw [if_neg c10] at H
                exact absurd H (by simp)
            · rw [if_neg c9] at H
              have c9b0 : decide (x28_2 < (wrap64 (Int.tmod (IntKind.u64.wrap (a2)) 50))) = false := decide_eq_false c9
              clear c9
              have HC14 := Aside0.mk H
              clear H
              go_upto_region 11 with (fail)
              go_cut [9] (fun v9 wc => ∃ (kq : Nat) (x9_13 : Bool), v9 = .bool x9_13 ∧ Aside0 (starlinglaw7_SpotLengths.j2 kq (wrap64 (Int.tmod (IntKind.u64.wrap (a1)) 50)) (wrap64 (Int.tmod (IntKind.u64.wrap (a2)) 50)) x7_1 x8_2 x9_13 = some r) ∧ Aside0 (kq ≤ k2) ∧ Aside0 (Below w.heap.size w wc))
              case first =>
                have H := HC14.out
                clear HC14
                by_cases c15 : (wrap64 (Int.tmod (IntKind.u64.wrap (a1)) 50)) ≥ 1
                · rw [if_pos c15] at H
                  have c15b0 : decide (1 ≤ (wrap64 (Int.tmod (IntKind.u64.wrap (a1)) 50))) = true := decide_eq_true c15
                  clear c15
                  (first | rw [c15b0] | (simp only [i64_w, i32_w]; rw [c15b0]) | skip)
                  have H' := Aside0.mk H
                  clear H
                  go_wp2
                  go_meet
                  case rel => exact ⟨_, (decide ((wrap64 (Int.tmod (IntKind.u64.wrap (a1)) 50)) ≤ 32)), (by first | rfl | (simp; done) | (simp [*]; done)), H', ⟨by have := HK1.out; have := HK2.out; first | omega | exact Nat.le_refl _⟩, ⟨by repeat (first | (with_reducible first | exact HB.out | apply below_alloc | apply pw_below_drewN | apply below_drew1) | exact HB.out)⟩⟩
                · rw [if_neg c15] at H
                  have c15b0 : decide (1 ≤ (wrap64 (Int.tmod (IntKind.u64.wrap (a1)) 50))) = false := decide_eq_false c15
                  clear c15
                  (first | rw [c15b0] | (simp only [i64_w, i32_w]; rw [c15b0]) | skip)
                  have H' := Aside0.mk H
                  clear H
                  go_wp2
                  go_meet
                  case rel => exact ⟨_, (false), (by first | rfl | (simp; done) | (simp [*]; done)), H', ⟨by have := HK1.out; have := HK2.out; first | omega | exact Nat.le_refl _⟩, ⟨by repeat (first | (with_reducible first | exact HB.out | apply below_alloc | apply pw_below_drewN | apply below_drew1) | exact HB.out)⟩⟩
              case rest =>
                clear HC14
                try clear c1
                try clear hcv1
                try clear p2
                try clear c4
                try clear c4b0
                try clear c5
                try clear c5b0
                try clear c5b1
                try clear c5b2
                try clear c6
                try clear p6
                try clear hcv8
                try clear c9
                try clear c9b0
                try clear c10
                try clear c10b0
                try clear c10b1
                try clear c10b2
                try clear hcv13
                try clear c15
                try clear c15b0
                try clear p2
                try clear p6
                obtain ⟨kq, x9_13, rfl, HA, HJ13, HB⟩ := hcut
                cases kq with
                | zero => exact absurd HA.out (by simp [starlinglaw7_SpotLengths.j2])
                | succ kj13 =>
                  have H := HA.out
                  clear HA
                  simp only [starlinglaw7_SpotLengths.j2] at H
                  replace H := Option.bind_eq_some_iff.mp H
                  obtain ⟨t114, A160, H⟩ := H
                  replace H : (if (t114 == x9_13) = true then ((spot_Of.f kj13 x7_1).bind fun t115 => (if ((decide (t115 ≥ 0)) == x9_13) = true then (if (wrap64 (Int.tmod (IntKind.u64.wrap (a1)) 50)) = (wrap64 (Int.tmod (IntKind.u64.wrap (a2)) 50)) then ((spot_Hash.f kj13 x7_1).bind fun t116 => ((spot_Hash.f kj13 x8_2).bind fun t117 => (if t116 = t117 then ((starlinglaw7_awake.f kj13).bind fun t118 => (some t118)) else (some false)))) else ((starlinglaw7_awake.f kj13).bind fun t119 => (some t119))) else (some false))) else (some false)) = some r := H
                  have A16 := Aside0.mk A160
                  clear A160
                  by_cases c17 : (t114 == x9_13) = true
                  · rw [if_pos c17] at H
                    have c17b0 : (t114 == x9_13) = true := c17
                    (try (have c17b1 : decide (t114 = x9_13) = true := by simpa using c17))
                    (try (have c17b2 : (t114 == x9_13) = true := by simpa using c17))
                    clear c17
                    replace H := Option.bind_eq_some_iff.mp H
                    obtain ⟨t115, A180, H⟩ := H
                    replace H : (if ((decide (t115 ≥ 0)) == x9_13) = true then (if (wrap64 (Int.tmod (IntKind.u64.wrap (a1)) 50)) = (wrap64 (Int.tmod (IntKind.u64.wrap (a2)) 50)) then ((spot_Hash.f kj13 x7_1).bind fun t116 => ((spot_Hash.f kj13 x8_2).bind fun t117 => (if t116 = t117 then ((starlinglaw7_awake.f kj13).bind fun t118 => (some t118)) else (some false)))) else ((starlinglaw7_awake.f kj13).bind fun t119 => (some t119))) else (some false)) = some r := H
                    have A18 := Aside0.mk A180
                    clear A180
                    by_cases c19 : ((decide (t115 ≥ 0)) == x9_13) = true
                    · rw [if_pos c19] at H
                      have c19b0 : ((decide (t115 ≥ 0)) == x9_13) = true := c19
                      (try (have c19b1 : decide ((decide (t115 ≥ 0)) = x9_13) = true := by simpa using c19))
                      (try (have c19b2 : ((decide (t115 ≥ 0)) == x9_13) = true := by simpa using c19))
                      clear c19
                      by_cases c20 : (wrap64 (Int.tmod (IntKind.u64.wrap (a1)) 50)) = (wrap64 (Int.tmod (IntKind.u64.wrap (a2)) 50))
                      · rw [if_pos c20] at H
                        have c20b0 : ((wrap64 (Int.tmod (IntKind.u64.wrap (a1)) 50)) == (wrap64 (Int.tmod (IntKind.u64.wrap (a2)) 50))) = true := beq_iff_eq.mpr c20
                        have c20b1 : ((wrap64 (Int.tmod (IntKind.u64.wrap (a1)) 50)) != (wrap64 (Int.tmod (IntKind.u64.wrap (a2)) 50))) = false := bne_eq_false_iff_eq.mpr c20
                        clear c20
                        replace H := Option.bind_eq_some_iff.mp H
                        obtain ⟨t116, A210, H⟩ := H
                        replace H : ((spot_Hash.f kj13 x8_2).bind fun t117 => (if t116 = t117 then ((starlinglaw7_awake.f kj13).bind fun t118 => (some t118)) else (some false))) = some r := H
                        have A21 := Aside0.mk A210
                        clear A210
                        replace H := Option.bind_eq_some_iff.mp H
                        obtain ⟨t117, A220, H⟩ := H
                        replace H : (if t116 = t117 then ((starlinglaw7_awake.f kj13).bind fun t118 => (some t118)) else (some false)) = some r := H
                        have A22 := Aside0.mk A220
                        clear A220
                        by_cases c23 : t116 = t117
                        · rw [if_pos c23] at H
                          have c23b0 : (t116 == t117) = true := beq_iff_eq.mpr c23
                          have c23b1 : (t116 != t117) = false := bne_eq_false_iff_eq.mpr c23
                          clear c23
                          replace H := Option.bind_eq_some_iff.mp H
                          obtain ⟨t118, A240, H⟩ := H
                          replace H : (some t118) = some r := H
                          have A24 := Aside0.mk A240
                          clear A240
                          obtain rfl := Option.some.inj H
                          go_wp2_with (first | ((with_reducible refine gate_callee (f := 8) rfl ?_); refine goesL_ (some 43) rfl rfl Try.func8 (by kernel_rfl) rfl #[.string x7_1] rfl (by (try simp only [List.map_toArray, List.map_cons, List.map_nil]); first | done | rfl | (simp only [List.length_drop, List.length_take]; rfl)) ?_; (with_reducible refine (spot_May.calls x7_1 t114 _ A16.out).mono ?_); rintro e w' ⟨rfl, ⟨nd, rfl⟩⟩; refine ⟨_, rfl, ?_⟩) | (go_at_call 12; (with_reducible refine (spot_Of.calls kj13 x7_1 t115 _ A18.out).mono ?_); rintro e w' ⟨rfl, ⟨nd, rfl⟩⟩) | (go_at_call 10; (with_reducible refine (spot_Hash.calls kj13 x7_1 t116 _ A21.out).mono ?_); rintro e w' ⟨rfl, ⟨nd, rfl⟩⟩) | (go_at_call 10; (with_reducible refine (spot_Hash.calls kj13 x8_2 t117 _ A22.out).mono ?_); rintro e w' ⟨rfl, ⟨nd, rfl⟩⟩) | (go_at_call 7; (with_reducible refine (starlinglaw7_awake.calls kj13  t118 _ A24.out).mono ?_); rintro e w' ⟨rfl, ⟨nd, rfl⟩⟩))
                          go_ret
                          exact ⟨by first | rfl | (simp [errW_none, errW_some] <;> rfl) | (simp [*, errW_none, errW_some] <;> rfl), by repeat (first | (with_reducible first | exact HB.out | apply below_alloc | apply pw_below_drewN | apply below_drew1) | exact HB.out)⟩
                        · rw [if_neg c23] at H
                          have c23b0 : (t116 == t117) = false := beq_eq_false_iff_ne.mpr c23
                          have c23b1 : (t116 != t117) = true := bne_iff_ne.mpr c23
                          obtain rfl := Option.some.inj H
                          go_wp2_with (first | ((with_reducible refine gate_callee (f := 8) rfl ?_); refine goesL_ (some 43) rfl rfl Try.func8 (by kernel_rfl) rfl #[.string x7_1] rfl (by (try simp only [List.map_toArray, List.map_cons, List.map_nil]); first | done | rfl | (simp only [List.length_drop, List.length_take]; rfl)) ?_; (with_reducible refine (spot_May.calls x7_1 t114 _ A16.out).mono ?_); rintro e w' ⟨rfl, ⟨nd, rfl⟩⟩; refine ⟨_, rfl, ?_⟩) | (go_at_call 12; (with_reducible refine (spot_Of.calls kj13 x7_1 t115 _ A18.out).mono ?_); rintro e w' ⟨rfl, ⟨nd, rfl⟩⟩) | (go_at_call 10; (with_reducible refine (spot_Hash.calls kj13 x7_1 t116 _ A21.out).mono ?_); rintro e w' ⟨rfl, ⟨nd, rfl⟩⟩) | (go_at_call 10; (with_reducible refine (spot_Hash.calls kj13 x8_2 t117 _ A22.out).mono ?_); rintro e w' ⟨rfl, ⟨nd, rfl⟩⟩))
                          go_ret
                          exact ⟨by first | rfl | (simp [errW_none, errW_some] <;> rfl) | (simp [*, errW_none, errW_some] <;> rfl), by repeat (first | (with_reducible first | exact HB.out | apply below_alloc | apply pw_below_drewN | apply below_drew1) | exact HB.out)⟩
                      · rw [if_neg c20] at H
                        have c20b0 : ((wrap64 (Int.tmod (IntKind.u64.wrap (a1)) 50)) == (wrap64 (Int.tmod (IntKind.u64.wrap (a2)) 50))) = false := beq_eq_false_iff_ne.mpr c20
                        have c20b1 : ((wrap64 (Int.tmod (IntKind.u64.wrap (a1)) 50)) != (wrap64 (Int.tmod (IntKind.u64.wrap (a2)) 50))) = true := bne_iff_ne.mpr c20
                        replace H := Option.bind_eq_some_iff.mp H
                        obtain ⟨t119, A250, H⟩ := H
                        replace H : (some t119) = some r := H
                        have A25 := Aside0.mk A250
                        clear A250
                        obtain rfl := Option.some.inj H
                        go_wp2_with (first | ((with_reducible refine gate_callee (f := 8) rfl ?_); refine goesL_ (some 43) rfl rfl Try.func8 (by kernel_rfl) rfl #[.string x7_1] rfl (by (try simp only [List.map_toArray, List.map_cons, List.map_nil]); first | done | rfl | (simp only [List.length_drop, List.length_take]; rfl)) ?_; (with_reducible refine (spot_May.calls x7_1 t114 _ A16.out).mono ?_); rintro e w' ⟨rfl, ⟨nd, rfl⟩⟩; refine ⟨_, rfl, ?_⟩) | (go_at_call 12; (with_reducible refine (spot_Of.calls kj13 x7_1 t115 _ A18.out).mono ?_); rintro e w' ⟨rfl, ⟨nd, rfl⟩⟩) | (go_at_call 7; (with_reducible refine (starlinglaw7_awake.calls kj13  t119 _ A25.out).mono ?_); rintro e w' ⟨rfl, ⟨nd, rfl⟩⟩))
                        go_ret
                        exact ⟨by first | rfl | (simp [errW_none, errW_some] <;> rfl) | (simp [*, errW_none, errW_some] <;> rfl), by repeat (first | (with_reducible first | exact HB.out | apply below_alloc | apply pw_below_drewN | apply below_drew1) | exact HB.out)⟩
                    · rw [if_neg c19] at H
                      have c19b0 : ((decide (t115 ≥ 0)) == x9_13) = false := by simpa using c19
                      (try (have c19b1 : decide ((decide (t115 ≥ 0)) = x9_13) = false := by simpa using c19))
                      (try (have c19b2 : ((decide (t115 ≥ 0)) == x9_13) = false := by simpa using c19))
                      (try (have c19b3 : ¬ ((decide (t115 ≥ 0)) = x9_13) := by simpa using c19))
                      clear c19
                      obtain rfl := Option.some.inj H
                      go_wp2_with (first | ((with_reducible refine gate_callee (f := 8) rfl ?_); refine goesL_ (some 43) rfl rfl Try.func8 (by kernel_rfl) rfl #[.string x7_1] rfl (by (try simp only [List.map_toArray, List.map_cons, List.map_nil]); first | done | rfl | (simp only [List.length_drop, List.length_take]; rfl)) ?_; (with_reducible refine (spot_May.calls x7_1 t114 _ A16.out).mono ?_); rintro e w' ⟨rfl, ⟨nd, rfl⟩⟩; refine ⟨_, rfl, ?_⟩) | (go_at_call 12; (with_reducible refine (spot_Of.calls kj13 x7_1 t115 _ A18.out).mono ?_); rintro e w' ⟨rfl, ⟨nd, rfl⟩⟩))
                      go_ret
                      exact ⟨by first | rfl | (simp [errW_none, errW_some] <;> rfl) | (simp [*, errW_none, errW_some] <;> rfl), by repeat (first | (with_reducible first | exact HB.out | apply below_alloc | apply pw_below_drewN | apply below_drew1) | exact HB.out)⟩
                  · rw [if_neg c17] at H
                    have c17b0 : (t114 == x9_13) = false := by simpa using c17
                    (try (have c17b1 : decide (t114 = x9_13) = false := by simpa using c17))
                    (try (have c17b2 : (t114 == x9_13) = false := by simpa using c17))
                    (try (have c17b3 : ¬ (t114 = x9_13) := by simpa using c17))
                    clear c17
                    obtain rfl := Option.some.inj H
                    go_wp2_with (first | ((with_reducible refine gate_callee (f := 8) rfl ?_); refine goesL_ (some 43) rfl rfl Try.func8 (by kernel_rfl) rfl #[.string x7_1] rfl (by (try simp only [List.map_toArray, List.map_cons, List.map_nil]); first | done | rfl | (simp only [List.length_drop, List.length_take]; rfl)) ?_; (with_reducible refine (spot_May.calls x7_1 t114 _ A16.out).mono ?_); rintro e w' ⟨rfl, ⟨nd, rfl⟩⟩; refine ⟨_, rfl, ?_⟩))
                    go_ret
                    exact ⟨by first | rfl | (simp [errW_none, errW_some] <;> rfl) | (simp [*, errW_none, errW_some] <;> rfl), by repeat (first | (with_reducible first | exact HB.out | apply below_alloc | apply pw_below_drewN | apply below_drew1) | exact HB.out)⟩

/-- THE ONE PURE STATEMENT of starlinglaw7_SpotLengths: yours. -/
def starlinglaw7_SpotLengths.Pure : Prop := ∀ (a0 : Int) (a1 : Int) (a2 : Int), (Lit.int .u8 a0).wf = true → (Lit.int .i64 a1).wf = true → (Lit.int .i64 a2).wf = true → ∃ k, starlinglaw7_SpotLengths.f k a0 a1 a2 = some true
theorem starlinglaw7_SpotLengths.walk (P : starlinglaw7_SpotLengths.Pure) (a0 : Int) (a1 : Int) (a2 : Int) (w : World) (w0 : (Lit.int .u8 a0).wf = true) (w1 : (Lit.int .i64 a1).wf = true) (w2 : (Lit.int .i64 a2).wf = true) :
    Calls Try.prog 6 #[.int .u8 a0, .int .i64 a1, .int .i64 a2] w fun e w' => e = .returned (.bool true) ∧ Below w.heap.size w w' := by
  obtain ⟨k, h⟩ := P a0 a1 a2 w0 w1 w2
  refine (starlinglaw7_SpotLengths.calls k a0 a1 a2 true w h).mono ?_
  rintro e w' ⟨rfl, hd⟩
  exact ⟨rfl, hd⟩

end Go.Proofs.Ytblhbkpagombiaa.PSpotLengths

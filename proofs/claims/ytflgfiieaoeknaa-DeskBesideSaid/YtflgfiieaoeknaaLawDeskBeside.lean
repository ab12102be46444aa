/- 'starlinglaw22.DeskBeside' returns true for every key and every row of texts, which reads behind it as it read before: puts that know nothing stand beside one another; one that knows all stands alone. Without further conditions. -/
import Derived.Test.YtflgfiieaoeknaaRows
import Derived.Test.YtflgfiieaoeknaaV7
import Derived.Test.YtflgfiieaoeknaaAW21
import Derived.WalkKit
import Derived.ProofKit
import Derived.ChangeOld
namespace Go.Proofs.YtflgfiieaoeknaaA
open Go
set_option linter.unusedSimpArgs false
set_option linter.unusedVariables false
set_option maxRecDepth 1000000
attribute [local simp] vec_zero bagV_zero

@[simp] theorem k21 {H : Heap} {K : AV → Heap → Prop} : wPu envE 21 (some []) H K = K (.bool true) H := run_pu e21 rfl (fun _ => rfl) awake21
def valsOf (texts : List (List UInt8)) (i : Nat) : List Val := (List.range i).map fun j => ⟨1, ((j + 1 : Nat) : Int), texts.getD j []⟩
theorem valsOf_len {texts : List (List UInt8)} {i : Nat} : (valsOf texts i).length = i := by simp [valsOf]
theorem valsOf_succ {texts : List (List UInt8)} {i : Nat} (hi : i < texts.length) : valsOf texts (i + 1) = valsOf texts i ++ [⟨1, (i : Int) + 1, texts[i]⟩] := by
  simp [valsOf, List.range_succ, hi]
structure Bes (s : VSt) (key : List UInt8) (texts : List (List UInt8)) (i : Nat) : Prop where
  ok : VOk s
  ring : s.ring = firstR 1
  rings : s.rings = 1
  dots : s.dots = i
  dsl : s.ds.length = i + 1
  room : s.room = 60
  may : bagMay (bagOf s key).known (bagOf s key).vals = true
  k1 : (bagOf s key).known 1 = i
  vals : (bagOf s key).vals = valsOf texts i
  few : s.bags.length ≤ 1
theorem setB_few {l : List (List UInt8 × Bag)} {key : List UInt8} {x : Bag} {n : Nat} (h : l.length ≤ n) : (setB l key x).length ≤ n + 1 := by
  rw [setB_len]
  split <;> omega
theorem Bes.own {s : VSt} {key : List UInt8} {texts : List (List UInt8)} {i : Nat} (h : Bes s key texts i) (hk : keyOk key = true) : ownsO s 1 key = ⟨1, 0⟩ := by
  have h1 : ¬ ((1 : Int) < 0 ∨ 8 ≤ (1 : Int) ∨ keyOk key = false) := by simp [hk]
  have hp := spot_ok hk
  have := first_owner 1 (by omega) (spotF key).toNat (by omega)
  rw [show (((spotF key).toNat : Nat) : Int) = spotF key from by omega] at this
  unfold ownsO
  rw [if_neg h1, if_neg (by rw [h.rings]; simp), if_pos (by rw [h.ring]; exact this)]
theorem below_vals {texts : List (List UInt8)} {i : Nat} : ∀ u ∈ valsOf texts i, below 1 ((i : Int) + 1) u = true := fun u hu => by
  simp only [valsOf, List.mem_map, List.mem_range] at hu
  obtain ⟨j, hj, rfl⟩ := hu
  simp [below, decide_eq_true_eq, dot_neg]
  omega
theorem one_lookup {s : VSt} {key : List UInt8} (h : s.bags.length ≤ 1) : fullS s key = false := by
  have : ¬ 200 ≤ s.bags.length := by omega
  simp [fullS, this]
theorem withV_one {k : Nat → Int} {c : Int} (h : k 1 ≤ c) : withV k 1 c 1 = c := by
  have e : nodeOk 1 = true := rfl
  have e2 : (1 : Int).toNat = 1 := rfl
  unfold withV
  rw [if_pos e, e2, upd, if_pos rfl]
  omega
theorem Bes.put {s : VSt} {key : List UInt8} {texts : List (List UInt8)} {i : Nat} (h : Bes s key texts i) (hk : keyOk key = true) (hi : i < texts.length) (h20 : texts.length ≤ 20) (h64 : texts[i].length ≤ 64) (hb1 : s.bags.length ≤ 1) (hone : s.bags = [] ∨ (lookB s.bags key).isSome = true) :
    ∃ s', putO s 1 key zeroV texts[i] = ⟨1, (i : Int) + 1, 0, s'⟩ ∧ Bes { s' with sure := s'.ds.length } key texts (i + 1) ∧ (lookB s'.bags key).isSome = true := by
  have hL : (bagOf s key).vals.length = i := by rw [h.vals, valsOf_len]
  have hput : putL (bagOf s key).vals zeroV 1 ((i : Int) + 1) texts[i] = valsOf texts (i + 1) := by
    rw [putL, kept_zero, valsOf_succ hi, h.vals]
    exact insV_end below_vals
  have he : putE (bagOf s key).known (bagOf s key).vals zeroV 1 (s.dots + 1) texts[i] = 0 := by
    rw [h.dots]
    refine putE_ok h.may (by decide) ?_ ?_ h64 ?_
    · rw [dotOk_iff]; omega
    · rw [Bool.eq_false_iff, Ne, has_iff]
      intro q
      have e : (1 : Int).toNat = 1 := rfl
      rw [e, h.k1] at q
      omega
    · rw [hput, valsOf_len]; omega
  obtain ⟨s', e1, w⟩ := putO_ok hk (by omega) (by omega) (by rw [h.dots]; omega) (by rw [h.dots]; omega) (one_lookup hb1) he (by rw [h.dsl, h.room]; omega)
  obtain ⟨m1, m2, m3, m4⟩ := put_ok he
  rw [h.dots] at e1
  have hok' := (h.ok.put (node := 1) (key := key) (known := zeroV) (data := texts[i])).sync
  rw [e1] at hok'
  refine ⟨s', e1, ⟨hok', by rw [show ({ s' with sure := s'.ds.length } : VSt).ring = s'.ring from rfl, w.ring, h.ring], by rw [show ({ s' with sure := s'.ds.length } : VSt).rings = s'.rings from rfl, w.rings, h.rings], ?_, ?_, ?_, ?_, ?_, ?_, ?_⟩, ?_⟩
  · show s'.dots = _
    rw [w.dots, h.dots]; omega
  · show s'.ds.length = _
    rw [w.ds, h.dsl]
  · show s'.room = _
    rw [w.room, h.room]
  · show bagMay (bagOf s' key).known (bagOf s' key).vals = true
    rw [w.bag]
    exact m4
  · show (bagOf s' key).known 1 = _
    rw [w.bag]
    simp only
    rw [m2, h.dots, withV_one]
    · omega
    · simp only [joinV, zeroV, h.k1]; omega
  · show (bagOf s' key).vals = _
    rw [w.bag]
    simp only
    rw [m3, h.dots, hput]
  · show s'.bags.length ≤ 1
    rw [w.bags, setB_len]
    rcases hone with q | q
    · rw [q]; simp [lookB]
    · rw [if_pos q]; exact hb1
  · rw [w.bags, lookB_set]
    simp
theorem Bes.last {s : VSt} {key : List UInt8} {texts : List (List UInt8)} {n : Nat} (h : Bes s key texts n) (hk : keyOk key = true) (h20 : n ≤ 20) :
    ∃ s', putO s 1 key (bagOf s key).known [108, 97, 115, 116] = ⟨1, (n : Int) + 1, 0, s'⟩ ∧ (bagOf s' key).vals = [⟨1, (n : Int) + 1, [108, 97, 115, 116]⟩] ∧ s'.ring = firstR 1 ∧ s'.rings = 1 ∧ VOk s' := by
  obtain ⟨b1, b2, b3, b4⟩ := bagMay_iff.1 h.may
  have hkept : keptL (bagOf s key).known (bagOf s key).vals = [] := by
    rw [keptL, List.filter_eq_nil_iff]
    intro v hv
    have := (valMay_iff.1 (b3 v hv)).1
    simp [this]
  have hput : putL (bagOf s key).vals (bagOf s key).known 1 ((n : Int) + 1) [108, 97, 115, 116] = [⟨1, (n : Int) + 1, [108, 97, 115, 116]⟩] := by
    rw [putL, hkept]
    rfl
  have he : putE (bagOf s key).known (bagOf s key).vals (bagOf s key).known 1 (s.dots + 1) [108, 97, 115, 116] = 0 := by
    rw [h.dots]
    refine putE_ok h.may b1 ?_ ?_ (by simp) ?_
    · rw [dotOk_iff]; omega
    · rw [Bool.eq_false_iff, Ne, has_iff]
      intro q
      have e : (1 : Int).toNat = 1 := rfl
      rw [e, h.k1] at q
      omega
    · rw [hput]; simp
  obtain ⟨s', e1, w⟩ := putO_ok hk (by omega) (by omega) (by rw [h.dots]; omega) (by rw [h.dots]; omega) (one_lookup h.few) he (by rw [h.dsl, h.room]; omega)
  obtain ⟨m1, m2, m3, m4⟩ := put_ok he
  rw [h.dots] at e1
  have hok' := (h.ok.put (node := 1) (key := key) (known := (bagOf s key).known) (data := [108, 97, 115, 116]))
  rw [e1] at hok'
  refine ⟨s', e1, ?_, by rw [w.ring, h.ring], by rw [w.rings, h.rings], hok'⟩
  rw [w.bag]
  simp only
  rw [m3, h.dots, hput]
theorem cut_in {l : List Val} {i o n : Nat} (hi : i < l.length) (h : o + n ≤ 3) : cut (l.flatMap valC) (i * 3 + o) n = cut (valC l[i]) o n := by
  rw [← flat_cut valC_len hi h]
  unfold Go.Proofs.YtflgfiieaoeknaaA.cut
  have e1 : ((l.flatMap valC).drop (i * 3)).length = (l.flatMap valC).length - i * 3 := List.length_drop ..
  have e2 := flatMap_len valC_len l
  have e3 : i * 3 + 3 ≤ l.length * 3 := by omega
  rw [if_pos (by omega), if_pos (by rw [e1]; omega), List.drop_drop]
theorem row_sl {H : Heap} {lim : Nat} {l : List Val} {q : AV} (h : Row lim H 3 valC l q) (hn : 0 < l.length) : ∃ b, q = .sl b 0 l.length 3 ∧ ∀ Z, Heap.cells? (H ++ Z) b = some (l.flatMap valC) := by
  rcases h with ⟨rfl, _⟩ | ⟨_, b, _, rfl, h3⟩
  · simp at hn
  · exact ⟨b, rfl, fun Z => cells_of (get_app h3)⟩
set_option maxHeartbeats 4000000 in
theorem deskBeside_pu (key : List UInt8) (texts : List (List UInt8)) (hl : texts.length < 4611686018427387904) : Pu envE 5 [.str key, roL strC texts] (.bool true) := by
  refine pu_is e5 rfl ?_
  cases hk : keyOk key
  · rw [fr_init (by simp [fd5])]
    simp [fd5, b5, hk]
  by_cases h20 : (20 : Int) < texts.length
  · rw [fr_init (by simp [fd5])]
    simp [fd5, b5, hk, h20]
  have h20' : texts.length ≤ 20 := by omega
  have nr : ∀ K, WCl envE 13 [I 60] 0 [] K = K (.ptr (some (0, 0))) [.cells false [.nilsl, I 0, I 60]] := fun K => new_room (room := 60) (H := []) (lim := 0) (K := K) (by omega) (by omega)
  have hover : ∀ {st ep ow : Nat → Int} {ver by' : Int} {q : AV} (l : List AV), l.length = 43 → setFrom l 0 (ringV st ver by' q ep ow) = ringV st ver by' q ep ow := fun l hl => setFrom_all _ _ (by rw [hl, ringV_len])
  have hk22 : ∀ H K, wPu envE 22 (some [I 1]) H K = K (.tup [.agg (ringV (firstR 1).status 0 0 .nilsl (firstR 1).epoch (firstR 1).owner), .bool true]) H := fun H K => k22 (n := 1) (by omega)
  have ok0 := empty_ok (room := 60) (by omega) (by omega)
  have w0 : writeE (ringD (firstR 1)) (emptyS 60).ds (emptyS 60).room = 0 := write_ok (ringD_may (first_may 1 (by omega))) (by simp [emptyS])
  have B0 : Bes (wroteS (emptyS 60) (ringD (firstR 1))) key texts 0 ∧ (wroteS (emptyS 60) (ringD (firstR 1))).bags = [] := by
    have ok1 := ok0.wrote (d := ringD (firstR 1)) ⟨Nat.zero_le _, Nat.zero_le _⟩
    refine ⟨⟨ok1, ?_, ?_, ?_, ?_, ?_, ?_, ?_, ?_, ?_⟩, ?_⟩
    all_goals
      rw [wroteS, if_pos w0]
      first
        | rfl
        | simp [countS, ringD, emptyS]
  obtain ⟨B0, bn0⟩ := B0
  rw [fr_init (by simp [fd5])]
  simp [fd5, b5, hk, h20, nr]
  refine open_new 60 [] (by omega) (by omega) ?_
  intro X hv
  simp only [List.nil_append, List.length_nil, Nat.zero_add] at hv ⊢
  have hv1 := hv.app (X := [.cells false (ringV (firstR 1).status 0 0 .nilsl (firstR 1).epoch (firstR 1).owner)])
  simp [hk22, hover]
  refine WCl.mono (c24 hv1 ok0 (firstR 1) .nilsl (.inl .nil) (Nat.zero_le _)) ?_
  rintro _ H2 ⟨rfl, hs2⟩
  obtain ⟨k2, v2, q2, es2, ck2, hv2⟩ := hs2
  simp
  refine loop_go [0, 1, 5, 43, 44, 45] rfl (fun m vs H => ∃ i s, m + i = texts.length ∧ (∃ v q es ck, Vlt H 2 0 1 s v q es ck) ∧ Bes s key texts i ∧ (s.bags = [] ∨ (lookB s.bags key).isSome = true) ∧ vs = [.str key, roL strC texts, .ptr (some (2, 0)), roL strC texts, I texts.length, I i]) ?_ texts.length ⟨0, _, rfl, ⟨_, _, _, _, hv2⟩, B0, .inl bn0, rfl⟩
  rintro J hJ m vs H f ⟨i, s, hm, ⟨v, q, es, ck, hv⟩, hB, hone, rfl⟩
  by_cases hi : i < texts.length
  · have hw := wrap_succ (i := i) (by omega)
    have hld := str_load hi (H := H)
    obtain ⟨t, ht⟩ : ∃ t, t = texts[i] := ⟨_, rfl⟩
    rw [← ht] at hld
    by_cases h64 : (64 : Int) < t.length
    · simp [lp5_0, hi, idxSl_roL hi, hld, h64, -load_tp]
    have h64' : texts[i].length ≤ 64 := by rw [← ht]; omega
    obtain ⟨s', e1, hB', hsome⟩ := hB.put hk hi h20' h64' hB.few hone
    rw [← ht] at e1
    have hown := hB.own hk
    have hD : deskO s 1 key zeroV t = ⟨1, (i : Int) + 1, 1, 0, { s' with sure := s'.ds.length }⟩ := by simp [deskO, hown, e1]
    have hput := c25 hv hB.ok 1 key zeroV t
    rw [hD] at hput
    simp [lp5_0, hi, idxSl_roL hi, hld, h64, -load_tp]
    refine WCl.mono hput ?_
    rintro _ H3 ⟨rfl, k3, v3, q3, es3, ck3, hv3⟩
    have hv4 := hv3.app (X := [.cells false [I 1, I ((i : Int) + 1)]])
    simp [-load_tp]
    refine WCl.mono (c26 hv4 hB'.ok 1 key 0 (Nat.zero_le _)) ?_
    rintro _ _ ⟨Y, q', rfl, rfl, hq⟩
    rw [hB'.own hk] at hq ⊢
    simp only [if_true, hB'.vals] at hq
    have hvl : (valsOf texts (i + 1)).length = i + 1 := valsOf_len
    obtain ⟨b, rfl, cq⟩ := row_sl hq (by rw [hvl]; omega)
    have hgi : (valsOf texts (i + 1))[i]'(by rw [hvl]; omega) = ⟨1, (i : Int) + 1, t⟩ := by
      simp [valsOf, hi, ht]
    have hc := cut_in (l := valsOf texts (i + 1)) (i := i) (o := 2) (n := 1) (by rw [hvl]; omega) (by omega)
    rw [hgi] at hc
    have hc2 : cut (valC ⟨1, (i : Int) + 1, t⟩) 2 1 = some [.str t] := rfl
    rw [hc2] at hc
    rw [hvl]
    have b5 : ∀ Z, Heap.cells? (H3 ++ .cells false [I 1, I ((i : Int) + 1)] :: Z) H3.length = some [I 1, I ((i : Int) + 1)] := fun Z => by simp [Heap.cells?]
    simp only [List.append_assoc, List.cons_append, List.nil_append] at cq
    have hix : idxSlAV 3 (I i) (.sl b 0 (i + 1) 3) = some (.ptr (some (b, 0 + i * 3))) := idxSl_sl (by omega)
    rw [Nat.zero_add] at hix
    have hw' : IntKind.i64.wrap ((i : Int) + 1) = (i : Int) + 1 := by rw [hw]; simp
    simp [hw', b5, hix, cq, hc, -load_tp]
    exact nxt hJ (m - 1) (by omega) ⟨i + 1, _, by omega, ⟨v3, q3, es3, ck3, by simpa using hv4.app⟩, hB', .inr hsome, rfl⟩
  · obtain rfl : i = texts.length := by omega
    obtain ⟨s', e1, e2, e3, e4, ok'⟩ := hB.last hk h20'
    have hown := hB.own hk
    have hD : deskO s 1 key (bagOf s key).known [108, 97, 115, 116] = ⟨1, (texts.length : Int) + 1, 1, 0, { s' with sure := s'.ds.length }⟩ := by simp [deskO, hown, e1]
    have ho2 : ownsO { s' with sure := s'.ds.length } 1 key = ⟨1, 0⟩ := by
      have h1 : ¬ ((1 : Int) < 0 ∨ 8 ≤ (1 : Int) ∨ keyOk key = false) := by simp [hk]
      have hp := spot_ok hk
      have := first_owner 1 (by omega) (spotF key).toNat (by omega)
      rw [show (((spotF key).toNat : Nat) : Int) = spotF key from by omega] at this
      unfold ownsO
      rw [if_neg h1, if_neg (by simp [e4]), if_pos (by simp only [e3]; exact this)]
    simp [lp5_0]
    refine WCl.mono (c26 hv hB.ok 1 key 0 (Nat.zero_le _)) ?_
    rintro _ _ ⟨Y, q', rfl, rfl, hq⟩
    rw [hown] at hq ⊢
    simp only [if_true] at hq ⊢
    have hqo := hq.one
    have hv5 := (hv.app (X := Y)).app (X := [.cells false (bagV (bagOf s key).known q')])
    simp [hqo]
    rw [← List.append_assoc]
    have hput := c25 hv5 hB.ok 1 key (bagOf s key).known [108, 97, 115, 116]
    rw [hD] at hput
    refine WCl.mono hput ?_
    rintro _ H6 ⟨rfl, k6, v6, q6, es6, ck6, hv6⟩
    have hv7 := hv6.app (X := [.cells false [I 1, I ((texts.length : Int) + 1)]])
    simp
    refine WCl.mono (c26 hv7 ok'.sync 1 key 0 (Nat.zero_le _)) ?_
    rintro _ _ ⟨Z, r', rfl, rfl, hr⟩
    rw [ho2] at hr ⊢
    have hbv : (bagOf { s' with sure := s'.ds.length } key).vals = [⟨1, (texts.length : Int) + 1, [108, 97, 115, 116]⟩] := e2
    simp only [if_true, hbv] at hr ⊢
    obtain ⟨b, rfl, cq⟩ := row_sl hr (by simp)
    have hw' : IntKind.i64.wrap ((texts.length : Int) + 1) = (texts.length : Int) + 1 := by rw [wrap_i64] <;> omega
    simp only [List.append_assoc, List.cons_append, List.nil_append] at cq
    have hvc : valC ⟨1, (texts.length : Int) + 1, [108, 97, 115, 116]⟩ = [I 1, I ((texts.length : Int) + 1), .str [108, 97, 115, 116]] := rfl
    simp [cq, hvc, hw', idxSlAV, idx, AV.isInt]
theorem deskBeside_law (cs : List AV) (h : FitsArgs [(false, .str), (false, .sl 1 16 .str)] cs) : ∃ n H', callF envE (exec envE n) 5 cs 0 [] = some (.bool true, H') := by
  obtain ⟨a, rest, rfl, h1, t⟩ := fa_one h
  obtain ⟨c, rest, rfl, h2, t⟩ := fa_one t
  cases fa_nil t
  obtain ⟨x, e, _⟩ := fits_str h1
  cases e
  obtain ⟨l, e2, hl, hl2⟩ := fits_sl (f := strC) (fun r hr => by obtain ⟨s, rfl, _⟩ := fits_str hr; exact ⟨s, rfl⟩) h2
  cases e2
  have hrb : reachBytes = 140737488351232 := rfl
  exact law_of (deskBeside_pu x l (by omega)) (by simp)
end Go.Proofs.YtflgfiieaoeknaaA

namespace Go.Proofs.Ytflgfiieaoeknaa.deskBeside
open Go.ChangeShapes Go.WideShapes Go.ChangeAt Go.RowKit
set_option linter.unusedVariables false
theorem own : ownKnob Try.prog.godebug = none := by kernel_rfl
set_option maxRecDepth 1000000 in
theorem lifted (os : Os) (started : os.Started) (H : Type) (enc : TypeId × Value → H) :
    ReturnsInHanded {} Try.checked os 5 .any (Rows.deskBesideSpec.pre6 enc Try.prog Try.f5 Rows.deskBesideRow.domain false) (Rows.deskBesideSpec.post enc Try.prog Try.f5 false true false false) :=
  YtflgfiieaoeknaaA.law_lifted (C := Try.checked) YtflgfiieaoeknaaA.env_good (fd := YtflgfiieaoeknaaA.fd5) (tb := 4) rfl own started (by kernel_rfl) Try.func5
    (ChangeSpec.witness6 (enc := enc) (C := Try.checked) false ⟨#[], #[((Try.prog.info? 9).bind (·.zero)).getD .nilFunc, ((Try.prog.info? 62).bind (·.zero)).getD .nilFunc], []⟩ 8 (by kernel_rfl) (by kernel_rfl) (by kernel_rfl) (by kernel_rfl))
    (by kernel_rfl) (by decide +kernel) (by kernel_rfl) rfl (by kernel_rfl) (by kernel_rfl) (fun ds h => by
      match ds, h with
      | [d0, d1], _ => rfl) YtflgfiieaoeknaaA.deskBeside_law
theorem over : Rows.deskBesideRow.holds Try.pinned (OpenSpec.ofChange Rows.deskBesideSpec) :=
  OpenClaim.holds_of_wide 5 Try.f5 rfl rfl rfl rfl rfl rfl rfl ⟨rfl, rfl, rfl, rfl, rfl⟩ rfl rfl rfl rfl rfl (by kernel_rfl) Try.func5 (by kernel_rfl)
    (of_decide_eq_true (by kernel_rfl)) (by unfold Func.isWrapper; first | (rw [if_pos (by decide +kernel)]; kernel_rfl) | (rw [if_neg (by decide +kernel)]; exact ⟨rfl, rfl⟩))
    (fun os started H enc _ => lifted os started H enc)
end Go.Proofs.Ytflgfiieaoeknaa.deskBeside
namespace Go.Proofs.Ytflgfiieaoeknaa
/-- The row, under a short name, for the claim. -/
theorem deskBeside_holds : Rows.DeskBesideSaid := deskBeside.over
#print axioms deskBeside_holds
end Go.Proofs.Ytflgfiieaoeknaa


/- The program's values, as numbers and lists. No statement about the program is proved here. -/
import Derived.Test.YtdbgebbofpgjmaaGreatA28
namespace Go.Proofs.YtdbgebbofpgjmaaGreatA
open Go Go.RowKit
set_option linter.unusedVariables false

abbrev I (n : Int) : AV := .int .i64 n
structure Val where
  node : Int
  n : Int
  data : List UInt8
structure Bag where
  known : Nat → Int
  vals : List Val
structure Plan where
  version : Int
  by' : Int
  targets : List Int
structure Ring where
  status : Nat → Int
  plan : Plan
  epoch : Nat → Int
  owner : Nat → Int
structure Deed where
  kind : Int
  n : Int
  key : List UInt8
  bag : Bag
  ring : Ring
  part : Int

def intC (n : Int) : List AV := [I n]
def strC (s : List UInt8) : List AV := [.str s]
def valC (v : Val) : List AV := [I v.node, I v.n, .str v.data]
def vecC (k : Nat → Int) : List AV := [I (k 0), I (k 1), I (k 2), I (k 3), I (k 4), I (k 5), I (k 6), I (k 7)]
def bagC (b : Bag) : List AV := [I (b.known 0), I (b.known 1), I (b.known 2), I (b.known 3), I (b.known 4), I (b.known 5), I (b.known 6), I (b.known 7), roL valC b.vals]
def planC (p : Plan) : List AV := [I p.version, I p.by', roL intC p.targets]
def ringC (r : Ring) : List AV :=
  [I (r.status 0), I (r.status 1), I (r.status 2), I (r.status 3), I (r.status 4), I (r.status 5), I (r.status 6), I (r.status 7), I r.plan.version, I r.plan.by', roL intC r.plan.targets,
   I (r.epoch 0), I (r.owner 0), I (r.epoch 1), I (r.owner 1), I (r.epoch 2), I (r.owner 2), I (r.epoch 3), I (r.owner 3), I (r.epoch 4), I (r.owner 4), I (r.epoch 5), I (r.owner 5), I (r.epoch 6), I (r.owner 6), I (r.epoch 7), I (r.owner 7),
   I (r.epoch 8), I (r.owner 8), I (r.epoch 9), I (r.owner 9), I (r.epoch 10), I (r.owner 10), I (r.epoch 11), I (r.owner 11), I (r.epoch 12), I (r.owner 12), I (r.epoch 13), I (r.owner 13), I (r.epoch 14), I (r.owner 14), I (r.epoch 15), I (r.owner 15)]
def deedC (d : Deed) : List AV := [I d.kind, I d.n, .str d.key] ++ (bagC d.bag ++ (ringC d.ring ++ [I d.part]))

theorem valC_len (v : Val) : (valC v).length = 3 := hard rfl
theorem intC_len (n : Int) : (intC n).length = 1 := hard rfl
theorem strC_len (s : List UInt8) : (strC s).length = 1 := hard rfl
theorem bagC_len (b : Bag) : (bagC b).length = 9 := hard rfl
theorem ringC_len (r : Ring) : (ringC r).length = 43 := hard rfl
theorem deedC_len (d : Deed) : (deedC d).length = 56 := hard rfl

theorem valC_one (v : Val) : (valC v).all AV.one = true := hard rfl
theorem bagC_one (b : Bag) : (bagC b).all AV.one = true := hard rfl
theorem ringC_one (r : Ring) : (ringC r).all AV.one = true := hard rfl
theorem deedC_one (d : Deed) : (deedC d).all AV.one = true := hard rfl

def partsC (r : Ring) : List AV :=
  [I (r.epoch 0), I (r.owner 0), I (r.epoch 1), I (r.owner 1), I (r.epoch 2), I (r.owner 2), I (r.epoch 3), I (r.owner 3), I (r.epoch 4), I (r.owner 4), I (r.epoch 5), I (r.owner 5), I (r.epoch 6), I (r.owner 6), I (r.epoch 7), I (r.owner 7),
   I (r.epoch 8), I (r.owner 8), I (r.epoch 9), I (r.owner 9), I (r.epoch 10), I (r.owner 10), I (r.epoch 11), I (r.owner 11), I (r.epoch 12), I (r.owner 12), I (r.epoch 13), I (r.owner 13), I (r.epoch 14), I (r.owner 14), I (r.epoch 15), I (r.owner 15)]
theorem val_f0 (v : Val) : (valC v).take 1 = [I v.node] := hard rfl
theorem val_f1 (v : Val) : ((valC v).drop 1).take 1 = [I v.n] := hard rfl
theorem val_f2 (v : Val) : ((valC v).drop 2).take 1 = [.str v.data] := hard rfl
theorem val_f01 (v : Val) : (valC v).take 2 = [I v.node, I v.n] := hard rfl
theorem bag_f0 (b : Bag) : (bagC b).take 8 = vecC b.known := hard rfl
theorem bag_f8 (b : Bag) : ((bagC b).drop 8).take 1 = [roL valC b.vals] := hard rfl
theorem plan_f0 (p : Plan) : (planC p).take 1 = [I p.version] := hard rfl
theorem plan_f1 (p : Plan) : ((planC p).drop 1).take 1 = [I p.by'] := hard rfl
theorem plan_f2 (p : Plan) : ((planC p).drop 2).take 1 = [roL intC p.targets] := hard rfl
theorem ring_f0 (r : Ring) : (ringC r).take 8 = vecC r.status := hard rfl
theorem ring_f8 (r : Ring) : ((ringC r).drop 8).take 3 = planC r.plan := hard rfl
theorem ring_f8a (r : Ring) : ((ringC r).drop 8).take 1 = [I r.plan.version] := hard rfl
theorem ring_f9 (r : Ring) : ((ringC r).drop 9).take 1 = [I r.plan.by'] := hard rfl
theorem ring_f10 (r : Ring) : ((ringC r).drop 10).take 1 = [roL intC r.plan.targets] := hard rfl
theorem ring_f11 (r : Ring) : ((ringC r).drop 11).take 32 = partsC r := hard rfl
theorem deed_f0 (d : Deed) : (deedC d).take 1 = [I d.kind] := hard rfl
theorem deed_f1 (d : Deed) : ((deedC d).drop 1).take 1 = [I d.n] := hard rfl
theorem deed_f2 (d : Deed) : ((deedC d).drop 2).take 1 = [.str d.key] := hard rfl
theorem deed_f3 (d : Deed) : ((deedC d).drop 3).take 9 = bagC d.bag := hard rfl
theorem deed_f11 (d : Deed) : ((deedC d).drop 11).take 1 = [roL valC d.bag.vals] := hard rfl
theorem deed_f12 (d : Deed) : ((deedC d).drop 12).take 43 = ringC d.ring := hard rfl
theorem deed_f22 (d : Deed) : ((deedC d).drop 22).take 1 = [roL intC d.ring.plan.targets] := hard rfl
theorem deed_f55 (d : Deed) : ((deedC d).drop 55).take 1 = [I d.part] := hard rfl

theorem val_all (v : Val) : (valC v).take 3 = valC v := hard rfl
theorem bag_all (b : Bag) : (bagC b).take 9 = bagC b := hard rfl
theorem plan_all (p : Plan) : (planC p).take 3 = planC p := hard rfl
theorem ring_all (r : Ring) : (ringC r).take 43 = ringC r := hard rfl
theorem deed_all (d : Deed) : (deedC d).take 56 = deedC d := hard rfl
theorem val_t1 (v : Val) : (valC v).tail.take 1 = [I v.n] := hard rfl
theorem plan_t1 (p : Plan) : (planC p).tail.take 1 = [I p.by'] := hard rfl
theorem deed_t1 (d : Deed) : (deedC d).tail.take 1 = [I d.n] := hard rfl
theorem frz_val {H : Heap} {d : Nat} (v : Val) : mapO (frz H (d + 1)) (valC v) = some (valC v) := hard rfl
theorem frz_vec {H : Heap} {d : Nat} (k : Nat → Int) : mapO (frz H (d + 1)) (vecC k) = some (vecC k) := hard rfl
theorem frz_bag {H : Heap} {d : Nat} (b : Bag) : mapO (frz H (d + 1)) (bagC b) = some (bagC b) := by
  simp only [bagC, mapO, frz_int, frz_roL, Option.bind_some, Option.map_some]
theorem frz_plan {H : Heap} {d : Nat} (p : Plan) : mapO (frz H (d + 1)) (planC p) = some (planC p) := by
  simp only [planC, mapO, frz_int, frz_roL, Option.bind_some, Option.map_some]
theorem frz_ring {H : Heap} {d : Nat} (r : Ring) : mapO (frz H (d + 1)) (ringC r) = some (ringC r) := by
  simp only [ringC, mapO, frz_int, frz_roL, Option.bind_some, Option.map_some]
theorem frz_deed {H : Heap} {d : Nat} (x : Deed) : mapO (frz H (d + 1)) (deedC x) = some (deedC x) := by
  unfold deedC
  refine mapO_app ?_ (mapO_app (frz_bag _) (mapO_app (frz_ring _) ?_))
  · simp only [mapO, frz_int, frz_str, Option.bind_some, Option.map_some]
  · simp only [mapO, frz_int, Option.bind_some, Option.map_some]

/-! ## Shapes -/
abbrev iS : Nat × Sh := (1, .int .i64)
abbrev shV : Sh := .cat [(2, .cat [iS, iS]), (1, .str)]
def shVec : Sh := .cat [iS, iS, iS, iS, iS, iS, iS, iS]
def shBag : Sh := .cat [(8, shVec), (1, .sl 3 32 shV)]
def shPlan : Sh := .cat [iS, iS, (1, .sl 1 8 (.int .i64))]
abbrev eS : Nat × Sh := (2, .cat [iS, iS])
def shParts : Sh := .cat [eS, eS, eS, eS, eS, eS, eS, eS, eS, eS, eS, eS, eS, eS, eS, eS]
def shRing : Sh := .cat [(8, shVec), (3, shPlan), (32, shParts)]
def shDeed : Sh := .cat [iS, iS, (1, .str), (9, shBag), (43, shRing), iS]

theorem of_cat_int {ps : List (Nat × Sh)} {as : List AV} (h : Fits (.cat (iS :: ps)) as) : ∃ n rest, as = I n :: rest ∧ Fits (.cat ps) rest := by
  obtain ⟨r, rest, rfl, _, h1, h2⟩ := fits_cons h
  obtain ⟨n, rfl, _⟩ := fits_int h1
  exact ⟨n, rest, rfl, h2⟩
theorem of_val {as : List AV} (h : Fits shV as) : ∃ v, as = valC v := by
  obtain ⟨r, rest, rfl, _, h1, h2⟩ := fits_cons h
  obtain ⟨a, r1, rfl, h3⟩ := of_cat_int h1
  obtain ⟨b, r2, rfl, h4⟩ := of_cat_int h3
  have := fits_nil h4; subst this
  obtain ⟨r3, r4, rfl, _, h5, h6⟩ := fits_cons h2
  obtain ⟨s, rfl, _⟩ := fits_str h5
  have := fits_nil h6; subst this
  exact ⟨⟨a, b, s⟩, rfl⟩
theorem of_vec {as : List AV} (h : Fits shVec as) : ∃ k, as = vecC k := by
  obtain ⟨a0, r1, rfl, k1⟩ := of_cat_int h
  obtain ⟨a1, r2, rfl, k2⟩ := of_cat_int k1
  obtain ⟨a2, r3, rfl, k3⟩ := of_cat_int k2
  obtain ⟨a3, r4, rfl, k4⟩ := of_cat_int k3
  obtain ⟨a4, r5, rfl, k5⟩ := of_cat_int k4
  obtain ⟨a5, r6, rfl, k6⟩ := of_cat_int k5
  obtain ⟨a6, r7, rfl, k7⟩ := of_cat_int k6
  obtain ⟨a7, r8, rfl, k8⟩ := of_cat_int k7
  have := fits_nil k8; subst this
  exact ⟨fun | 0 => a0 | 1 => a1 | 2 => a2 | 3 => a3 | 4 => a4 | 5 => a5 | 6 => a6 | _ => a7, rfl⟩
theorem of_bag {as : List AV} (h : Fits shBag as) : ∃ b, as = bagC b ∧ b.vals.length ≤ maxLen ∧ b.vals.length * 32 ≤ reachBytes := by
  obtain ⟨r, rest, rfl, _, h1, h2⟩ := fits_cons h
  obtain ⟨k, rfl⟩ := of_vec h1
  obtain ⟨r, rest, rfl, _, h3, h4⟩ := fits_cons h2
  obtain ⟨l, rfl, h5, h6⟩ := fits_sl (f := valC) (fun r hr => of_val hr) h3
  have := fits_nil h4; subst this
  exact ⟨⟨k, l⟩, rfl, h5, h6⟩
theorem of_ints {as : List AV} (h : Fits (.sl 1 8 (.int .i64)) as) : ∃ l : List Int, as = [roL intC l] ∧ l.length ≤ maxLen ∧ l.length * 8 ≤ reachBytes :=
  fits_sl (f := intC) (fun r hr => by obtain ⟨n, rfl, _⟩ := fits_int hr; exact ⟨n, rfl⟩) h
theorem of_plan {as : List AV} (h : Fits shPlan as) : ∃ p, as = planC p ∧ p.targets.length ≤ maxLen ∧ p.targets.length * 8 ≤ reachBytes := by
  obtain ⟨a, r9, rfl, k9⟩ := of_cat_int h
  obtain ⟨b, r10, rfl, k10⟩ := of_cat_int k9
  obtain ⟨r, rest, rfl, _, h3, h4⟩ := fits_cons k10
  obtain ⟨l, rfl, h5, h6⟩ := of_ints h3
  have := fits_nil h4; subst this
  exact ⟨⟨a, b, l⟩, rfl, h5, h6⟩
theorem of_cat_entry {ps : List (Nat × Sh)} {as : List AV} (h : Fits (.cat (eS :: ps)) as) : ∃ n m rest, as = I n :: I m :: rest ∧ Fits (.cat ps) rest := by
  obtain ⟨r, rest, rfl, _, h1, h2⟩ := fits_cons h
  obtain ⟨n, r1, rfl, h3⟩ := of_cat_int h1
  obtain ⟨m, r2, rfl, h4⟩ := of_cat_int h3
  have := fits_nil h4; subst this
  exact ⟨n, m, rest, rfl, h2⟩
theorem of_ring {as : List AV} (h : Fits shRing as) : ∃ r, as = ringC r ∧ r.plan.targets.length ≤ maxLen ∧ r.plan.targets.length * 8 ≤ reachBytes := by
  obtain ⟨r, rest, rfl, _, h1, h2⟩ := fits_cons h
  obtain ⟨k, rfl⟩ := of_vec h1
  obtain ⟨r, rest, rfl, _, h3, h4⟩ := fits_cons h2
  obtain ⟨p, rfl, h5, h6⟩ := of_plan h3
  obtain ⟨r, rest, rfl, _, h7, h8⟩ := fits_cons h4
  have := fits_nil h8; subst this
  obtain ⟨e0, o0, r11, rfl, k11⟩ := of_cat_entry h7
  obtain ⟨e1, o1, r12, rfl, k12⟩ := of_cat_entry k11
  obtain ⟨e2, o2, r13, rfl, k13⟩ := of_cat_entry k12
  obtain ⟨e3, o3, r14, rfl, k14⟩ := of_cat_entry k13
  obtain ⟨e4, o4, r15, rfl, k15⟩ := of_cat_entry k14
  obtain ⟨e5, o5, r16, rfl, k16⟩ := of_cat_entry k15
  obtain ⟨e6, o6, r17, rfl, k17⟩ := of_cat_entry k16
  obtain ⟨e7, o7, r18, rfl, k18⟩ := of_cat_entry k17
  obtain ⟨e8, o8, r19, rfl, k19⟩ := of_cat_entry k18
  obtain ⟨e9, o9, r20, rfl, k20⟩ := of_cat_entry k19
  obtain ⟨e10, o10, r21, rfl, k21⟩ := of_cat_entry k20
  obtain ⟨e11, o11, r22, rfl, k22⟩ := of_cat_entry k21
  obtain ⟨e12, o12, r23, rfl, k23⟩ := of_cat_entry k22
  obtain ⟨e13, o13, r24, rfl, k24⟩ := of_cat_entry k23
  obtain ⟨e14, o14, r25, rfl, k25⟩ := of_cat_entry k24
  obtain ⟨e15, o15, r26, rfl, k26⟩ := of_cat_entry k25
  have := fits_nil k26; subst this
  exact ⟨⟨k, p, fun | 0 => e0 | 1 => e1 | 2 => e2 | 3 => e3 | 4 => e4 | 5 => e5 | 6 => e6 | 7 => e7 | 8 => e8 | 9 => e9 | 10 => e10 | 11 => e11 | 12 => e12 | 13 => e13 | 14 => e14 | _ => e15,
    fun | 0 => o0 | 1 => o1 | 2 => o2 | 3 => o3 | 4 => o4 | 5 => o5 | 6 => o6 | 7 => o7 | 8 => o8 | 9 => o9 | 10 => o10 | 11 => o11 | 12 => o12 | 13 => o13 | 14 => o14 | _ => o15⟩, rfl, h5, h6⟩
theorem of_deed {as : List AV} (h : Fits shDeed as) : ∃ d, as = deedC d ∧ d.bag.vals.length * 32 ≤ reachBytes ∧ d.ring.plan.targets.length * 8 ≤ reachBytes := by
  obtain ⟨a, r27, rfl, k27⟩ := of_cat_int h
  obtain ⟨b, r28, rfl, k28⟩ := of_cat_int k27
  obtain ⟨r, rest, rfl, _, h3, h4⟩ := fits_cons k28
  obtain ⟨s, rfl, _⟩ := fits_str h3
  obtain ⟨r, rest, rfl, _, h5, h6⟩ := fits_cons h4
  obtain ⟨bg, rfl, _, h7⟩ := of_bag h5
  obtain ⟨r, rest, rfl, _, h8, h9⟩ := fits_cons h6
  obtain ⟨rg, rfl, _, h10⟩ := of_ring h8
  obtain ⟨p, r, rfl, h11⟩ := of_cat_int h9
  have := fits_nil h11; subst this
  exact ⟨⟨a, b, s, bg, rg, p⟩, rfl, h7, h10⟩
end Go.Proofs.YtdbgebbofpgjmaaGreatA

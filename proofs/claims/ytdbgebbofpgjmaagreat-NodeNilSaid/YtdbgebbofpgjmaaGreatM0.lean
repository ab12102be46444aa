/- A message. No statement about the program is proved here. -/
import Derived.Test.YtdbgebbofpgjmaaGreatA29
namespace Go.Proofs.YtdbgebbofpgjmaaGreatA
open Go Go.RowKit
set_option linter.unusedVariables false

structure Claim where
  node : Int
  inc : Int
  health : Int
structure Msg where
  kind : Int
  from' : Int
  to : Int
  seq : Int
  for' : Int
  about : Int
  part : Int
  epoch : Int
  key : List UInt8
  bag : Bag
  ring : Ring
  claims : List Claim
def claimC (c : Claim) : List AV := [I c.node, I c.inc, I c.health]
def msgC (m : Msg) : List AV := [I m.kind, I m.from', I m.to, I m.seq, I m.for', I m.about, I m.part, I m.epoch, .str m.key] ++ (bagC m.bag ++ (ringC m.ring ++ [roL claimC m.claims]))
theorem claimC_len (c : Claim) : (claimC c).length = 3 := hard rfl
theorem msgC_len (m : Msg) : (msgC m).length = 62 := hard rfl
theorem msgC_one (m : Msg) : (msgC m).all AV.one = true := hard rfl
theorem msg_all (m : Msg) : (msgC m).take 62 = msgC m := hard rfl
theorem msg_f0 (m : Msg) : (msgC m).take 1 = [I m.kind] := hard rfl
theorem msg_t1 (m : Msg) : (msgC m).tail.take 1 = [I m.from'] := hard rfl
theorem msg_f1 (m : Msg) : ((msgC m).drop 1).take 1 = [I m.from'] := hard rfl
theorem msg_f2 (m : Msg) : ((msgC m).drop 2).take 1 = [I m.to] := hard rfl
theorem msg_f3 (m : Msg) : ((msgC m).drop 3).take 1 = [I m.seq] := hard rfl
theorem msg_f4 (m : Msg) : ((msgC m).drop 4).take 1 = [I m.for'] := hard rfl
theorem msg_f5 (m : Msg) : ((msgC m).drop 5).take 1 = [I m.about] := hard rfl
theorem msg_f6 (m : Msg) : ((msgC m).drop 6).take 1 = [I m.part] := hard rfl
theorem msg_f7 (m : Msg) : ((msgC m).drop 7).take 1 = [I m.epoch] := hard rfl
theorem msg_f8 (m : Msg) : ((msgC m).drop 8).take 1 = [.str m.key] := hard rfl
theorem msg_f9 (m : Msg) : ((msgC m).drop 9).take 9 = bagC m.bag := hard rfl
theorem msg_f17 (m : Msg) : ((msgC m).drop 17).take 1 = [roL valC m.bag.vals] := hard rfl
theorem msg_f18 (m : Msg) : ((msgC m).drop 18).take 43 = ringC m.ring := hard rfl
theorem msg_f61 (m : Msg) : ((msgC m).drop 61).take 1 = [roL claimC m.claims] := hard rfl
theorem frz_msg {H : Heap} {d : Nat} (m : Msg) : mapO (frz H (d + 1)) (msgC m) = some (msgC m) := by
  unfold msgC
  refine mapO_app ?_ (mapO_app (frz_bag _) (mapO_app (frz_ring _) ?_))
  · simp only [mapO, frz_int, frz_str, Option.bind_some, Option.map_some]
  · simp only [mapO, frz_roL, Option.bind_some, Option.map_some]
def shClaim : Sh := .cat [iS, iS, iS]
def shMsg : Sh := .cat [iS, iS, iS, iS, iS, iS, iS, iS, (1, .str), (9, shBag), (43, shRing), (1, .sl 3 24 shClaim)]
theorem of_claim {as : List AV} (h : Fits shClaim as) : ∃ c, as = claimC c := by
  obtain ⟨a, r1, rfl, h1⟩ := of_cat_int h
  obtain ⟨b, r2, rfl, h2⟩ := of_cat_int h1
  obtain ⟨c, r3, rfl, h3⟩ := of_cat_int h2
  have := fits_nil h3; subst this
  exact ⟨⟨a, b, c⟩, rfl⟩
theorem of_msg {as : List AV} (h : Fits shMsg as) : ∃ m, as = msgC m ∧ m.key.length ≤ reachBytes ∧ m.bag.vals.length * 32 ≤ reachBytes ∧ m.ring.plan.targets.length * 8 ≤ reachBytes ∧ m.claims.length * 24 ≤ reachBytes := by
  obtain ⟨a0, r1, rfl, k1⟩ := of_cat_int h
  obtain ⟨a1, r2, rfl, k2⟩ := of_cat_int k1
  obtain ⟨a2, r3, rfl, k3⟩ := of_cat_int k2
  obtain ⟨a3, r4, rfl, k4⟩ := of_cat_int k3
  obtain ⟨a4, r5, rfl, k5⟩ := of_cat_int k4
  obtain ⟨a5, r6, rfl, k6⟩ := of_cat_int k5
  obtain ⟨a6, r7, rfl, k7⟩ := of_cat_int k6
  obtain ⟨a7, r8, rfl, k8⟩ := of_cat_int k7
  obtain ⟨r, rest, rfl, _, h1, h2⟩ := fits_cons k8
  obtain ⟨s, rfl, h0⟩ := fits_str h1
  obtain ⟨r, rest, rfl, _, h3, h4⟩ := fits_cons h2
  obtain ⟨bg, rfl, _, h5⟩ := of_bag h3
  obtain ⟨r, rest, rfl, _, h6, h7⟩ := fits_cons h4
  obtain ⟨rg, rfl, _, h8⟩ := of_ring h6
  obtain ⟨r, rest, rfl, _, h9, h10⟩ := fits_cons h7
  obtain ⟨l, rfl, _, h11⟩ := fits_sl (f := claimC) (fun r hr => of_claim hr) h9
  have := fits_nil h10; subst this
  exact ⟨⟨a0, a1, a2, a3, a4, a5, a6, a7, s, bg, rg, l⟩, rfl, h0, h5, h8, h11⟩
end Go.Proofs.YtdbgebbofpgjmaaGreatA

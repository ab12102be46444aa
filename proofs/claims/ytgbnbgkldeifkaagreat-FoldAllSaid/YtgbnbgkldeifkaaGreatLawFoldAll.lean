/- 'starlinglaw19.FoldAll' returns true for every part and all calls: each key of the part is told, and told again behind each write to it, with its bag as it is then; in the end what was told last of each key is its bag. Without further conditions. -/
import Derived.Test.YtgbnbgkldeifkaaGreatRows
import Derived.Test.YtgbnbgkldeifkaaGreatAW34
import Derived.Test.YtgbnbgkldeifkaaGreatFT
import Derived.WalkKit
import Derived.ProofKit
import Derived.ChangeOld
namespace Go.Proofs.YtgbnbgkldeifkaaGreatA
open Go Go.RowKit
set_option linter.unusedSimpArgs false
set_option linter.unusedVariables false
set_option maxRecDepth 1000000
attribute [local simp] vec_zero
theorem mod16 (x : Int) : ∃ N : Nat, N < 16 ∧ IntKind.i64.wrap ((IntKind.u64.wrap x).tmod 16) = (N : Int) := by
 have hx : 0 ≤ IntKind.u64.wrap x := by simp [IntKind.wrap, IntKind.signed, IntKind.bits]; omega
 have h1 := Int.emod_nonneg (IntKind.u64.wrap x) (b := 16) (by omega)
 have h2 := Int.emod_lt_of_pos (IntKind.u64.wrap x) (b := 16) (by omega)
 refine ⟨((IntKind.u64.wrap x) % 16).toNat, by omega, ?_⟩
 rw [Int.tmod_eq_emod_of_nonneg hx, wrap_i64] <;> omega
theorem addK_len {ks : List (List UInt8)} {key : List UInt8} : (addK ks key).length ≤ ks.length + 1 := by
 unfold addK
 split <;> simp
theorem put_len {s : VSt} {node : Int} {key : List UInt8} {known : Nat → Int} {data : List UInt8} : (putO s node key known data).s.bags.length ≤ s.bags.length + 1 := by
 rcases put_keys (s := s) (node := node) (key := key) (known := known) (data := data) with ⟨_, _, hb, _⟩ | ⟨_, e⟩
 · have h1 := congrArg List.length hb
   have h2 := addK_len (ks := s.bags.map Prod.fst) (key := key)
   simp only [List.length_map] at h1 h2
   omega
 · rw [e]; omega
def callC19 (c : Int × Int) : List AV := [I c.1, I c.2]
theorem callC19_len (c : Int × Int) : (callC19 c).length = 2 := hard rfl
structure Beside (H : Heap) (s : VSt) (v q : AV) (es : List (AV × AV × Nat)) (ck : Nat) (cb : Nat) (part : Int) (D : List (List UInt8)) (L : List UInt8) (cv : AV) (mM : Nat) (M : List (List UInt8 × Bag)) (me : List (AV × AV × Nat)) (mck : Nat) : Prop where
 vlt : Vlt H 2 0 1 s v q es ck
 cur : CurM H cb part D L cv
 map : H[mM]? = some (.map me mck)
 ents : EntK H M me mck
 big : 2 < mM
section
variable {H H' X : Heap} {s s' : VSt} {v q : AV} {es : List (AV × AV × Nat)} {ck : Nat} {cb : Nat} {part : Int} {D D' : List (List UInt8)} {L L' : List UInt8} {cv cv' : AV} {mM : Nat} {M M' : List (List UInt8 × Bag)} {me me' : List (AV × AV × Nat)} {mck mck' : Nat}
theorem Beside.app (h : Beside H s v q es ck cb part D L cv mM M me mck) : Beside (H ++ X) s v q es ck cb part D L cv mM M me mck := ⟨h.vlt.app, h.cur.app, get_app h.map, h.ents.keep fun _ _ q _ => get_app q, h.big⟩
theorem Beside.goes (h : Beside H s v q es ck cb part D L cv mM M me mck) (c : CurM H' cb part D' L' cv') (f : FrV H H' cb cv cv') : Beside H' s v q es ck cb part D' L' cv' mM M me mck :=
 ⟨h.vlt.keepC fun b z hb hi => f.still h.cur hb hi, c, f.still h.cur h.map rfl, ⟨h.ents.ents.keepC fun b z hb hi => f.still h.cur hb hi, h.ents.lt, h.ents.nd, h.ents.uniq⟩, h.big⟩
theorem Beside.step (h : Beside H s v q es ck cb part D L cv mM M me mck) (k : VStep H H' 2 0 1 s') : ∃ v' q' es' ck', Beside H' s' v' q' es' ck' cb part D L cv mM M me mck := by
 obtain ⟨kp, v', q', es', ck', hv⟩ := k
 have hb := h.big
 exact ⟨v', q', es', ck', hv, h.cur.keepK h.vlt kp, kp.keep _ _ h.map (by omega) (by omega) (by omega) (by intro y e; cases e), h.ents.keep fun b y hb hd => kp.keep _ _ hb (fun e => by subst e; rw [h.vlt.box] at hb; cases hb) (fun e => by subst e; rw [h.vlt.led.at'] at hb; cases hb) (fun e => by subst e; rw [h.vlt.map] at hb; cases hb) (fun z e => by cases e; exact hd), h.big⟩
theorem Beside.tell (h : Beside H s v q es ck cb part D L cv mM M me mck) (e : EntK H M' me' mck') : Beside (H.set mM (.map me' mck')) s v q es ck cb part D L cv mM M' me' mck' := by
 have keep : ∀ (b : Nat) (y : List AV), H[b]? = some (.cells true y) → (H.set mM (.map me' mck'))[b]? = some (.cells true y) := fun b y hb => get_set hb fun e => by
  subst e
  rw [h.map] at hb
  cases hb
 have hb := h.big
 refine ⟨⟨get_set h.vlt.box (by omega), ⟨get_set h.vlt.led.at' (by omega), h.vlt.led.row.keep fun b y _ hb => keep b y hb, h.vlt.led.few⟩, h.vlt.tgt.keep fun b y hb _ => keep b y hb, get_set h.vlt.map (by omega), h.vlt.ents.keep fun b y hb _ => keep b y hb, h.vlt.vn⟩, ?_, by rw [List.getElem?_set_self (lt_of h.map)], e.keep fun b y hb _ => keep b y hb, h.big⟩
 refine ⟨h.cur.strict, h.cur.few, ?_⟩
 have ncb : ∀ u, H[cb]? = some (curB part u L) → mM ≠ cb := fun u hu e => by
  subst e
  rw [h.map] at hu
  cases hu
 rcases h.cur.pile with ⟨a, b, g⟩ | ⟨b, l, Rs, h1, h2, h3, h4, h5⟩
 · exact .inl ⟨a, b, get_set g (ncb _ g)⟩
 · exact .inr ⟨b, l, Rs, h1, h2, h3, ⟨get_set h4.box (ncb _ h4.box), keep _ _ h4.row, h4.few⟩, h5⟩
end
theorem c19z : Pu envE 19 [.str []] (I (-1)) := by
 refine pu_is e19 rfl ?_
 have c68 : Pu envE 68 [.str []] (.bool false) := by
  refine pu_is e68 rfl ?_
  rw [fr_init (by simp [fd68])]
  simp [fd68, b68]
 rw [fr_init (by simp [fd19])]
 simp [fd19, b19, wPu_eq c68]
set_option maxHeartbeats 8000000 in
theorem foldAll_pu (part : Int) (l : List (Int × Int)) (hl : l.length < 4611686018427387904) : Pu envE 4 [I part, roL callC19 l] (.bool true) := by
 refine pu_is e4 rfl ?_
 obtain ⟨N, hN, hNe⟩ := mod16 part
 have hpN : (0 : Int) ≤ N := by omega
 have zone : ∀ B : List AV, (B.all AV.one = true) → (∀ x : AV, x ∈ B → x.one = true) = True := fun B h => eq_true (List.all_eq_true.1 h)
 have nr := fun K => new_room (room := 300) (H := []) (lim := 0) (K := K) (by omega) (by omega)
 rw [fr_init (by simp [fd4])]
 simp [fd4, b4, hNe, nr]
 refine open_new 300 [] (by omega) (by omega) ?_
 intro X hv
 simp only [List.nil_append, List.length_nil, Nat.zero_add] at hv ⊢
 have kN := fun K' => WCl_eq (K := K') (c26 N 0 X (by omega) (by omega))
 have big : 2 < X.length := lt_of hv.box
 simp [kN]
 obtain ⟨cb, hcb⟩ : ∃ cb, cb = X.length := ⟨_, rfl⟩
 obtain ⟨mM, hmM⟩ : ∃ mM, mM = X.length + 1 := ⟨_, rfl⟩
 obtain ⟨H0, hH0⟩ : ∃ H0, H0 = X ++ curB N .nilsl [] :: [ABlk.map [] 0] := ⟨_, rfl⟩
 have hc0 : CurM H0 cb N [] [] .nilsl := cur_new (X := []) (by rw [hH0, hcb]; simp)
 have hB0 : Beside H0 (emptyS 300) .nilsl .nilsl [] 0 cb N [] [] .nilsl mM [] [] 0 := ⟨by rw [hH0]; exact hv.app, hc0, by rw [hH0, hmM, List.getElem?_append_right (by omega)]; simp, EntK.nil, by omega⟩
 rw [← hH0, ← hmM, ← hcb]
 have hK0 : keysS (emptyS 300) N = [] := by simp [keysS, emptyS, sortS]
 refine loop_go [0, 5, 6, 7, 29, 30, 31] rfl (fun m vs H => ∃ i s v q es ck D L cv M me mck, m + i = l.length ∧ i ≤ 80 ∧ Beside H s v q es ck cb N D L cv mM M me mck ∧ VOk s ∧ s.bags.length ≤ i ∧ D.length ≤ i ∧ Told (keysS s N) D L M (bagOf s) ∧ vs = [I N, .ptr (some (2, 0)), .ptr (some (cb, 0)), .mapv (some mM), roL callC19 l, I l.length, I i]) ?_ l.length ⟨0, emptyS 300, _, _, _, _, [], [], _, [], _, _, rfl, by omega, hB0, empty_ok (by omega) (by omega), by simp [emptyS], by simp, by rw [hK0]; exact Told.start, rfl⟩
 clear hB0 hc0 hH0 hv kN nr
 rintro J hJ m vs H f ⟨i, s, v, q, es, ck, D, L, cv, M, me, mck, hm, hi80, hB, ok, hbl, hDl, hT, rfl⟩
 have few : s.bags.length < 1000000000 := by omega
 have hKs : Strict (keysS s N) := keys_strict hB.vlt.ents.uniq
 have hKl : (keysS s N).length ≤ s.bags.length := by
  rw [keysS_len]
  have : (partF (s.bags.map Prod.fst) N).length ≤ (s.bags.map Prod.fst).length := List.length_filter_le _ _
  simp only [List.length_map] at this
  omega
 have hKp : ∀ k ∈ keysS s N, spotF k = (N : Int) := fun k hk => (keysS_mem.1 hk).2
 by_cases hgo : i < l.length ∧ i < 80
 · obtain ⟨hi, hi8⟩ := hgo
   have hw := wrap_succ (i := i) (by omega)
   have hld := load_roL callC19_len hi (H := H)
   have hi8' : ¬ (80 : Int) ≤ i := by omega
   have hi8n : ¬ 80 ≤ i := by omega
   obtain ⟨dx, hdx⟩ : ∃ dx, dx = l[i].1 := ⟨_, rfl⟩
   obtain ⟨ky, hky⟩ : ∃ ky, ky = l[i].2 := ⟨_, rfl⟩
   rw [show callC19 l[i] = [I dx, I ky] by rw [hdx, hky]; rfl] at hld
   obtain ⟨k, hk, hk2⟩ := c27 ky
   obtain ⟨H1, hH1⟩ : ∃ H1, H1 = H ++ [ABlk.cells false [I dx, I ky]] := ⟨_, rfl⟩
   have hB1 : Beside H1 s v q es ck cb N D L cv mM M me mck := by rw [hH1]; exact hB.app
   have b1 := cells_of (show H1[H.length]? = some (.cells false [I dx, I ky]) by rw [hH1]; simp)
   clear hdx
   have hcase : dx = 0 ∨ dx = 1 ∨ (¬ dx = 0 ∧ ¬ dx = 1) := by omega
   by_cases hA : dx = 0 ∨ dx = 1
   · rcases hA with rfl | rfl
     all_goals simp [lp4_0, hi, idxSl_roL hi, hld, -load_tp, ← hH1, hi8', hi8n, b1, shapeOf, wPu_eq hk]
     all_goals
      refine WCl.mono (c28 hB1.vlt ok few hpN hB1.cur) ?_
      rintro r H2 ⟨hr, v2, h2, fr2⟩
      have hB2 := hB1.goes h2 fr2
      rcases hT.next hB1.cur.strict hKs with ⟨k', D', L', hn, hkm, hT', hrem, hDD⟩ | ⟨hn, hD0, hah⟩
      · rw [hn] at hr hB2
        obtain ⟨k2, q', e, rfl, hrow⟩ := hr.resolve_left (by rintro ⟨e, _⟩; cases e)
        cases e
        have o1 := hrow.one
        obtain ⟨B, hB_⟩ : ∃ B, B = pairC k' (bagOf s k').known q' := ⟨_, rfl⟩
        have Blen : B.length = 10 := by rw [hB_]; exact pairC_len
        have hover : ∀ (l : List AV), l.length = 10 → setFrom l 0 B = B := fun l a => setFrom_all _ _ (by rw [a, Blen])
        have Bone := zone B (by rw [hB_]; exact pairC_one o1)
        have B0 : B.take 1 = [.str k'] := by rw [hB_]; rfl
        have B1 : B.tail.take 9 = bagV (bagOf s k').known q' := by rw [hB_]; rfl
        have B2 : (B.drop 1).take 9 = bagV (bagOf s k').known q' := by rw [hB_]; rfl
        obtain ⟨H3, hH3⟩ : ∃ H3, H3 = H2 ++ [ABlk.cells false B] := ⟨_, rfl⟩
        have hB3 : Beside H3 s v q es ck cb N D' L' v2 mM M me mck := by rw [hH3]; exact hB2.app
        have b3' : H3[H2.length]? = some (.cells false B) := by rw [hH3]; simp
        have b3 := cells_of b3'
        have hrow3 : Row 0 H3 3 valC (bagOf s k').vals q' := by rw [hH3]; exact (hrow.mono (Nat.zero_le _)).app
        have hsp := hKp k' hkm
        simp [← hB_, hover, Blen, Bone, ← hH3, b3, B0, B1, B2, shapeOf, hsp]
        refine WCl.mono (c23 hB3.vlt ok k' H3.length (Nat.le_refl _)) ?_
        rintro _ _ ⟨Y, q3, rfl, rfl, hq3⟩
        have f1 := (hrow3.app (X := Y)).frz (d := 9) valC_len val_flat
        have f2 := hq3.frz (d := 9) valC_len val_flat
        have hfit := bag_fit (key := k') ok
        have hrb : reachBytes = 140737488351232 := rfl
        have ksm := fun H' K' => k25 (k := (bagOf s k').known) (k' := (bagOf s k').known) (l := (bagOf s k').vals) (l' := (bagOf s k').vals) (by omega) (H := H') (K := K')
        have hsm : bagSame (bagOf s k').known (bagOf s k').vals (bagOf s k').known (bagOf s k').vals = true := bagSame_refl (b := bagOf s k')
        rw [hsm] at ksm
        obtain ⟨H4, hH4⟩ : ∃ H4, H4 = H3 ++ Y := ⟨_, rfl⟩
        have hB4 : Beside H4 s v q es ck cb N D' L' v2 mM M me mck := by rw [hH4]; exact hB3.app
        have hex : (∃ X, H4 = H3 ++ X) = True := eq_true ⟨Y, hH4⟩
        have B01 : cut B 0 1 = some [.str k'] := by rw [hB_]; rfl
        have B19 : cut B 1 9 = some (bagV (bagOf s k').known q') := by rw [hB_]; rfl
        have b4 : Heap.cells? H4 H2.length = some B := by rw [hH4]; exact cells_of (get_app b3')
        have hrow4 : Row 0 H4 3 valC (bagOf s k').vals q' := by rw [hH4]; exact hrow3.app
        have hmap4 := hB4.map
        rw [← hH4] at f1 f2
        have hK4 : (keysS s N).length ≤ 80 := by omega
        have hstrict := hB4.cur.strict
        have hDl' : D'.length ≤ i + 1 := by omega
        rcases hB4.ents.find (key := k') 0 with ⟨g1, g2⟩ | ⟨j, r, b, g1, g2, g3⟩
        · have hE := hB4.ents.put (x := bagOf s k') hrow4 g1 mck
          simp [← hH4, hex, f1, f2, ksm, b4, B01, B19, hmap4, isKey, g2, hw, shapeOf]
          exact nxt hJ (m - 1) (by omega) ⟨i + 1, s, v, q, es, ck, D', L', v2, _, _, _, by omega, by omega, hB4.tell hE, ok, by omega, hDl', hT', rfl⟩
        · have hE := hB4.ents.over (x := bagOf s k') hrow4 g2
          rw [Nat.sub_zero] at hE
          simp [← hH4, hex, f1, f2, ksm, b4, B01, B19, hmap4, isKey, g2, hw, shapeOf]
          exact nxt hJ (m - 1) (by omega) ⟨i + 1, s, v, q, es, ck, D', L', v2, _, _, _, by omega, by omega, hB4.tell hE, ok, by omega, hDl', hT', rfl⟩
      · rw [hn] at hr hB2
        obtain ⟨_, rfl⟩ := hr.resolve_right (by rintro ⟨_, _, e, _⟩; cases e)
        have hz : ∀ (l : List AV), l.length = 10 → setFrom l 0 pairZ = pairZ := fun l a => setFrom_all _ _ (by rw [a, pairZ_len])
        obtain ⟨H3, hH3⟩ : ∃ H3, H3 = H2 ++ [ABlk.cells false pairZ] := ⟨_, rfl⟩
        have hB3 : Beside H3 s v q es ck cb N [] L v2 mM M me mck := by rw [hH3]; exact hB2.app
        rw [hD0] at hT
        simp [hz, pairZ_len, zone _ pairZ_one, ← hH3, hw]
        exact nxt hJ (m - 1) (by omega) ⟨i + 1, s, v, q, es, ck, [], L, v2, M, me, mck, by omega, by omega, hB3, ok, by omega, by simp, hT, rfl⟩
   · have h0 : ¬ dx = 0 := fun e => hA (.inl e)
     have h1 : ¬ dx = 1 := fun e => hA (.inr e)
     simp [lp4_0, hi, idxSl_roL hi, hld, -load_tp, ← hH1, hi8', hi8n, b1, shapeOf, wPu_eq hk, h0, h1]
     refine WCl.mono (c24 hB1.vlt ok 0 k zeroV [118]) ?_
     rintro _ H2 ⟨rfl, hs2⟩
     obtain ⟨R, hR⟩ : ∃ R, R = putO s 0 k zeroV [118] := ⟨_, rfl⟩
     have hpl := put_len (s := s) (node := 0) (key := k) (known := zeroV) (data := [118])
     have okR : VOk R.s := by rw [hR]; exact ok.putV
     have hkp := fun h x => keysS_put (s := s) (node := 0) (key := k) (known := zeroV) (data := [118]) (p := (N : Int)) h x
     have hpb := fun x (hx : x ≠ k) => put_bag (s := s) (node := 0) (key := k) (known := zeroV) (data := [118]) hx
     have hput := put_keys (s := s) (node := 0) (key := k) (known := zeroV) (data := [118])
     rw [← hR] at hs2 hpl hkp hpb hput ⊢
     obtain ⟨v2, q2, es2, ck2, hB2⟩ := hB1.step hs2
     obtain ⟨H3, hH3⟩ : ∃ H3, H3 = H2 ++ [ABlk.cells false [I R.a, I R.c]] := ⟨_, rfl⟩
     have hB3 : Beside H3 R.s v2 q2 es2 ck2 cb N D L cv mM M me mck := by rw [hH3]; exact hB2.app
     by_cases he : R.e = 0
     · have hT2 := hT.put (hkp he) hKp hpb
       have hbl2 : (backF N D L k).length ≤ D.length + 1 := by
        unfold backF
        split
        · exact insF_len
        · omega
       simp [he, ← hH3]
       refine WCl.mono (c30 hB3.cur k (by omega)) ?_
       rintro _ H4 ⟨rfl, v4, h4, fr4⟩
       simp [hw]
       exact nxt hJ (m - 1) (by omega) ⟨i + 1, R.s, v2, q2, es2, ck2, _, L, v4, M, me, mck, by omega, by omega, hB3.goes h4 fr4, okR, by omega, by omega, hT2, rfl⟩
     · have hsame : R.s = s := by
        rcases hput with ⟨e, _⟩ | ⟨_, e⟩
        · exact absurd e he
        · exact e
       rw [hsame] at hB3
       simp [he, ← hH3, hw]
       exact nxt hJ (m - 1) (by omega) ⟨i + 1, s, v2, q2, es2, ck2, D, L, cv, M, me, mck, by omega, by omega, hB3, ok, by omega, by omega, hT, rfl⟩
 obtain ⟨G, hBG, hgoal⟩ : ∃ G, Beside G s v q es ck cb N D L cv mM M me mck ∧ ((i < l.length ∧ i = 80 ∧ G = H ++ [ABlk.cells false (callC19 (l[i]?.getD (0, 0)))]) ∨ (i = l.length ∧ G = H)) := by
  by_cases hi : i < l.length
  · exact ⟨_, hB.app, .inl ⟨hi, by omega, rfl⟩⟩
  · exact ⟨H, hB, .inr ⟨by omega, rfl⟩⟩
 have hbound : remF (keysS s N) D L ≤ 80 := by have := hT.rem_le hB.cur.strict hKs; omega
 rcases hgoal with ⟨hi, h80, hGe⟩ | ⟨hil, hGe⟩
 · have hld := load_roL callC19_len hi (H := H)
   rw [List.getElem?_eq_getElem hi, Option.getD_some] at hGe
   obtain ⟨dx, hdx⟩ : ∃ dx, dx = l[i].1 := ⟨_, rfl⟩
   obtain ⟨ky, hky⟩ : ∃ ky, ky = l[i].2 := ⟨_, rfl⟩
   have hcc : callC19 l[i] = [I dx, I ky] := by rw [hdx, hky]; rfl
   rw [hcc] at hld hGe
   have h80' : (80 : Int) ≤ i := by omega
   have h80n : 80 ≤ i := by omega
   simp [lp4_0, hi, h80', h80n, idxSl_roL hi, hld, -load_tp, ← hGe]
   refine loop_go [0, 5, 6, 7, 89] rfl (fun m vs H' => ∃ j D L cv M me mck, m + j = 200 ∧ Beside H' s v q es ck cb N D L cv mM M me mck ∧ Told (keysS s N) D L M (bagOf s) ∧ remF (keysS s N) D L + j ≤ 80 ∧ vs = [I N, .ptr (some (2, 0)), .ptr (some (cb, 0)), .mapv (some mM), I j]) ?_ 200 ⟨0, D, L, cv, M, me, mck, rfl, hBG, hT, by omega, rfl⟩
   clear hBG hB hT hbound hGe hDl
   rintro J2 hJ2 m2 vs H f2 ⟨j, D, L, cv, M, me, mck, hm2, hB, hT, hbound, rfl⟩
   have hj : j < 200 := by omega
   have hj' : (j : Int) < 200 := by omega
   have hwj := wrap_succ (i := j) (by omega)
   simp [lp4_1, hj, hj']
   refine WCl.mono (c28 hB.vlt ok few hpN hB.cur) ?_
   rintro r H2 ⟨hr, v2, h2, fr2⟩
   have hB2 := hB.goes h2 fr2
   rcases hT.next hB.cur.strict hKs with ⟨k', D', L', hn, hkm, hT', hrem, hDD⟩ | ⟨hn, hD0, hah⟩
   · rw [hn] at hr hB2
     obtain ⟨k2, q', e, rfl, hrow⟩ := hr.resolve_left (by rintro ⟨e, _⟩; cases e)
     cases e
     have o1 := hrow.one
     obtain ⟨B, hB_⟩ : ∃ B, B = pairC k' (bagOf s k').known q' := ⟨_, rfl⟩
     have Blen : B.length = 10 := by rw [hB_]; exact pairC_len
     have hover : ∀ (l : List AV), l.length = 10 → setFrom l 0 B = B := fun l a => setFrom_all _ _ (by rw [a, Blen])
     have Bone := zone B (by rw [hB_]; exact pairC_one o1)
     have B0 : B.take 1 = [.str k'] := by rw [hB_]; rfl
     have B1 : B.tail.take 9 = bagV (bagOf s k').known q' := by rw [hB_]; rfl
     have B2 : (B.drop 1).take 9 = bagV (bagOf s k').known q' := by rw [hB_]; rfl
     have B01 : cut B 0 1 = some [.str k'] := by rw [hB_]; rfl
     have B19 : cut B 1 9 = some (bagV (bagOf s k').known q') := by rw [hB_]; rfl
     obtain ⟨H3, hH3⟩ : ∃ H3, H3 = H2 ++ [ABlk.cells false B] := ⟨_, rfl⟩
     have hB3 : Beside H3 s v q es ck cb N D' L' v2 mM M me mck := by rw [hH3]; exact hB2.app
     have b3' : H3[H2.length]? = some (.cells false B) := by rw [hH3]; simp
     have b3 := cells_of b3'
     have hrow3 : Row 0 H3 3 valC (bagOf s k').vals q' := by rw [hH3]; exact (hrow.mono (Nat.zero_le _)).app
     have hmap3 := hB3.map
     rcases hB3.ents.find (key := k') 0 with ⟨g1, g2⟩ | ⟨jx, r, b, g1, g2, g3⟩
     · have hE := hB3.ents.put (x := bagOf s k') hrow3 g1 mck
       simp [← hB_, hover, Blen, Bone, ← hH3, b3, B0, B1, B2, shapeOf, o1, hmap3, isKey, g2, hwj]
       exact nxt hJ2 (m2 - 1) (by omega) ⟨j + 1, D', L', v2, _, _, _, by omega, hB3.tell hE, hT', by omega, rfl⟩
     · have hE := hB3.ents.over (x := bagOf s k') hrow3 g2
       rw [Nat.sub_zero] at hE
       simp [← hB_, hover, Blen, Bone, ← hH3, b3, B0, B1, B2, shapeOf, o1, hmap3, isKey, g2, hwj]
       exact nxt hJ2 (m2 - 1) (by omega) ⟨j + 1, D', L', v2, _, _, _, by omega, hB3.tell hE, hT', by omega, rfl⟩
   · rw [hn] at hr hB2
     obtain ⟨_, rfl⟩ := hr.resolve_right (by rintro ⟨_, _, e, _⟩; cases e)
     have hz : ∀ (l : List AV), l.length = 10 → setFrom l 0 pairZ = pairZ := fun l a => setFrom_all _ _ (by rw [a, pairZ_len])
     obtain ⟨H3, hH3⟩ : ∃ H3, H3 = H2 ++ [ABlk.cells false pairZ] := ⟨_, rfl⟩
     have hB3 : Beside H3 s v q es ck cb N [] L v2 mM M me mck := by rw [hH3]; exact hB2.app
     rw [hD0] at hT
     obtain ⟨hall, hMl⟩ := hT.done hKs hB3.ents.uniq hah
     simp [hz, pairZ_len, zone _ pairZ_one, ← hH3]
     refine WCl.mono (c40k hB3.vlt (by omega) N hpN 0) ?_
     rintro kv _ ⟨Y, rfl, hkv⟩
     obtain ⟨K, hK⟩ : ∃ K, K = keysS s N := ⟨_, rfl⟩
     rw [← hK] at hkv hall hMl hah hKl
     have hB4 := hB3.app (X := Y)
     have hkv0 := hkv.mono (Nat.zero_le _)
     simp [hkv.len]
     refine loop_go [5, 6, 7, 17, 108, 109, 110] rfl (fun m vs H' => ∃ j, m + j = K.length ∧ Beside H' s v q es ck cb N [] L v2 mM M me mck ∧ Row 0 H' 1 strC K kv ∧ vs = [.ptr (some (2, 0)), .ptr (some (cb, 0)), .mapv (some mM), kv, kv, I K.length, I j]) ?_ K.length ⟨0, rfl, hB4, hkv0, rfl⟩
     rintro J3 hJ3 m3 vs H5 f3 ⟨j3, hm3, hB5, hr5, rfl⟩
     have hmap5 := hB5.map
     by_cases hi3 : j3 < K.length
     · have hw3 := wrap_succ (i := j3) (by omega)
       obtain ⟨k, hk⟩ : ∃ k, k = K[j3] := ⟨_, rfl⟩
       obtain ⟨p1, hp1, hp2⟩ := row_str0 hr5 hi3 (k := .i64)
       rw [← hk] at hp2
       have hlk := hall k (by rw [hk]; exact List.getElem_mem _)
       rcases hB5.ents.find (key := k) 0 with ⟨g1, g2⟩ | ⟨jx, r, b, g1, g2, g3⟩
       · rw [hlk] at g1; cases g1
       rw [hlk] at g1
       cases g1
       simp [lp4_2, hi3, hp1, hp2, hmap5, isKey, g2]
       refine WCl.mono (c23 hB5.vlt ok k H5.length (Nat.le_refl _)) ?_
       rintro _ _ ⟨Y5, q5, rfl, rfl, hq5⟩
       have f1 := (g3.app (X := Y5)).frz (d := 9) valC_len val_flat
       have f2 := hq5.frz (d := 9) valC_len val_flat
       have hfit := bag_fit (key := k) ok
       have hrb : reachBytes = 140737488351232 := rfl
       have ksm := fun H' K' => k25 (k := (bagOf s k).known) (k' := (bagOf s k).known) (l := (bagOf s k).vals) (l' := (bagOf s k).vals) (by omega) (H := H') (K := K')
       have hsm : bagSame (bagOf s k).known (bagOf s k).vals (bagOf s k).known (bagOf s k).vals = true := bagSame_refl (b := bagOf s k)
       rw [hsm] at ksm
       simp [f1, f2, ksm, hw3]
       exact nxt hJ3 (m3 - 1) (by omega) ⟨j3 + 1, by omega, hB5.app, hr5.app, rfl⟩
     · simp [lp4_2, hi3]
       refine WCl.mono (c32 hB5.vlt few hpN hB5.cur 0 (Nat.zero_le _)) ?_
       rintro _ _ ⟨rfl, Y6, rfl⟩
       have hov : overF (keysS s N) [] L = true := by rw [← hK]; simp [overF, hah]
       have hB6 := hB5.app (X := Y6)
       have hmap6 := hB6.map
       have hml : me.length = K.length := by rw [hB6.ents.len, hMl]
       simp [hov, hmap6, hml, hkv.len]
       refine WCl.mono (c33 hB6.cur 0 (Nat.zero_le _)) ?_
       rintro r _ ⟨Y7, rfl, hrow⟩
       simp [hrow.len, wPu_eq c19z, k34]
 · have hil' : ¬ i < l.length := by omega
   simp [lp4_0, hil', ← hGe]
   refine loop_go [0, 5, 6, 7, 89] rfl (fun m vs H' => ∃ j D L cv M me mck, m + j = 200 ∧ Beside H' s v q es ck cb N D L cv mM M me mck ∧ Told (keysS s N) D L M (bagOf s) ∧ remF (keysS s N) D L + j ≤ 80 ∧ vs = [I N, .ptr (some (2, 0)), .ptr (some (cb, 0)), .mapv (some mM), I j]) ?_ 200 ⟨0, D, L, cv, M, me, mck, rfl, hBG, hT, by omega, rfl⟩
   clear hBG hB hT hbound hGe hDl
   rintro J2 hJ2 m2 vs H f2 ⟨j, D, L, cv, M, me, mck, hm2, hB, hT, hbound, rfl⟩
   have hj : j < 200 := by omega
   have hj' : (j : Int) < 200 := by omega
   have hwj := wrap_succ (i := j) (by omega)
   simp [lp4_1, hj, hj']
   refine WCl.mono (c28 hB.vlt ok few hpN hB.cur) ?_
   rintro r H2 ⟨hr, v2, h2, fr2⟩
   have hB2 := hB.goes h2 fr2
   rcases hT.next hB.cur.strict hKs with ⟨k', D', L', hn, hkm, hT', hrem, hDD⟩ | ⟨hn, hD0, hah⟩
   · rw [hn] at hr hB2
     obtain ⟨k2, q', e, rfl, hrow⟩ := hr.resolve_left (by rintro ⟨e, _⟩; cases e)
     cases e
     have o1 := hrow.one
     obtain ⟨B, hB_⟩ : ∃ B, B = pairC k' (bagOf s k').known q' := ⟨_, rfl⟩
     have Blen : B.length = 10 := by rw [hB_]; exact pairC_len
     have hover : ∀ (l : List AV), l.length = 10 → setFrom l 0 B = B := fun l a => setFrom_all _ _ (by rw [a, Blen])
     have Bone := zone B (by rw [hB_]; exact pairC_one o1)
     have B0 : B.take 1 = [.str k'] := by rw [hB_]; rfl
     have B1 : B.tail.take 9 = bagV (bagOf s k').known q' := by rw [hB_]; rfl
     have B2 : (B.drop 1).take 9 = bagV (bagOf s k').known q' := by rw [hB_]; rfl
     have B01 : cut B 0 1 = some [.str k'] := by rw [hB_]; rfl
     have B19 : cut B 1 9 = some (bagV (bagOf s k').known q') := by rw [hB_]; rfl
     obtain ⟨H3, hH3⟩ : ∃ H3, H3 = H2 ++ [ABlk.cells false B] := ⟨_, rfl⟩
     have hB3 : Beside H3 s v q es ck cb N D' L' v2 mM M me mck := by rw [hH3]; exact hB2.app
     have b3' : H3[H2.length]? = some (.cells false B) := by rw [hH3]; simp
     have b3 := cells_of b3'
     have hrow3 : Row 0 H3 3 valC (bagOf s k').vals q' := by rw [hH3]; exact (hrow.mono (Nat.zero_le _)).app
     have hmap3 := hB3.map
     rcases hB3.ents.find (key := k') 0 with ⟨g1, g2⟩ | ⟨jx, r, b, g1, g2, g3⟩
     · have hE := hB3.ents.put (x := bagOf s k') hrow3 g1 mck
       simp [← hB_, hover, Blen, Bone, ← hH3, b3, B0, B1, B2, shapeOf, o1, hmap3, isKey, g2, hwj]
       exact nxt hJ2 (m2 - 1) (by omega) ⟨j + 1, D', L', v2, _, _, _, by omega, hB3.tell hE, hT', by omega, rfl⟩
     · have hE := hB3.ents.over (x := bagOf s k') hrow3 g2
       rw [Nat.sub_zero] at hE
       simp [← hB_, hover, Blen, Bone, ← hH3, b3, B0, B1, B2, shapeOf, o1, hmap3, isKey, g2, hwj]
       exact nxt hJ2 (m2 - 1) (by omega) ⟨j + 1, D', L', v2, _, _, _, by omega, hB3.tell hE, hT', by omega, rfl⟩
   · rw [hn] at hr hB2
     obtain ⟨_, rfl⟩ := hr.resolve_right (by rintro ⟨_, _, e, _⟩; cases e)
     have hz : ∀ (l : List AV), l.length = 10 → setFrom l 0 pairZ = pairZ := fun l a => setFrom_all _ _ (by rw [a, pairZ_len])
     obtain ⟨H3, hH3⟩ : ∃ H3, H3 = H2 ++ [ABlk.cells false pairZ] := ⟨_, rfl⟩
     have hB3 : Beside H3 s v q es ck cb N [] L v2 mM M me mck := by rw [hH3]; exact hB2.app
     rw [hD0] at hT
     obtain ⟨hall, hMl⟩ := hT.done hKs hB3.ents.uniq hah
     simp [hz, pairZ_len, zone _ pairZ_one, ← hH3]
     refine WCl.mono (c40k hB3.vlt (by omega) N hpN 0) ?_
     rintro kv _ ⟨Y, rfl, hkv⟩
     obtain ⟨K, hK⟩ : ∃ K, K = keysS s N := ⟨_, rfl⟩
     rw [← hK] at hkv hall hMl hah hKl
     have hB4 := hB3.app (X := Y)
     have hkv0 := hkv.mono (Nat.zero_le _)
     simp [hkv.len]
     refine loop_go [5, 6, 7, 17, 108, 109, 110] rfl (fun m vs H' => ∃ j, m + j = K.length ∧ Beside H' s v q es ck cb N [] L v2 mM M me mck ∧ Row 0 H' 1 strC K kv ∧ vs = [.ptr (some (2, 0)), .ptr (some (cb, 0)), .mapv (some mM), kv, kv, I K.length, I j]) ?_ K.length ⟨0, rfl, hB4, hkv0, rfl⟩
     rintro J3 hJ3 m3 vs H5 f3 ⟨j3, hm3, hB5, hr5, rfl⟩
     have hmap5 := hB5.map
     by_cases hi3 : j3 < K.length
     · have hw3 := wrap_succ (i := j3) (by omega)
       obtain ⟨k, hk⟩ : ∃ k, k = K[j3] := ⟨_, rfl⟩
       obtain ⟨p1, hp1, hp2⟩ := row_str0 hr5 hi3 (k := .i64)
       rw [← hk] at hp2
       have hlk := hall k (by rw [hk]; exact List.getElem_mem _)
       rcases hB5.ents.find (key := k) 0 with ⟨g1, g2⟩ | ⟨jx, r, b, g1, g2, g3⟩
       · rw [hlk] at g1; cases g1
       rw [hlk] at g1
       cases g1
       simp [lp4_2, hi3, hp1, hp2, hmap5, isKey, g2]
       refine WCl.mono (c23 hB5.vlt ok k H5.length (Nat.le_refl _)) ?_
       rintro _ _ ⟨Y5, q5, rfl, rfl, hq5⟩
       have f1 := (g3.app (X := Y5)).frz (d := 9) valC_len val_flat
       have f2 := hq5.frz (d := 9) valC_len val_flat
       have hfit := bag_fit (key := k) ok
       have hrb : reachBytes = 140737488351232 := rfl
       have ksm := fun H' K' => k25 (k := (bagOf s k).known) (k' := (bagOf s k).known) (l := (bagOf s k).vals) (l' := (bagOf s k).vals) (by omega) (H := H') (K := K')
       have hsm : bagSame (bagOf s k).known (bagOf s k).vals (bagOf s k).known (bagOf s k).vals = true := bagSame_refl (b := bagOf s k)
       rw [hsm] at ksm
       simp [f1, f2, ksm, hw3]
       exact nxt hJ3 (m3 - 1) (by omega) ⟨j3 + 1, by omega, hB5.app, hr5.app, rfl⟩
     · simp [lp4_2, hi3]
       refine WCl.mono (c32 hB5.vlt few hpN hB5.cur 0 (Nat.zero_le _)) ?_
       rintro _ _ ⟨rfl, Y6, rfl⟩
       have hov : overF (keysS s N) [] L = true := by rw [← hK]; simp [overF, hah]
       have hB6 := hB5.app (X := Y6)
       have hmap6 := hB6.map
       have hml : me.length = K.length := by rw [hB6.ents.len, hMl]
       simp [hov, hmap6, hml, hkv.len]
       refine WCl.mono (c33 hB6.cur 0 (Nat.zero_le _)) ?_
       rintro r _ ⟨Y7, rfl, hrow⟩
       simp [hrow.len, wPu_eq c19z, k34]
theorem foldAll_law (cs : List AV) (h : FitsArgs [(false, .int .i64), (false, .sl 2 16 (.cat [iS, iS]))] cs) : ∃ n H', callF envE (exec envE n) 4 cs 0 [] = some (.bool true, H') := by
 obtain ⟨a, rest, rfl, h1, t⟩ := fa_one h
 obtain ⟨c, rest, rfl, h2, t⟩ := fa_one t
 cases fa_nil t
 obtain ⟨y, e2, _⟩ := fits_int h1
 obtain ⟨l, e1, _, hl⟩ := fits_sl (f := callC19) (fun r hr => by
  obtain ⟨a0, r1, rfl, k1⟩ := of_cat_int hr
  obtain ⟨a1, r2, rfl, k2⟩ := of_cat_int k1
  have := fits_nil k2; subst this
  exact ⟨(a0, a1), rfl⟩) h2
 cases e1
 cases e2
 have hrb : reachBytes = 140737488351232 := rfl
 exact law_of (foldAll_pu y l (by omega)) (by simp)
end Go.Proofs.YtgbnbgkldeifkaaGreatA

namespace Go.Proofs.YtgbnbgkldeifkaaGreat.foldAll
open Go.ChangeShapes Go.WideShapes Go.ChangeAt Go.RowKit
set_option linter.unusedVariables false
theorem own : ownKnob Tryz.prog.godebug = none := by kernel_rfl
set_option maxRecDepth 1000000 in
theorem lifted (os : Os) (started : os.Started) (H : Type) (enc : TypeId × Value → H) :
    ReturnsInHanded {} Tryz.checked os 4 .any (Rows.foldAllSpec.pre6 enc Tryz.prog Tryz.f4 Rows.foldAllRow.domain false) (Rows.foldAllSpec.post enc Tryz.prog Tryz.f4 false true false false) :=
  YtgbnbgkldeifkaaGreatA.law_lifted (C := Tryz.checked) YtgbnbgkldeifkaaGreatA.env_good (fd := YtgbnbgkldeifkaaGreatA.fd4) (tb := 4) rfl own started (by kernel_rfl) Tryz.func4
    (ChangeSpec.witness6 (enc := enc) (C := Tryz.checked) false ⟨#[], #[((Tryz.prog.info? 3).bind (·.zero)).getD .nilFunc, ((Tryz.prog.info? 58).bind (·.zero)).getD .nilFunc], []⟩ 8 (by kernel_rfl) (by kernel_rfl) (by kernel_rfl) (by kernel_rfl))
    (by kernel_rfl) (by decide +kernel) (by kernel_rfl) rfl (by kernel_rfl) (by kernel_rfl) (fun ds h => by
      match ds, h with
      | [d0, d1], _ => rfl) YtgbnbgkldeifkaaGreatA.foldAll_law
theorem over : Rows.foldAllRow.holds Tryz.pinned (OpenSpec.ofChange Rows.foldAllSpec) :=
  OpenClaim.holds_of_wide 4 Tryz.f4 rfl rfl rfl rfl rfl rfl rfl ⟨rfl, rfl, rfl, rfl, rfl⟩ rfl rfl rfl rfl rfl (by kernel_rfl) Tryz.func4 (by kernel_rfl)
    (of_decide_eq_true (by kernel_rfl)) (by unfold Func.isWrapper; first | (rw [if_pos (by decide +kernel)]; kernel_rfl) | (rw [if_neg (by decide +kernel)]; exact ⟨rfl, rfl⟩))
    (fun os started H enc _ => lifted os started H enc)
end Go.Proofs.YtgbnbgkldeifkaaGreat.foldAll
namespace Go.Proofs.YtgbnbgkldeifkaaGreat
/-- The row, under a short name, for the claim. -/
theorem foldAll_holds : Rows.FoldAllSaid := foldAll.over
#print axioms foldAll_holds
end Go.Proofs.YtgbnbgkldeifkaaGreat


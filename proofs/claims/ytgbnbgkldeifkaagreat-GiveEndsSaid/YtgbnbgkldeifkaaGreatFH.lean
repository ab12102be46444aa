/- Heaps (the lowest on top) in plain words: what up and down keep. A pile of texts, and the library's heap over it. The library's heap over a pile of texts: Swap, up, down. The library's heap over a pile of texts: down, Push, Pop. The library's heap over a pile of texts: Push, Pop. No statement about the program is proved here. -/
import Derived.Test.YtgbnbgkldeifkaaGreatA32
import Derived.Test.YtgbnbgkldeifkaaGreatVK
namespace Go.Proofs.YtgbnbgkldeifkaaGreatA
open Go
set_option linter.unusedVariables false
section
variable {α:Type}
def par (k:Nat):Nat:=(k - 1) / 2
theorem par_lt {k:Nat} (h:0 < k):par k < k:=by unfold par;omega
def swapL (l:List α) (i j:Nat):List α :=
 match l[i]?,l[j]? with
 | some x,some y=>(l.set i y).set j x
 | _,_=>l
theorem swap_len {l:List α} {i j:Nat}:(swapL l i j).length=l.length:=by
 unfold swapL
 split <;> simp
theorem swap_at {l:List α} {i j:Nat} (hi:i < l.length) (hj:j < l.length):swapL l i j=(l.set i l[j]).set j l[i]:=by
 unfold swapL
 rw [List.getElem?_eq_getElem hi,List.getElem?_eq_getElem hj]
theorem swap_get {l:List α} {i j:Nat} (hi:i < l.length) (hj:j < l.length) (k:Nat):(swapL l i j)[k]?=if k=j then l[i]? else if k=i then l[j]? else l[k]?:=by
 rw [swap_at hi hj]
 by_cases h:k=j
 · subst h
   rw [if_pos rfl,List.getElem?_set_self (by simpa using hj),List.getElem?_eq_getElem hi]
 · rw [if_neg h,List.getElem?_set_ne (Ne.symm h)]
   by_cases h2:k=i
   · subst h2
     rw [if_pos rfl,List.getElem?_set_self hi,List.getElem?_eq_getElem hj]
   · rw [if_neg h2,List.getElem?_set_ne (Ne.symm h2)]
theorem swap_perm {l:List α} {i j:Nat} (hi:i < l.length) (hj:j < l.length):(swapL l i j).Perm l:=by
 rw [swap_at hi hj]
 exact List.set_set_perm hi hj
variable (lt:α→α→Bool)
def ge (l:List α) (a b:Nat):Prop:=∀ x y,l[a]?=some x→l[b]?=some y→lt x y=false
def HeapN (l:List α) (n:Nat):Prop:=∀ k,0 < k→k < n→ge lt l k (par k)
def HeapUp (l:List α) (n j:Nat):Prop:=(∀ k,0 < k→k < n→k ≠ j→ge lt l k (par k))∧∀ k,0 < k→k < n→par k=j→0 < j→ge lt l k (par j)
def HeapDn (l:List α) (n i:Nat):Prop:=(∀ k,0 < k→k < n→par k ≠ i→ge lt l k (par k))∧∀ k,0 < k→k < n→par k=i→0 < i→ge lt l k (par i)
def HeapBo (l:List α) (n i:Nat):Prop:=(∀ k,0 < k→k < n→k ≠ i→par k ≠ i→ge lt l k (par k))∧∀ k,0 < k→k < n→par k=i→0 < i→ge lt l k (par i)
structure Ord:Prop where
 asym:∀ x y,lt x y=true→lt y x=false
 tr:∀ x y z,lt y x=false→lt z y=false→lt z x=false
variable {lt} {l:List α} {n i j:Nat}
theorem ge_of {a b:Nat} {x y:α} (ha:l[a]?=some x) (hb:l[b]?=some y):ge lt l a b ↔ lt x y=false:=by
 constructor
 · exact fun h=>h x y ha hb
 · intro h x' y' h1 h2
   rw [ha] at h1
   rw [hb] at h2
   cases h1
   cases h2
   exact h
theorem HeapDn.bo (h:HeapDn lt l n i):HeapBo lt l n i:=⟨fun k a b _ d=>h.1 k a b d,h.2⟩
theorem up_step (o:Ord lt) (hn:n≤l.length) (h:HeapUp lt l n j) (hj:0 < j) (hjn:j < n) {x y:α} (hx:l[j]?=some x) (hy:l[par j]?=some y) (hlt:lt x y=true):HeapUp lt (swapL l (par j) j) n (par j):=by
 have hp:=par_lt hj
 have g:=swap_get (l:=l) (i:=par j) (j:=j) (by omega) (by omega)
 have gj:(swapL l (par j) j)[j]?=some y:=by rw [g,if_pos rfl,hy]
 have gi:(swapL l (par j) j)[par j]?=some x:=by rw [g,if_neg (by omega),if_pos rfl,hx]
 have go:∀ k,k ≠ j→k ≠ par j→(swapL l (par j) j)[k]?=l[k]?:=fun k a b=>by rw [g,if_neg a,if_neg b]
 have hyx:=o.asym _ _ hlt
 constructor
 · intro k k0 kn ki
   by_cases kj:k=j
   · subst kj
     rw [ge_of gj gi]
     exact hyx
   · have gk:=go k kj ki
     by_cases e1:par k=j
     · rw [e1]
       intro a b ha hb
       rw [gk] at ha
       rw [gj] at hb
       cases hb
       exact h.2 k k0 kn e1 hj a y ha hy
     · by_cases e2:par k=par j
       · rw [e2]
         intro a b ha hb
         rw [gk] at ha
         rw [gi] at hb
         cases hb
         have h1:=h.1 k k0 kn kj
         rw [e2] at h1
         exact o.tr _ _ _ hyx (h1 a y ha hy)
       · intro a b ha hb
         rw [gk] at ha
         rw [go _ e1 e2] at hb
         exact h.1 k k0 kn kj a b ha hb
 · intro k k0 kn e i0
   have hpp:=par_lt i0
   have gpp:=go (par (par j)) (by omega) (by omega)
   have hjj:=h.1 (par j) i0 (by omega) (by omega)
   by_cases kj:k=j
   · subst kj
     intro a b ha hb
     rw [gj] at ha
     cases ha
     rw [gpp] at hb
     exact hjj y b hy hb
   · have hk:=par_lt k0
     intro a b ha hb
     rw [go k kj (by omega)] at ha
     rw [gpp] at hb
     have h1:=h.1 k k0 kn kj
     rw [e] at h1
     exact o.tr b y a (hjj y b hy hb) (h1 a y ha hy)
theorem up_end (h:HeapUp lt l n j) (he:j=0∨ge lt l j (par j)):HeapN lt l n:=by
 intro k k0 kn
 by_cases kj:k=j
 · subst kj
   rcases he with e | e
   · omega
   · exact e
 · exact h.1 k k0 kn kj
theorem push_up {x:α} (h:HeapN lt l l.length):HeapUp lt (l++[x]) (l.length + 1) l.length:=by
 constructor
 · intro k k0 kn ki a b ha hb
   have:=par_lt k0
   rw [List.getElem?_append_left (by omega)] at ha
   rw [List.getElem?_append_left (by omega)] at hb
   exact h k k0 (by omega) a b ha hb
 · intro k k0 kn e _
   have:=par_lt k0
   omega
theorem par_two {k i:Nat} (k0:0 < k):par k=i ↔ k=2 * i + 1∨k=2 * i + 2:=by unfold par;omega
theorem dn_step (o:Ord lt) (hn:n≤l.length) (h:HeapBo lt l n i) (hin:i < n) (hjn:j < n) (hj0:0 < j) (hpar:par j=i) {x y:α} (hx:l[j]?=some x) (hy:l[i]?=some y) (hlt:lt x y=true) (hbest:∀ k,0 < k→k < n→par k=i→ge lt l k j):HeapDn lt (swapL l i j) n j:=by
 have hp:=par_lt hj0
 have g:=swap_get (l:=l) (i:=i) (j:=j) (by omega) (by omega)
 have gj:(swapL l i j)[j]?=some y:=by rw [g,if_pos rfl,hy]
 have gi:(swapL l i j)[i]?=some x:=by rw [g,if_neg (by omega),if_pos rfl,hx]
 have go:∀ k,k ≠ j→k ≠ i→(swapL l i j)[k]?=l[k]?:=fun k a b=>by rw [g,if_neg a,if_neg b]
 have hyx:=o.asym _ _ hlt
 constructor
 · intro k k0 kn kp
   have hk:=par_lt k0
   by_cases kj:k=j
   · subst kj
     rw [hpar,ge_of gj gi]
     exact hyx
   · by_cases ki:k=i
     · subst ki
       intro a b ha hb
       rw [gi] at ha
       cases ha
       rw [go _ (by omega) (by omega)] at hb
       exact h.2 j hj0 hjn hpar k0 x b hx hb
     · intro a b ha hb
       rw [go k kj ki] at ha
       by_cases e:par k=i
       · rw [e,gi] at hb
         cases hb
         exact hbest k k0 kn e a x ha hx
       · rw [go _ kp e] at hb
         exact h.1 k k0 kn ki e a b ha hb
 · intro k k0 kn e _
   have hk:=par_lt k0
   rw [hpar]
   intro a b ha hb
   rw [gi] at hb
   cases hb
   rw [go k (by omega) (by omega)] at ha
   have h1:=h.1 k k0 kn (by omega) (by omega)
   rw [e] at h1
   exact h1 a x ha hx
theorem dn_end (o:Ord lt) (h:HeapDn lt l n i) (he:∀ k,0 < k→k < n→par k=i→ge lt l k i):HeapN lt l n:=by
 intro k k0 kn
 by_cases e:par k=i
 · rw [e]
   exact he k k0 kn e
 · exact h.1 k k0 kn e
theorem bo_end (h:HeapBo lt l n i) (he:∀ k,0 < k→k < n→par k=i→ge lt l k i):HeapUp lt l n i:=by
 constructor
 · intro k k0 kn ki
   by_cases e:par k=i
   · rw [e]
     exact he k k0 kn e
   · exact h.1 k k0 kn ki e
 · exact h.2
theorem top_low (o:Ord lt) (h:HeapN lt l n) (hn:n≤l.length):∀ k,k < n→ge lt l k 0:=by
 intro k
 induction k using Nat.strongRecOn with
 | ind k ih =>
  intro kn a b ha hb
  by_cases k0:k=0
  · subst k0
    rw [ha] at hb
    cases hb
    cases e:lt a a
    · rfl
    · rw [o.asym _ _ e] at e
      cases e
  · have hk:0 < k:=by omega
    have hp:=par_lt hk
    have hpl:par k < l.length:=by omega
    have g1:=h k hk kn a l[par k] ha (List.getElem?_eq_getElem hpl)
    have g2:=ih (par k) hp (by omega) l[par k] b (List.getElem?_eq_getElem hpl) hb
    exact o.tr _ _ _ g2 g1
theorem rem_bo (o:Ord lt) (h:HeapN lt l l.length) (hi:i < l.length) (hl:n + 1=l.length) (hin:i ≠ n):HeapBo lt (swapL l i n) n i:=by
 have g:=swap_get (l:=l) (i:=i) (j:=n) hi (by omega)
 have go:∀ k,k ≠ n→k ≠ i→(swapL l i n)[k]?=l[k]?:=fun k a b=>by rw [g,if_neg a,if_neg b]
 constructor
 · intro k k0 kn ki kp a b ha hb
   have:=par_lt k0
   rw [go k (by omega) ki] at ha
   rw [go _ (by omega) kp] at hb
   exact h k k0 (by omega) a b ha hb
 · intro k k0 kn e i0 a b ha hb
   have h1:=par_lt k0
   have h2:=par_lt i0
   rw [go k (by omega) (by omega)] at ha
   rw [go _ (by omega) (by omega)] at hb
   have g1:=h k k0 (by omega)
   rw [e] at g1
   exact o.tr _ _ _ (h i i0 hi l[i] b (List.getElem?_eq_getElem hi) hb) (g1 a l[i] ha (List.getElem?_eq_getElem hi))
theorem HeapN.take (h:HeapN lt l n) (hn:n≤l.length):HeapN lt (l.take n) n:=by
 intro k k0 kn a b ha hb
 have:=par_lt k0
 rw [List.getElem?_take_of_lt kn] at ha
 rw [List.getElem?_take_of_lt (by omega)] at hb
 exact h k k0 kn a b ha hb
theorem HeapUp.heap0 (h:HeapUp lt l n 0):HeapN lt l n:=fun k k0 kn=>h.1 k k0 kn (by omega)
theorem take_perm {l':List α} (hp:l'.Perm l) {x:α} (hl:n + 1=l.length) (hx:l'[n]?=some x):(x :: l'.take n).Perm l:=by
 have e:l'=l'.take n++[x]:=by
  have h1:l'.length=n + 1:=by rw [hp.length_eq,hl]
  have h2:=List.take_succ_eq_append_getElem (l:=l') (i:=n) (by omega)
  rw [List.take_of_length_le (by omega)] at h2
  rw [List.getElem?_eq_getElem (by omega)] at hx
  cases hx
  exact h2
 have h3:(l'.take n++[x]).Perm l:=by rw [← e];exact hp
 exact (List.perm_append_comm (l₁:=[x]) (l₂:=l'.take n)).trans h3
end
end Go.Proofs.YtgbnbgkldeifkaaGreatA
namespace Go.Proofs.YtgbnbgkldeifkaaGreatA
open Go
set_option linter.unusedSimpArgs false
set_option linter.unusedVariables false
set_option maxRecDepth 1000000
theorem sless_ord:Ord strLess where
 asym:=fun x y h=>by
  rw [Bool.eq_false_iff]
  intro q
  exact List.lt_asymm (strLess_iff.1 h) (strLess_iff.1 q)
 tr:=fun x y z h1 h2=>by
  rw [Bool.eq_false_iff] at *
  intro q
  have g1:¬ y < x:=fun e=>h1 (strLess_iff.2 e)
  have g2:¬ z < y:=fun e=>h2 (strLess_iff.2 e)
  exact (List.not_lt.2 (List.le_trans (List.not_lt.1 g1) (List.not_lt.1 g2))) (strLess_iff.1 q)
@[simp] theorem m143_Len : envE.meth 143 "Len" = some (258, some none) := by kernel_rfl
@[simp] theorem m143_Less : envE.meth 143 "Less" = some (259, some none) := by kernel_rfl
@[simp] theorem m143_Swap : envE.meth 143 "Swap" = some (260, some none) := by kernel_rfl
@[simp] theorem m143_Pop : envE.meth 143 "Pop" = some (261, none) := by kernel_rfl
@[simp] theorem m143_Push : envE.meth 143 "Push" = some (262, none) := by kernel_rfl
def curB (part:Int) (v:AV) (last:List UInt8):ABlk:=.cells false [I part,v,.str last]
def pileB (l:List (List UInt8)) (R:List AV):ABlk:=.cells true (l.map AV.str++R)
structure Pile (H:Heap) (cb b:Nat) (part:Int) (last:List UInt8) (l:List (List UInt8)) (R:List AV):Prop where
 box:H[cb]?=some (curB part (.sl b 0 l.length 1) last)
 row:H[b]?=some (pileB l R)
 few:l.length < 1000000000000
section
variable {H:Heap} {cb b:Nat} {part:Int} {last:List UInt8} {l:List (List UInt8)} {R:List AV}
theorem Pile.ne (h:Pile H cb b part last l R):cb ≠ b:=by
 rintro rfl
 have h1:=h.box
 rw [h.row] at h1
 cases h1
theorem Pile.load (h:Pile H cb b part last l R):loadAt H none (.ptr (some (cb,1)))=some (.sl b 0 l.length 1):=by
 simp [cells_of h.box,shapeOf]
theorem pile_cut {l:List (List UInt8)} {R:List AV}:cut (l.map AV.str++R) 0 (l.length * 1)=some (l.flatMap strC):=by
 rw [cut_at (by simp),flat_str]
 simp
theorem Pile.frz (h:Pile H cb b part last l R) {d:Nat}:Go.Proofs.YtgbnbgkldeifkaaGreatA.frz H (d + 2) (.sl b 0 l.length 1)=some (roL strC l):=by
 unfold Go.Proofs.YtgbnbgkldeifkaaGreatA.frz
 by_cases e:l.length=0
 · cases List.length_eq_zero_iff.1 e;rfl
 · simp only [e,if_false,Heap.cells?,h.row,pileB,Option.bind_some,pile_cut,str_flat.all H d l,Option.map_some]
   rfl
theorem Pile.set {l':List (List UInt8)} (h:Pile H cb b part last l R) (hl:l'.length=l.length):Pile (H.set b (pileB l' R)) cb b part last l' R:=by
 refine ⟨?_,?_,by rw [hl];exact h.few⟩
 · rw [hl]
   exact get_set h.box h.ne.symm
 · rw [List.getElem?_set_self (lt_of h.row)]
theorem Pile.set_set {x y:ABlk}:(H.set b x).set b y=H.set b y:=by simp
theorem Pile.same (h:Pile H cb b part last l R):H.set b (pileB l R)=H:=by
 apply List.ext_getElem?
 intro j
 rw [List.getElem?_set]
 split
 · rename_i e
   subst e
   rw [if_pos (lt_of h.row),h.row]
 · rfl
end
theorem c258 (l:List (List UInt8)):Pu envE 258 [roL strC l] (I l.length):=by
 refine pu_is e258 rfl ?_
 rw [fr_init (by simp [fd258])]
 simp [fd258,b258]
@[simp] theorem k258 {l:List (List UInt8)} {H:Heap} {K:AV→Heap→Prop}:wPu envE 258 (some [roL strC l]) H K=K (I l.length) H:=(wPu_eq (c258 l)).trans (by simp)
theorem c259 (l:List (List UInt8)) (i k:Nat) (hi:i < l.length) (hk:k < l.length):Pu envE 259 [roL strC l,I i,I k] (.bool (strLess l[i] l[k])):=by
 refine pu_is e259 rfl ?_
 rw [fr_init (by simp [fd259])]
 simp [fd259,b259,idxSl_roL hi,idxSl_roL hk,str_load hi,str_load hk,-load_tp,binStr]
theorem k259 {l:List (List UInt8)} {i k:Nat} (hi:i < l.length) (hk:k < l.length) {H:Heap} {K:AV→Heap→Prop}:wPu envE 259 (some [roL strC l,I i,I k]) H K=K (.bool (strLess l[i] l[k])) H:=(wPu_eq (c259 l i k hi hk)).trans (by simp)
end Go.Proofs.YtgbnbgkldeifkaaGreatA
namespace Go.Proofs.YtgbnbgkldeifkaaGreatA
open Go
set_option linter.unusedSimpArgs false
set_option linter.unusedVariables false
set_option maxRecDepth 1000000
section
variable {H:Heap} {cb b:Nat} {part:Int} {last:List UInt8} {l:List (List UInt8)} {R:List AV}
theorem pile_idx {i:Nat} (hi:i < l.length):cut (l.map AV.str++R) i 1=some [.str l[i]]:=by
 rw [cut_at (by simp;omega),List.drop_append_of_le_length (by simp;omega),List.drop_eq_getElem_cons (by simpa using hi)]
 simp
theorem pile_store {i:Nat} (hi:i < l.length) {x:List UInt8}:setFrom (l.map AV.str++R) i [.str x]=(l.set i x).map AV.str++R:=by
 simp only [setFrom]
 rw [List.set_append_left _ _ (by simpa using hi),List.map_set]
theorem pile_at (h:H[b]?=some (pileB l R)) {i:Nat} (hi:i < l.length):loadAt H none (.ptr (some (b,i)))=some (.str l[i]):=by
 simp [cells_of h,pileB,pile_idx hi,shapeOf]
theorem c260 (h:H[b]?=some (pileB l R)) (i k:Nat) (hi:i < l.length) (hk:k < l.length):Cl envE 260 [.sl b 0 l.length 1,I i,I k] 0 H (.tup []) (H.set b (pileB (swapL l i k) R)):=by
 refine cl_is e260 rfl ?_
 have e1:storeAt 0 H 1 (.ptr (some (b,i))) (.str l[k])=some (H.set b (pileB (l.set i l[k]) R)):=by
  have:=store_of (lim:=0) (n:=1) (o:=i) (v:=.str l[k]) (H:=H) h (by omega) (by simp [AV.cells]) (by simp;omega) (by simp [AV.cells,AV.one])
  rw [this]
  simp only [AV.cells,pile_store hi]
  rfl
 have h2:(H.set b (pileB (l.set i l[k]) R))[b]?=some (pileB (l.set i l[k]) R):=by rw [List.getElem?_set_self (lt_of h)]
 have e2:storeAt 0 (H.set b (pileB (l.set i l[k]) R)) 1 (.ptr (some (b,k))) (.str l[i])=some (H.set b (pileB (swapL l i k) R)):=by
  have:=store_of (lim:=0) (n:=1) (o:=k) (v:=.str l[i]) h2 (by omega) (by simp [AV.cells]) (by simp;omega) (by simp [AV.cells,AV.one])
  rw [this]
  simp only [AV.cells,pile_store (l:=l.set i l[k]) (by simpa using hk),Pile.set_set,swap_at hi hk]
  rfl
 rw [fr_init (by simp [fd260])]
 simp [fd260,b260,idxSl_sl hi,idxSl_sl hk,pile_at h hi,pile_at h hk,e1,e2,-load_ptr]
theorem k260 (h:H[b]?=some (pileB l R)) {i k:Nat} (hi:i < l.length) (hk:k < l.length) {K:AV→Heap→Prop}:WCl envE 260 [.sl b 0 l.length 1,I i,I k] 0 H K=K (.tup []) (H.set b (pileB (swapL l i k) R)):=WCl_eq (c260 h i k hi hk)
theorem par_int {j:Nat} (hj:0 < j) (hl:j < 4611686018427387904):IntKind.i64.wrap ((IntKind.i64.wrap ((j:Int) - 1)).tdiv 2)=(par j:Nat):=by
 have e:IntKind.i64.wrap ((j:Int) - 1)=((j - 1:Nat):Int):=by rw [wrap_i64] <;> omega
 have e2:((j - 1:Nat):Int).tdiv 2=((j - 1) / 2:Nat):=by
  rw [Int.tdiv_eq_ediv_of_nonneg (by omega)]
  omega
 rw [e,e2,wrap_i64] <;> first | omega | (unfold par;omega)
set_option maxHeartbeats 1000000 in
theorem c128 {j n:Nat} (h:Pile H cb b part last l R) (hn:l.length=n) (hu:HeapUp strLess l n j) (hj:j < n) :
 WCl envE 128 [.iface 143 (.ptr (some (cb,1))),I j] 0 H fun r H'=>∃ l',l'.Perm l∧HeapN strLess l' n∧H'=H.set b (pileB l' R):=by
 refine cl_of e128 rfl ?_
 rw [fr_init (by simp [fd128])]
 simp [fd128,b128]
 have few:=h.few
 refine loop_go [0,1] rfl (fun m vs H'=>∃ l' j',m=j'∧j' < n∧l'.Perm l∧HeapUp strLess l' n j'∧H'=H.set b (pileB l' R)∧vs=[.iface 143 (.ptr (some (cb,1))),I j']) ?_ j ⟨l,j,rfl,hj,.refl _,hu,h.same.symm,rfl⟩
 rintro J hJ m vs H' f ⟨l',j',rfl,hj',hp,hu',rfl,rfl⟩
 have hlen:=hp.length_eq
 have h':=h.set hlen
 have hl':l'.length=n:=by omega
 by_cases h0:m=0
 · subst h0
   have e0:IntKind.i64.wrap ((IntKind.i64.wrap (-1)).tdiv 2)=0:=by decide
   simp [lp128_0,e0]
   exact ⟨l',hp,up_end hu' (.inl rfl),rfl⟩
 · have hm:0 < m:=by omega
   have ep:=par_int hm (by omega)
   have hpl:=par_lt hm
   have hne:((par m:Nat):Int) ≠ (m:Int):=by omega
   have i1:m < l'.length:=by omega
   have i2:par m < l'.length:=by omega
   have hld:=h'.load
   have hfz:=h'.frz (d:=10)
   have kL:=fun H K=>k259 (l:=l') i1 i2 (H:=H) (K:=K)
   have kS:=fun K=>k260 (H:=H.set b (pileB l' R)) h'.row i2 i1 (K:=K)
   rw [Pile.set_set] at kS
   by_cases hlt:strLess l'[m] l'[par m]=true
   · simp [lp128_0,ep,hne,hld,hfz,kL,kS,hlt,-load_ptr]
     have hs:=up_step sless_ord (by omega) hu' hm (by omega) (List.getElem?_eq_getElem i1) (List.getElem?_eq_getElem i2) hlt
     exact nxt hJ (par m) hpl ⟨_,par m,rfl,by omega,(swap_perm i2 i1).trans hp,hs,rfl,rfl⟩
   · have hlt':strLess l'[m] l'[par m]=false:=by simpa using hlt
     simp [lp128_0,ep,hne,hld,hfz,kL,kS,hlt',-load_ptr]
     exact ⟨l',hp,up_end hu' (.inr ((ge_of (List.getElem?_eq_getElem i1) (List.getElem?_eq_getElem i2)).2 hlt')),rfl⟩
end
end Go.Proofs.YtgbnbgkldeifkaaGreatA
namespace Go.Proofs.YtgbnbgkldeifkaaGreatA
open Go
set_option linter.unusedSimpArgs false
set_option linter.unusedVariables false
set_option maxRecDepth 1000000
section
variable {H:Heap} {cb b:Nat} {part:Int} {last:List UInt8} {l:List (List UInt8)} {R:List AV}
set_option maxHeartbeats 2000000 in
theorem c147 {i n:Nat} (h:Pile H cb b part last l R) (hn:n≤l.length) (hin:i≤n) (hu:HeapBo strLess l n i) :
 WCl envE 147 [.iface 143 (.ptr (some (cb,1))),I i,I n] 0 H fun r H'=>∃ l',l'.Perm l∧(∀ k,n≤k→l'[k]?=l[k]?)∧H'=H.set b (pileB l' R)∧((r=.bool false∧l'=l∧HeapUp strLess l n i)∨(r=.bool true∧HeapN strLess l' n)):=by
 refine cl_of e147 rfl ?_
 rw [fr_init (by simp [fd147])]
 simp [fd147,b147]
 have few:=h.few
 refine loop_go [0,1,2,7] rfl (fun m vs H'=>∃ l' i',m=n - i'∧i'≤n∧l'.Perm l∧(∀ k,n≤k→l'[k]?=l[k]?)∧H'=H.set b (pileB l' R)∧HeapBo strLess l' n i'∧((i'=i∧l'=l)∨(i < i'∧HeapDn strLess l' n i'))∧vs=[.iface 143 (.ptr (some (cb,1))),I i,I n,I i']) ?_ (n - i) ⟨l,i,rfl,hin,.refl _,fun _ _=>rfl,h.same.symm,hu,.inl ⟨rfl,rfl⟩,rfl⟩
 rintro J hJ m vs H' f ⟨l',i',rfl,hi',hp,htl,rfl,hbo,hor,rfl⟩
 have hlen:=hp.length_eq
 have h':=h.set hlen
 obtain ⟨j1,hj1⟩:∃ j1,j1=2 * i' + 1:=⟨_,rfl⟩
 obtain ⟨j2,hj2⟩:∃ j2,j2=j1 + 1:=⟨_,rfl⟩
 have hw1:IntKind.i64.wrap (IntKind.i64.wrap (2 * (i':Int)) + 1)=(j1:Int):=by
  have e:IntKind.i64.wrap (2 * (i':Int))=2 * (i':Int):=by rw [wrap_i64] <;> omega
  rw [e,wrap_i64] <;> omega
 have hw2:IntKind.i64.wrap ((j1:Int) + 1)=(j2:Int):=by rw [wrap_i64] <;> omega
 have n0:¬ (j1:Int) < 0:=by omega
 have fin:(∀ k,0 < k→k < n→par k=i'→ge strLess l' k i')→∃ l'':List (List UInt8),l''.Perm l∧(∀ k,n≤k→l''[k]?=l[k]?)∧H.set b (pileB l' R)=H.set b (pileB l'' R)∧((AV.bool (decide ((i':Int) > i))=.bool false∧l''=l∧HeapUp strLess l n i)∨(AV.bool (decide ((i':Int) > i))=.bool true∧HeapN strLess l'' n)):=fun he=>by
  rcases hor with ⟨rfl,rfl⟩ | ⟨q1,q2⟩
  · exact ⟨l',hp,htl,rfl,.inl ⟨by simp,rfl,bo_end hbo he⟩⟩
  · exact ⟨l',hp,htl,rfl,.inr ⟨by simp;omega,dn_end sless_ord q2 he⟩⟩
 by_cases hA:n≤j1
 · simp [lp147_0,hw1,hA]
   have:=fin fun k k0 kn kp=>by rw [par_two k0] at kp;omega
   simpa using this
 · have i1:j1 < l'.length:=by omega
   have i0:i' < l'.length:=by omega
   have hld:=h'.load
   have hfz:=h'.frz (d:=10)
   have g0:=List.getElem?_eq_getElem i0
   have g1:=List.getElem?_eq_getElem i1
   -- the lower child
   have step:∀ j (ij:j < l'.length),j < n→0 < j→par j=i'→(∀ k,0 < k→k < n→par k=i'→ge strLess l' k j)→strLess l'[j] l'[i']=true →
    ∃ l'' i'',n - j=n - i''∧i''≤n∧l''.Perm l∧(∀ k,n≤k→l''[k]?=l[k]?)∧H.set b (pileB (swapL l' i' j) R)=H.set b (pileB l'' R)∧HeapBo strLess l'' n i''∧((i''=i∧l''=l)∨(i < i''∧HeapDn strLess l'' n i''))∧[AV.iface 143 (.ptr (some (cb,1))),I i,I n,I j]=[AV.iface 143 (.ptr (some (cb,1))),I i,I n,I i'']:=fun j ij jn j0 jp best hlt=>by
    have hd:=dn_step sless_ord (by omega) hbo (by omega) jn j0 jp (List.getElem?_eq_getElem ij) g0 hlt best
    refine ⟨_,j,rfl,by omega,(swap_perm i0 ij).trans hp,fun k hk=>?_,rfl,hd.bo,.inr ⟨?_,hd⟩,rfl⟩
    · rw [swap_get i0 ij,if_neg (by omega),if_neg (by omega)]
      exact htl k hk
    · have:=par_lt j0
      rcases hor with ⟨q,_⟩ | ⟨q,_⟩ <;> omega
   have kS1:=fun K=>k260 (H:=H.set b (pileB l' R)) h'.row i0 i1 (K:=K)
   have kL1:=fun H K=>k259 (l:=l') i1 i0 (H:=H) (K:=K)
   rw [Pile.set_set] at kS1
   have p1:par j1=i':=by rw [par_two (by omega)];omega
   by_cases hB:j2 < n
   · have i2:j2 < l'.length:=by omega
     have g2:=List.getElem?_eq_getElem i2
     have kL21:=fun H K=>k259 (l:=l') i2 i1 (H:=H) (K:=K)
     have kL2:=fun H K=>k259 (l:=l') i2 i0 (H:=H) (K:=K)
     have kS2:=fun K=>k260 (H:=H.set b (pileB l' R)) h'.row i0 i2 (K:=K)
     rw [Pile.set_set] at kS2
     have p2:par j2=i':=by rw [par_two (by omega)];omega
     by_cases hC:strLess l'[j2] l'[j1]=true
     · have best:∀ k,0 < k→k < n→par k=i'→ge strLess l' k j2:=fun k k0 kn kp=>by
        rw [par_two k0] at kp
        rcases kp with e | e
        · obtain rfl:k=j1:=by omega
          exact (ge_of g1 g2).2 (sless_ord.asym _ _ hC)
        · obtain rfl:k=j2:=by omega
          refine (ge_of g2 g2).2 ?_
          cases e3:strLess l'[k] l'[k]
          · rfl
          · rw [sless_ord.asym _ _ e3] at e3;cases e3
       by_cases hD:strLess l'[j2] l'[i']=true
       · simp [lp147_0,hw1,hA,n0,hw2,hB,hld,hfz,kL21,kL2,kS2,hC,hD,-load_ptr]
         exact nxt hJ (n - j2) (by omega) (step j2 i2 hB (by omega) p2 best hD)
       · have hD':strLess l'[j2] l'[i']=false:=by simpa using hD
         simp [lp147_0,hw1,hA,n0,hw2,hB,hld,hfz,kL21,kL2,kS2,hC,hD',-load_ptr]
         have:=fin fun k k0 kn kp=>by
          intro a c ha hc
          exact sless_ord.tr _ _ _ ((ge_of g2 g0).2 hD' _ _ g2 hc) (best k k0 kn kp a _ ha g2)
         simpa using this
     · have hC':strLess l'[j2] l'[j1]=false:=by simpa using hC
       have best:∀ k,0 < k→k < n→par k=i'→ge strLess l' k j1:=fun k k0 kn kp=>by
        rw [par_two k0] at kp
        rcases kp with e | e
        · obtain rfl:k=j1:=by omega
          refine (ge_of g1 g1).2 ?_
          cases e3:strLess l'[k] l'[k]
          · rfl
          · rw [sless_ord.asym _ _ e3] at e3;cases e3
        · obtain rfl:k=j2:=by omega
          exact (ge_of g2 g1).2 hC'
       by_cases hD:strLess l'[j1] l'[i']=true
       · simp [lp147_0,hw1,hA,n0,hw2,hB,hld,hfz,kL21,kL1,kS1,hC',hD,-load_ptr]
         exact nxt hJ (n - j1) (by omega) (step j1 i1 (by omega) (by omega) p1 best hD)
       · have hD':strLess l'[j1] l'[i']=false:=by simpa using hD
         simp [lp147_0,hw1,hA,n0,hw2,hB,hld,hfz,kL21,kL1,kS1,hC',hD',-load_ptr]
         have:=fin fun k k0 kn kp=>by
          intro a c ha hc
          exact sless_ord.tr _ _ _ ((ge_of g1 g0).2 hD' _ _ g1 hc) (best k k0 kn kp a _ ha g1)
         simpa using this
   · have best:∀ k,0 < k→k < n→par k=i'→ge strLess l' k j1:=fun k k0 kn kp=>by
      rw [par_two k0] at kp
      obtain rfl:k=j1:=by omega
      refine (ge_of g1 g1).2 ?_
      cases e3:strLess l'[k] l'[k]
      · rfl
      · rw [sless_ord.asym _ _ e3] at e3;cases e3
     by_cases hD:strLess l'[j1] l'[i']=true
     · simp [lp147_0,hw1,hA,n0,hw2,hB,hld,hfz,kL1,kS1,hD,-load_ptr]
       exact nxt hJ (n - j1) (by omega) (step j1 i1 (by omega) (by omega) p1 best hD)
     · have hD':strLess l'[j1] l'[i']=false:=by simpa using hD
       simp [lp147_0,hw1,hA,n0,hw2,hB,hld,hfz,kL1,kS1,hD',-load_ptr]
       have:=fin fun k k0 kn kp=>by
        intro a c ha hc
        exact sless_ord.tr _ _ _ ((ge_of g1 g0).2 hD' _ _ g1 hc) (best k k0 kn kp a _ ha g1)
       simpa using this
end
end Go.Proofs.YtgbnbgkldeifkaaGreatA
namespace Go.Proofs.YtgbnbgkldeifkaaGreatA
open Go
set_option linter.unusedSimpArgs false
set_option linter.unusedVariables false
set_option maxRecDepth 1000000
def Fr (H H':Heap) (cb:Nat) (v:AV):Prop:=H.length≤H'.length∧∀ (b:Nat) (z:ABlk),H[b]?=some z→b ≠ cb→Off v b→H'[b]?=some z
theorem Fr.refl {H:Heap} {cb:Nat} {v:AV}:Fr H H cb v:=⟨Nat.le_refl _,fun _ _ h _ _=>h⟩
theorem Fr.app {H X:Heap} {cb:Nat} {v:AV}:Fr H (H++X) cb v:=⟨by simp,fun _ _ h _ _=>get_app h⟩
section
variable {H:Heap} {cb b:Nat} {part:Int} {last:List UInt8} {l:List (List UInt8)} {R:List AV}
inductive PileV (H:Heap) (cb:Nat) (part:Int) (last:List UInt8):List (List UInt8)→AV→Prop
 | nil (h:H[cb]?=some (curB part .nilsl last)):PileV H cb part last [] .nilsl
 | sl {b:Nat} {l:List (List UInt8)} {R:List AV} (h:Pile H cb b part last l R):PileV H cb part last l (.sl b 0 l.length 1)
theorem PileV.box {v:AV} (h:PileV H cb part last l v):H[cb]?=some (curB part v last):=by
 cases h with
 | nil h=>exact h
 | sl h=>exact h.box
theorem PileV.app {X:Heap} {v:AV} (h:PileV H cb part last l v):PileV (H++X) cb part last l v:=by
 cases h with
 | nil h=>exact .nil (get_app h)
 | sl h=>exact .sl ⟨get_app h.box,get_app h.row,h.few⟩
theorem c262 {v:AV} (h:PileV H cb part last l v) (x:List UInt8) (few:l.length < 1000000000) :
 WCl envE 262 [.ptr (some (cb,1)),.iface 9 (.str x)] 0 H fun r H'=>r=.tup []∧H'.length=H.length + 2∧Pile H' cb (H.length + 1) part last (l++[x]) []∧Fr H H' cb v:=by
 refine cl_of e262 rfl ?_
 have hlt:=lt_of h.box
 cases h with
 | nil h =>
  have e1:storeAt 0 (H++[ABlk.cells true [.str x],ABlk.cells true [.str x]]) 1 (.ptr (some (cb,1))) (.sl (H.length + 1) 0 1 1)=some ((H++[ABlk.cells true [.str x],ABlk.cells true [.str x]]).set cb (curB part (.sl (H.length + 1) 0 1 1) last)):=by
   have:=store_of (lim:=0) (n:=1) (o:=1) (v:=.sl (H.length + 1) 0 1 1) (get_app (X:=[ABlk.cells true [.str x],ABlk.cells true [.str x]]) h) (by omega) (by simp [AV.cells]) (by simp) (by simp [AV.cells,AV.one])
   rw [this]
   rfl
  have hap:appendAV 0 (H++[ABlk.cells true [.str x]]) 1 16 .nilsl (.sl H.length 0 1 1)=some (.sl (H.length + 1) 0 1 1,H++[ABlk.cells true [.str x],ABlk.cells true [.str x]]):=by
   have hel:elems (H++[ABlk.cells true [.str x]]) 1 (.sl H.length 0 1 1)=some (1,[.str x]):=by
    simp [elems,cut]
   simp [appendAV,hel,AV.one,most]
  have hbx:=cells_of (get_app (X:=[ABlk.cells true [.str x]]) h)
  have hb0:=cells_of h
  rw [fr_init (by simp [fd262])]
  simp [fd262,b262,hb0,hbx,curB,shapeOf,hap,e1,AV.one]
  refine ⟨⟨?_,?_,by simp⟩,by simp,fun b z hb hn _=>get_set (get_app hb) (Ne.symm hn)⟩
  · rw [List.getElem?_set_self (by simp;omega)]
    rfl
  · refine get_set ?_ (by omega)
    simp [pileB]
 | @sl b _ R h =>
  have hbl:=lt_of h.row
  have hne:=h.ne
  have hap:appendAV 0 (H++[ABlk.cells true [.str x]]) 1 16 (.sl b 0 l.length 1) (.sl H.length 0 1 1)=some (.sl (H.length + 1) 0 (l.length + 1) 1,(H++[ABlk.cells true [.str x]]).set b .dead++[pileB (l++[x]) []]):=by
   have hel:elems (H++[ABlk.cells true [.str x]]) 1 (.sl H.length 0 1 1)=some (1,[.str x]):=by
    simp [elems,cut]
   have hr:(H++[ABlk.cells true [.str x]])[b]?=some (pileB l R):=get_app h.row
   have hc:cut (l.map AV.str++R) 0 (l.length * 1)=some (l.map AV.str):=by rw [pile_cut,flat_str]
   simp only [appendAV,hel,Option.bind_some,Nat.one_ne_zero,if_false,hr,pileB]
   rw [if_pos ⟨trivial,by omega,Nat.zero_le _,by simp [most];omega,by simp [most];omega,by simp [AV.one]⟩,hc]
   simp
  obtain ⟨H2,hH2⟩:∃ H2,H2=(H++[ABlk.cells true [.str x]]).set b .dead++[pileB (l++[x]) []]:=⟨_,rfl⟩
  have h2c:H2[cb]?=some (curB part (.sl b 0 l.length 1) last):=by rw [hH2];exact get_app (get_set (get_app h.box) hne.symm)
  have l2:H2.length=H.length + 2:=by rw [hH2];simp
  have e1:storeAt 0 H2 1 (.ptr (some (cb,1))) (.sl (H.length + 1) 0 (l.length + 1) 1)=some (H2.set cb (curB part (.sl (H.length + 1) 0 (l.length + 1) 1) last)):=by
   have:=store_of (lim:=0) (n:=1) (o:=1) (v:=.sl (H.length + 1) 0 (l.length + 1) 1) h2c (by omega) (by simp [AV.cells]) (by simp) (by simp [AV.cells,AV.one])
   rw [this]
   rfl
  have hbx:=cells_of (get_app (X:=[ABlk.cells true [.str x]]) h.box)
  have hb0:=cells_of h.box
  rw [← hH2] at hap
  rw [fr_init (by simp [fd262])]
  simp [fd262,b262,hb0,hbx,curB,shapeOf,hap,e1,AV.one]
  refine ⟨l2,⟨?_,?_,by simp;omega⟩,by simp;omega,fun c z hc hn ho=>get_set ?_ (Ne.symm hn)⟩
  · rw [List.getElem?_set_self (by omega)]
    simp [curB]
  · refine get_set ?_ (by omega)
    rw [hH2]
    have e:H.length + 1=((H++[ABlk.cells true [.str x]]).set b .dead).length:=by simp
    rw [e,List.getElem?_append_right (Nat.le_refl _)]
    simp
  · have hbc:b ≠ c:=fun e=>ho 0 l.length 1 (by rw [e])
    rw [hH2]
    exact get_app (get_set (get_app hc) hbc)
theorem c80 {v:AV} (h:PileV H cb part last l v) (hp:HeapN strLess l l.length) (x:List UInt8) (few:l.length < 1000000000) :
 WCl envE 80 [.iface 143 (.ptr (some (cb,1))),.iface 9 (.str x)] 0 H fun r H'=>r=.tup []∧∃ l',l'.Perm (l++[x])∧HeapN strLess l' l'.length∧Pile H' cb (H.length + 1) part last l' []∧Fr H H' cb v:=by
 refine cl_of e80 rfl ?_
 rw [fr_init (by simp [fd80])]
 simp [fd80,b80]
 refine WCl.mono (c262 h x few) ?_
 rintro _ H1 ⟨rfl,len1,hp1,fr1⟩
 have hld:=hp1.load
 have hfz:=hp1.frz (d:=10)
 have hw:IntKind.i64.wrap (l.length:Int)=(l.length:Int):=by rw [wrap_i64] <;> omega
 have hu:=push_up (x:=x) hp
 simp only [List.length_append,List.length_cons,List.length_nil,Nat.zero_add] at hld hfz
 simp [hld,hfz,hw,-load_ptr]
 refine WCl.mono (c128 hp1 (by simp) hu (by omega)) ?_
 rintro r H2 ⟨l',hperm,hheap,rfl⟩
 have hl:=hperm.length_eq
 simp only [List.length_append,List.length_cons,List.length_nil,Nat.zero_add] at hl
 simp
 refine ⟨l',hperm,by rw [hl];exact hheap,hp1.set (by simpa using hl),by simp;exact fr1.1,fun c z hc hn ho=>get_set (fr1.2 c z hc hn ho) ?_⟩
 have:=lt_of hc
 omega
theorem c261 {x:List UInt8} (h:Pile H cb b part last (l++[x]) R) :
 Cl envE 261 [.ptr (some (cb,1))] 0 H (.iface 9 (.str x)) (H.set cb (curB part (.sl b 0 l.length 1) last)):=by
 refine cl_is e261 rfl ?_
 have few:=h.few
 simp only [List.length_append,List.length_cons,List.length_nil,Nat.zero_add] at few
 have hld:=h.load
 simp only [List.length_append,List.length_cons,List.length_nil,Nat.zero_add] at hld
 have hw:IntKind.i64.wrap (l.length:Int)=(l.length:Int):=by rw [wrap_i64] <;> omega
 have e1:storeAt 0 H 1 (.ptr (some (cb,1))) (.sl b 0 l.length 1)=some (H.set cb (curB part (.sl b 0 l.length 1) last)):=by
  have:=store_of (lim:=0) (n:=1) (o:=1) (v:=.sl b 0 l.length 1) h.box (by omega) (by simp [AV.cells]) (by simp) (by simp [AV.cells,AV.one])
  rw [this]
  rfl
 have hi:l.length < (l++[x]).length:=by simp
 have hat:=pile_at h.row hi
 simp only [List.getElem_concat_length] at hat
 have hidx:=fun k=>idxSl_sl (k:=k) (b:=b) (o:=0) (es:=1) (show l.length < l.length + 1 by omega)
 have hcut:cutSl 1 (.sl b 0 (l.length + 1) 1) none (some (.int .i64 (l.length:Int))) none=some (.sl b 0 l.length 1):=by
  have h1:bnd (some (AV.int .i64 (l.length:Int))) (l.length + 1) (l.length + 1)=some l.length:=bnd_nat (by omega)
  have h2:(l.length:Int)≤(l.length:Int) + 1:=by omega
  simp [cutSl,h1,bnd,h2]
 rw [fr_init (by simp [fd261])]
 simp [fd261,b261,hld,hw,hidx,hat,hcut,e1,-load_ptr]
theorem c126 (h:Pile H cb b part last l R) (hp:HeapN strLess l l.length) (hne:l ≠ []) :
 WCl envE 126 [.iface 143 (.ptr (some (cb,1)))] 0 H fun r H'=>∃ x l',r=.iface 9 (.str x)∧(x :: l').Perm l∧(∀ y ∈ l,strLess y x=false)∧HeapN strLess l' l'.length∧Pile H' cb b part last l' (.str x :: R)∧H'.length=H.length∧∀ (c:Nat) (z:ABlk),H[c]?=some z→c ≠ cb→c ≠ b→H'[c]?=some z:=by
 refine cl_of e126 rfl ?_
 have hl0:0 < l.length:=List.length_pos_iff.2 hne
 obtain ⟨n,hn⟩:∃ n,l.length=n + 1:=⟨l.length - 1,by omega⟩
 have few:=h.few
 have hld:=h.load
 have hfz:=h.frz (d:=10)
 have hw:IntKind.i64.wrap ((l.length:Int) - 1)=(n:Int):=by rw [wrap_i64] <;> omega
 have i0:0 < l.length:=hl0
 have in':n < l.length:=by omega
 have kS:=fun K=>k260 h.row i0 in' (K:=K)
 have h1:=h.set (l':=swapL l 0 n) swap_len
 have hld1:=h1.load
 simp only [Int.natCast_zero,Int.ofNat_zero,Int.cast_ofNat_Int,Int.natCast_eq_zero] at kS
 rw [fr_init (by simp [fd126])]
 simp [fd126,b126,hld,hfz,hw,kS,-load_ptr]
 have hbo:HeapBo strLess (swapL l 0 n) n 0:=by
  by_cases q:n=0
  · subst q
    exact ⟨fun k k0 kn=>by omega,fun k k0 kn=>by omega⟩
  · exact rem_bo sless_ord hp i0 (by omega) (by omega)
 refine WCl.mono (c147 h1 (by rw [swap_len];omega) (Nat.zero_le _) hbo) ?_
 rintro r H2 ⟨l2,p2,t2,rfl,hor⟩
 have hl2:=p2.length_eq
 rw [swap_len] at hl2
 have hh2:HeapN strLess l2 n:=by
  rcases hor with ⟨_,rfl,hu⟩ | ⟨_,hh⟩
  · exact hu.heap0
  · exact hh
 have hr:∃ c,r=.bool c:=by
  rcases hor with ⟨rfl,_⟩ | ⟨rfl,_⟩ <;> exact ⟨_,rfl⟩
 obtain ⟨c,rfl⟩:=hr
 have hx:l2[n]?=some l[0]:=by
  rw [t2 n (Nat.le_refl _),swap_get i0 in',if_pos rfl,List.getElem?_eq_getElem i0]
 have e2:l2=l2.take n++[l[0]]:=by
  have h3:=List.take_succ_eq_append_getElem (l:=l2) (i:=n) (by omega)
  rw [List.take_of_length_le (by omega)] at h3
  rw [List.getElem?_eq_getElem (by omega)] at hx
  have h4:=Option.some.inj hx
  rw [h4] at h3
  exact h3
 have h2:=h1.set (l':=l2) (by rw [swap_len];exact hl2)
 rw [Pile.set_set] at h2
 have htl:(l2.take n).length=n:=by simp;omega
 have hP:Pile (H.set b (pileB l2 R)) cb b part last (l2.take n++[l[0]]) R:=by rw [← e2];exact h2
 have kP:=fun K=>WCl_eq (K:=K) (c261 hP)
 have h2r:(H.set b (pileB l2 R))[b]?=some (pileB (l2.take n) (.str l[0] :: R)):=by
  rw [h2.row]
  conv=>lhs;rw [e2]
  simp [pileB]
 simp [kP]
 refine ⟨l2.take n,?_,?_,by rw [htl];exact hh2.take (by omega),⟨?_,get_set h2r h.ne,by omega⟩,fun c z hc n1 n2=>get_set (get_set hc (Ne.symm n2)) (Ne.symm n1)⟩
 · exact (take_perm (p2.trans (swap_perm i0 in')) (by omega) hx)
 · intro y hy
   obtain ⟨k,hk,rfl⟩:=List.getElem_of_mem hy
   exact top_low sless_ord hp (Nat.le_refl _) k hk _ _ (List.getElem?_eq_getElem hk) (List.getElem?_eq_getElem i0)
 · rw [List.getElem?_set_self (by simp;exact lt_of h.box),htl,Nat.min_eq_left (by omega)]
end
end Go.Proofs.YtgbnbgkldeifkaaGreatA

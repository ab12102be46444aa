/- The sort of a giver's pile by sequence. No statement about the program is proved here. -/
import Derived.Test.YtgbnbgkldeifkaaGreatGM
namespace Go.Proofs.YtgbnbgkldeifkaaGreatA
open Go
set_option linter.unusedSimpArgs false
set_option linter.unusedVariables false
set_option maxRecDepth 1000000
def Srt (l:List OutM) (i j:Nat):Prop:=∀ p q x y,p < q→q≤i→q ≠ j→l[p]?=some x→l[q]?=some y→oLess y x=false
def SrtTo (l:List OutM) (n:Nat):Prop:=∀ p q x y,p < q→q < n→l[p]?=some x→l[q]?=some y→oLess y x=false
theorem srt_begin {l:List OutM} {i:Nat} (h:SrtTo l i):Srt l i i:=fun p q x y hpq hq hn hx hy=>h p q x y hpq (by omega) hx hy
theorem srt_end {l:List OutM} {i j:Nat} (h:Srt l i j) (hj:j≤i) (he:j=0∨∀ x y,l[j - 1]?=some x→l[j]?=some y→oLess y x=false) (hl:i < l.length):SrtTo l (i + 1):=by
 intro p q x y hpq hq hx hy
 by_cases e:q=j
 · subst e
   rcases he with e0 | e1
   · omega
   · by_cases e2:p=q - 1
     · subst e2;exact e1 x y hx hy
     · have hq1:q - 1 < l.length:=by omega
       have h1:=h p (q - 1) x _ (by omega) (by omega) (by omega) hx (List.getElem?_eq_getElem hq1)
       exact oless_ord.tr _ _ _ h1 (e1 _ y (List.getElem?_eq_getElem hq1) hy)
 · exact h p q x y hpq (by omega) e hx hy
theorem srt_step {l:List OutM} {i j:Nat} (h:Srt l i j) (hj:0 < j) (hji:j≤i) (hl:i < l.length) (hlt:∀ x y,l[j - 1]?=some x→l[j]?=some y→oLess y x=true):Srt (swapL l j (j - 1)) i (j - 1):=by
 have g:=swap_get (l:=l) (i:=j) (j:=j - 1) (by omega) (by omega)
 intro p q x y hpq hq hn hx hy
 rw [g] at hx hy
 have hj1:j - 1 < l.length:=by omega
 have hj2:j < l.length:=by omega
 have a1:=List.getElem?_eq_getElem hj1
 have a2:=List.getElem?_eq_getElem hj2
 rw [if_neg hn] at hy
 by_cases e1:q=j
 · rw [if_pos e1,a1] at hy
   cases hy
   by_cases e2:p=j - 1
   · rw [if_pos e2,a2] at hx
     cases hx
     exact oless_ord.asym _ _ (hlt _ _ a1 a2)
   · rw [if_neg e2,if_neg (by omega)] at hx
     exact h p (j - 1) x _ (by omega) (by omega) (by omega) hx a1
 · rw [if_neg e1] at hy
   by_cases e2:p=j - 1
   · rw [if_pos e2,a2] at hx
     cases hx
     exact h j q _ y (by omega) hq e1 a2 hy
   · rw [if_neg e2] at hx
     by_cases e3:p=j
     · rw [if_pos e3,a1] at hx
       cases hx
       exact h (j - 1) q _ y (by omega) hq e1 a1 hy
     · rw [if_neg e3] at hx
       exact h p q x y hpq hq e1 hx hy
section
variable {H:Heap} {gb b cb:Nat} {g:Giv} {l:List OutM} {R:List AV}
theorem c145 (o p:OutM) (h1:AV.one o.r=true) (h2:AV.one p.r=true) (ho:0≤o.seq∧o.seq < 1000000000000) (hp:0≤p.seq∧p.seq < 1000000000000) (lim:Nat) (H:Heap) :
 WCl envE 145 [.agg (outC o),.agg (outC p)] lim H fun r H'=>r=I (o.seq - p.seq)∧∃ X,H'=H++X:=by
 refine cl_of e145 rfl ?_
 have oone:(∀ x:AV,x ∈ outC o→x.one=true)=True:=eq_true (List.all_eq_true.1 (outV_one h1))
 have pone:(∀ x:AV,x ∈ outC p→x.one=true)=True:=eq_true (List.all_eq_true.1 (outV_one h2))
 have e0:cut (outC o) 0 1=some [I o.seq]:=hard rfl
 have e1:cut (outC p) 0 1=some [I p.seq]:=hard rfl
 have hw:IntKind.i64.wrap (o.seq - p.seq)=o.seq - p.seq:=by rw [wrap_i64] <;> omega
 have c0:Heap.cells? (H++[ABlk.cells false (outC o),ABlk.cells false (outC p)]) H.length=some (outC o):=by simp [Heap.cells?]
 have c1:Heap.cells? (H++[ABlk.cells false (outC o),ABlk.cells false (outC p)]) (H.length + 1)=some (outC p):=by simp [Heap.cells?]
 rw [fr_init (by simp [fd145])]
 simp [fd145,b145,oone,pone,c0,c1,e0,e1,hw,shapeOf]
theorem st_out (h:H[b]?=some (outB l R)) {i:Nat} (hi:i < l.length) {o:OutM} (ho:AV.one o.r=true):storeAt 0 H 12 (.ptr (some (b,i * 12))) (.agg (outC o))=some (H.set b (outB (l.set i o) R)):=by
 have:=store_of (lim:=0) (n:=12) (o:=i * 12) (v:=.agg (outC o)) (H:=H) h (by omega) (by simp [AV.cells,outC_len]) (by rw [List.length_append,flatMap_len outC_len];omega) (by simpa [AV.cells] using List.all_eq_true.1 (show (outC o).all AV.one=true from outV_one ho))
 rw [this]
 simp only [AV.cells,setFrom_row outC_len hi]
 rfl
def SeqOk (l:List OutM):Prop:=∀ o ∈ l,0≤o.seq∧o.seq < 1000000000000
set_option maxHeartbeats 1000000 in
theorem c203 (h:OPile H gb b g cb l R) (few:l.length < 1000000000) (hq:SeqOk l) :
 WCl envE 203 [.sl b 0 l.length 12,I 0,I l.length,.fn (.func 145) [] []] 0 H fun r H'=>r=.tup []∧∃ l',l'.Perm l∧SrtTo l' l.length∧∃ X,H'=H.set b (outB l' R)++X:=by
 refine cl_of e203 rfl ?_
 rw [fr_init (by simp [fd203])]
 simp [fd203,b203]
 refine loop_go [0,1,2,3,8] rfl (fun m vs H'=>∃ i l',m + i=l.length + 1∧1≤i∧l'.Perm l∧SrtTo l' i∧(∃ X,H'=H.set b (outB l' R)++X)∧vs=[.sl b 0 l.length 12,I 0,I l.length,.fn (.func 145) [] [],I i]) ?_ l.length ⟨1,l,rfl,Nat.le_refl _,.refl _,fun p q x y a b=>by omega,⟨[],by rw [h.same];simp⟩,rfl⟩
 rintro J hJ m vs H' f ⟨i,l',hm,h1,hp,hs,⟨X,rfl⟩,rfl⟩
 have hlen:=hp.length_eq
 by_cases hi:i < l.length
 · have hw:=wrap_succ (i:=i) (by omega)
   simp [lp203_0,hi]
   refine loop_go [0,1,2,3,8,9] rfl (fun m vs H'=>∃ j l',m=j∧j≤i∧l'.Perm l∧Srt l' i j∧(∃ X,H'=H.set b (outB l' R)++X)∧vs=[.sl b 0 l.length 12,I 0,I l.length,.fn (.func 145) [] [],I i,I j]) ?_ i ⟨i,l',rfl,Nat.le_refl _,hp,srt_begin hs,⟨X,rfl⟩,rfl⟩
   rintro J2 hJ2 j vs2 H2 f2 ⟨_,l2,rfl,hj,hp2,hs2,⟨X2,rfl⟩,rfl⟩
   have hlen2:=hp2.length_eq
   have h2:OPile (H.set b (outB l2 R)++X2) gb b g cb l2 R:=(h.set hp2).app
   have ij:j < l2.length:=by omega
   by_cases h0:j=0
   · subst h0
     simp [lp203_1,hw]
     exact nxt hJ (m - 1) (by omega) ⟨i + 1,l2,by omega,by omega,hp2,srt_end hs2 hj (.inl rfl) (by omega),⟨X2,rfl⟩,rfl⟩
   · have hj0:0 < (j:Int):=by omega
     have ij1:j - 1 < l2.length:=by omega
     have hw1:IntKind.i64.wrap ((j:Int) - 1)=((j - 1:Nat):Int):=by rw [wrap_i64] <;> omega
     have x1:=idxSl_sl (b:=b) (o:=0) (es:=12) (k:=.i64) (show j < l.length by omega)
     have x2:=idxSl_sl (b:=b) (o:=0) (es:=12) (k:=.i64) (show j - 1 < l.length by omega)
     have d1:=h2.at ij
     have d2:=h2.at ij1
     have o1:=(h2.rows _ (List.getElem_mem ij)).one
     have o2:=(h2.rows _ (List.getElem_mem ij1)).one
     have q1:=hq _ (hp2.subset (List.getElem_mem ij))
     have q2:=hq _ (hp2.subset (List.getElem_mem ij1))
     have hjn:0 < j:=by omega
     simp [lp203_1,hj0,hjn,hw1,x1,x2,d1,d2,-load_ptr]
     refine WCl.mono (c145 _ _ o1 o2 q1 q2 0 _) ?_
     rintro _ _ ⟨rfl,X3,rfl⟩
     obtain ⟨H3,hH3⟩:∃ H3,H3=H.set b (outB l2 R)++X2++X3:=⟨_,rfl⟩
     have h3:OPile H3 gb b g cb l2 R:=by rw [hH3];exact h2.app
     have l3:H.length + X2.length≤H3.length:=by rw [hH3];simp
     have hmv:∀ l3:List OutM,H3.set b (outB l3 R)=H.set b (outB l3 R)++(X2++X3):=fun l3=>by
      rw [hH3,List.append_assoc,List.set_append_left _ _ (by simp;exact lt_of h.row),List.set_set]
     by_cases hlt:oLess l2[j] l2[j - 1]=true
     · have hd:l2[j].seq - l2[j - 1].seq < 0:=by simp [oLess] at hlt;omega
       have d3:=h3.at ij
       have d4:=h3.at ij1
       have e1:=st_out h3.row ij o2
       have e2:=st_out (i:=j - 1) (o:=l2[j]) (l:=l2.set j l2[j - 1]) (b:=b) (R:=R) (H:=H3.set b (outB (l2.set j l2[j - 1]) R)) (by rw [List.getElem?_set_self (lt_of h3.row)]) (by simpa using ij1) o1
       have e3:(l2.set j l2[j - 1]).set (j - 1) l2[j]=swapL l2 j (j - 1):=(swap_at ij ij1).symm
       rw [List.set_set,e3] at e2
       rw [← hH3]
       simp [l3,hd,hw1,x1,x2,d3,d4,e1,e2,-load_ptr]
       refine nxt hJ2 (j - 1) (by omega) ⟨j - 1,swapL l2 j (j - 1),rfl,by omega,(swap_perm ij ij1).trans hp2,srt_step hs2 (by omega) hj (by omega) fun x y hx hy=>?_,⟨_,hmv _⟩,rfl⟩
       rw [List.getElem?_eq_getElem ij1] at hx
       rw [List.getElem?_eq_getElem ij] at hy
       cases hx
       cases hy
       exact hlt
     · have hd:¬ l2[j].seq - l2[j - 1].seq < 0:=by simp [oLess] at hlt;omega
       rw [← hH3]
       simp [l3,hd,hw,-load_ptr]
       refine nxt hJ (m - 1) (by omega) ⟨i + 1,l2,by omega,by omega,hp2,srt_end hs2 hj (.inr fun x y hx hy=>?_) (by omega),⟨X2++X3,by rw [hH3,List.append_assoc]⟩,rfl⟩
       rw [List.getElem?_eq_getElem ij1] at hx
       rw [List.getElem?_eq_getElem ij] at hy
       cases hx
       cases hy
       simpa using hlt
 · simp [lp203_0,hi]
   exact ⟨l',hp,fun p q x y a c=>hs p q x y a (by omega),X,rfl⟩
theorem c170 (n:Nat) (hn:n≤12):∃ k:Int,Pu envE 170 [.int .u64 n] (I k):=by
 suffices h:∃ d,Pu envE 170 [.int .u64 n] d∧∃ k:Int,d=I k by
  obtain ⟨d,h1,k,rfl⟩:=h
  exact ⟨k,h1⟩
 refine pu_ex e170 rfl ?_
 have n1:¬ (4294967296:Int)≤n:=by omega
 have n2:¬ (65536:Int)≤n:=by omega
 have n3:¬ (256:Int)≤n:=by omega
 have hw:IntKind.u8.wrap (n:Int)=n:=by
  have h:n=0∨n=1∨n=2∨n=3∨n=4∨n=5∨n=6∨n=7∨n=8∨n=9∨n=10∨n=11∨n=12:=by omega
  rcases h with h | h | h | h | h | h | h | h | h | h | h | h | h <;> (subst h;decide)
 have n4:¬ (n:Int) < 0:=by omega
 have n5:n < 256:=by omega
 rw [fr_init (by simp [fd170])]
 simp [fd170,b170,n1,n2,n3,hw,n4,n5]
theorem c130 (n:Nat) (hn:n≤12):∃ k:Int,Pu envE 130 [.int .u64 n] (I k):=by
 obtain ⟨k,hk⟩:=c170 n hn
 refine ⟨k,pu_is e130 rfl ?_⟩
 have k170:∀ (H':Heap) (K':AV→Heap→Prop),wPu envE 170 (some [.int .u64 n]) H' K'=K' (I k) H':=fun H' K'=>(wPu_eq (H:=H') (K:=K') hk).trans (by simp)
 rw [fr_init (by simp [fd130])]
 simp [fd130,b130,k170]
theorem c144 (h:OPile H gb b g cb l R) (few:l.length≤12) (hq:SeqOk l) :
 WCl envE 144 [.sl b 0 l.length 12,.fn (.func 145) [] []] 0 H fun r H'=>r=.tup []∧∃ l',l'.Perm l∧SrtTo l' l.length∧∃ X,H'=H.set b (outB l' R)++X:=by
 refine cl_of e144 rfl ?_
 obtain ⟨k,hk⟩:=c130 l.length few
 have hwu:IntKind.u64.wrap (l.length:Int)=(l.length:Int):=by
  have h:l.length=0∨l.length=1∨l.length=2∨l.length=3∨l.length=4∨l.length=5∨l.length=6∨l.length=7∨l.length=8∨l.length=9∨l.length=10∨l.length=11∨l.length=12:=by omega
  rcases h with h | h | h | h | h | h | h | h | h | h | h | h | h <;> (rw [h];decide)
 have hw:IntKind.i64.wrap (l.length:Int)=(l.length:Int):=by rw [wrap_i64] <;> omega
 have h12:(l.length:Int)≤12:=by omega
 have k130:∀ (H':Heap) (K':AV→Heap→Prop),wPu envE 130 (some [.int .u64 l.length]) H' K'=K' (I k) H':=fun H' K'=>(wPu_eq (H:=H') (K:=K') hk).trans (by simp)
 have h175:WCl envE 175 [.sl b 0 l.length 12,I 0,I l.length,I k,.fn (.func 145) [] []] 0 H fun r H'=>r=.tup []∧∃ l',l'.Perm l∧SrtTo l' l.length∧∃ X,H'=H.set b (outB l' R)++X:=by
  refine cl_of e175 rfl ?_
  rw [fr_init (by simp [fd175])]
  simp [fd175,b175]
  refine loop_go [0,1,2,3,4,10,11] rfl (fun m vs H'=>H'=H∧vs=[.sl b 0 l.length 12,I 0,I l.length,I k,.fn (.func 145) [] [],.bool true,.bool true]) ?_ 0 ⟨rfl,rfl⟩
  rintro J hJ m vs H' f ⟨rfl,rfl⟩
  simp [lp175_0,hw,h12]
  refine WCl.mono (c203 h (by omega) hq) ?_
  rintro _ H2 ⟨rfl,hx⟩
  simp
  exact hx
 rw [fr_init (by simp [fd144])]
 simp [fd144,b144,hwu,k130]
 refine WCl.mono h175 ?_
 rintro _ H2 ⟨rfl,hx⟩
 simp
 exact hx
end
end Go.Proofs.YtgbnbgkldeifkaaGreatA

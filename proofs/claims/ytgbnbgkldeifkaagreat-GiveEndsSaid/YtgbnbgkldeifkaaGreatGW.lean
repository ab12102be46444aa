/- A giver's Out: its length. No statement about the program is proved here. -/
import Derived.Test.YtgbnbgkldeifkaaGreatGV
namespace Go.Proofs.YtgbnbgkldeifkaaGreatA
open Go
set_option linter.unusedSimpArgs false
set_option linter.unusedVariables false
set_option maxRecDepth 1000000
section
variable {H:Heap} {gb b cb:Nat} {g:Giv} {v:AV} {l:List OutM} {R:List AV}
theorem c182 (x y:Int):Pu envE 182 [I x,I y] (.bool (decide (x < y))):=by
 refine pu_is e182 rfl ?_
 rw [fr_init (by simp [fd182])]
 by_cases h:x < y
 · simp [fd182,b182,h]
 · simp [fd182,b182,h]
@[simp] theorem k182 {x y:Int} {H:Heap} {K:AV→Heap→Prop}:wPu envE 182 (some [I x,I y]) H K=K (.bool (decide (x < y))) H:=(wPu_eq (c182 x y)).trans (by simp)
theorem ints_at {xs:List Int} {c:Nat} (h:H[c]?=some (.cells true (xs.flatMap intC))) {i:Nat} (hi:i < xs.length):loadAt H none (.ptr (some (c,i * 1)))=some (I xs[i]):=by
 have hr:Row 0 H 1 intC xs (.sl c 0 xs.length 1):=.inr ⟨fun e=>by rw [e] at hi;simp at hi,c,Nat.zero_le _,rfl,h⟩
 have:=hr.load1 (g:=fun x=>I x) (fun _=>rfl) hi
 simpa [ptrAt] using this
theorem ints_st {xs:List Int} {c:Nat} (h:H[c]?=some (.cells true (xs.flatMap intC))) {i:Nat} (hi:i < xs.length) (x:Int):storeAt 0 H 1 (.ptr (some (c,i))) (I x)=some (H.set c (.cells true ((xs.set i x).flatMap intC))):=by
 have:=store_of (lim:=0) (n:=1) (o:=i) (v:=I x) (H:=H) h (by omega) rfl (by have:=flatMap_len intC_len xs;omega) rfl
 rw [this]
 have e:=setFrom_row (f:=intC) (es:=1) (fun _=>rfl) (R:=[]) hi (x:=x)
 simp only [List.append_nil,Nat.mul_one] at e
 have e2:(I x).cells=intC x:=rfl
 rw [e2,e]
set_option maxHeartbeats 1000000 in
theorem c176 (xs:List Int) {c:Nat} (h:H[c]?=some (.cells true (xs.flatMap intC))) (few:xs.length < 1000000000) :
 WCl envE 176 [.sl c 0 xs.length 1,I 0,I xs.length] 0 H fun r H'=>r=.tup []∧∃ xs':List Int,xs'.length=xs.length∧H'=H.set c (.cells true (xs'.flatMap intC)):=by
 refine cl_of e176 rfl ?_
 have hself:H.set c (.cells true (xs.flatMap intC))=H:=by
  apply List.ext_getElem?
  intro j
  rw [List.getElem?_set]
  split
  · rename_i e
    subst e
    rw [if_pos (lt_of h),h]
  · rfl
 rw [fr_init (by simp [fd176])]
 simp [fd176,b176]
 refine loop_go [0,1,2,6] rfl (fun m vs H'=>∃ i,∃ xs':List Int,m + i=xs.length + 1∧xs'.length=xs.length∧H'=H.set c (.cells true (xs'.flatMap intC))∧vs=[.sl c 0 xs.length 1,I 0,I xs.length,I i]) ?_ xs.length ⟨1,xs,rfl,rfl,hself.symm,rfl⟩
 rintro J hJ m vs H' f ⟨i,xs',hm,hl,rfl,rfl⟩
 by_cases hi:i < xs.length
 · have hw:=wrap_succ (i:=i) (by omega)
   simp [lp176_0,hi]
   refine loop_go [0,1,2,6,7] rfl (fun m vs H'=>∃ j,∃ xs2:List Int,m=j∧j≤i∧xs2.length=xs.length∧H'=H.set c (.cells true (xs2.flatMap intC))∧vs=[.sl c 0 xs.length 1,I 0,I xs.length,I i,I j]) ?_ i ⟨i,xs',rfl,Nat.le_refl _,hl,rfl,rfl⟩
   rintro J2 hJ2 j vs2 H2 f2 ⟨_,xs2,rfl,hj,hl2,rfl,rfl⟩
   by_cases h0:j=0
   · subst h0
     simp [lp176_1,hw]
     exact nxt hJ (m - 1) (by omega) ⟨i + 1,xs2,by omega,hl2,rfl,rfl⟩
   · have hj0:0 < (j:Int):=by omega
     have hjn:0 < j:=by omega
     have hw1:IntKind.i64.wrap ((j:Int) - 1)=((j - 1:Nat):Int):=by rw [wrap_i64] <;> omega
     have x1:=idxSl_sl (b:=c) (o:=0) (es:=1) (k:=.i64) (show j < xs.length by omega)
     have x2:=idxSl_sl (b:=c) (o:=0) (es:=1) (k:=.i64) (show j - 1 < xs.length by omega)
     have hc:(H.set c (.cells true (xs2.flatMap intC)))[c]?=some (.cells true (xs2.flatMap intC)):=by rw [List.getElem?_set_self (lt_of h)]
     have d1:=ints_at hc (i:=j) (by omega)
     have d2:=ints_at hc (i:=j - 1) (by omega)
     simp only [Nat.mul_one] at d1 d2
     by_cases hlt:xs2[j]'(by omega) < xs2[j - 1]'(by omega)
     · have e1:=ints_st hc (i:=j) (by omega) (xs2[j - 1]'(by omega))
       have hc2:(H.set c (.cells true ((xs2.set j (xs2[j - 1]'(by omega))).flatMap intC)))[c]?=some (.cells true ((xs2.set j (xs2[j - 1]'(by omega))).flatMap intC)):=by rw [List.getElem?_set_self (lt_of h)]
       have e2:=ints_st hc2 (i:=j - 1) (by simp;omega) (xs2[j]'(by omega))
       rw [List.set_set] at e1 e2
       simp [lp176_1,hj0,hjn,hw1,x1,x2,d1,d2,hlt,e1,e2,-load_ptr]
       exact nxt hJ2 (j - 1) (by omega) ⟨j - 1,_,rfl,by omega,by simpa using hl2,rfl,rfl⟩
     · simp [lp176_1,hj0,hjn,hw1,x1,x2,d1,d2,hlt,hw,-load_ptr]
       exact nxt hJ (m - 1) (by omega) ⟨i + 1,xs2,by omega,hl2,rfl,rfl⟩
 · simp [lp176_0,hi]
   exact ⟨xs',hl,rfl⟩
theorem c102 (xs:List Int) {c:Nat} (h:H[c]?=some (.cells true (xs.flatMap intC))) (few:xs.length≤12) :
 WCl envE 102 [.sl c 0 xs.length 1] 0 H fun r H'=>r=.tup []∧∃ xs':List Int,xs'.length=xs.length∧H'=H.set c (.cells true (xs'.flatMap intC)):=by
 refine cl_of e102 rfl ?_
 obtain ⟨k,hk⟩:=c130 xs.length few
 have hwu:IntKind.u64.wrap (xs.length:Int)=(xs.length:Int):=by
  have h:xs.length=0∨xs.length=1∨xs.length=2∨xs.length=3∨xs.length=4∨xs.length=5∨xs.length=6∨xs.length=7∨xs.length=8∨xs.length=9∨xs.length=10∨xs.length=11∨xs.length=12:=by omega
  rcases h with h | h | h | h | h | h | h | h | h | h | h | h | h <;> (rw [h];decide)
 have hw:IntKind.i64.wrap (xs.length:Int)=(xs.length:Int):=by rw [wrap_i64] <;> omega
 have h12:(xs.length:Int)≤12:=by omega
 have k130:∀ (H':Heap) (K':AV→Heap→Prop),wPu envE 130 (some [.int .u64 xs.length]) H' K'=K' (I k) H':=fun H' K'=>(wPu_eq (H:=H') (K:=K') hk).trans (by simp)
 have h146:WCl envE 146 [.sl c 0 xs.length 1,I 0,I xs.length,I k] 0 H fun r H'=>r=.tup []∧∃ xs':List Int,xs'.length=xs.length∧H'=H.set c (.cells true (xs'.flatMap intC)):=by
  refine cl_of e146 rfl ?_
  rw [fr_init (by simp [fd146])]
  simp [fd146,b146]
  refine loop_go [0,1,2,3,8,9] rfl (fun m vs H'=>H'=H∧vs=[.sl c 0 xs.length 1,I 0,I xs.length,I k,.bool true,.bool true]) ?_ 0 ⟨rfl,rfl⟩
  rintro J hJ m vs H' f ⟨rfl,rfl⟩
  simp [lp146_0,hw,h12]
  refine WCl.mono (c176 xs h (by omega)) ?_
  rintro _ H2 ⟨rfl,hx⟩
  simp
  exact hx
 rw [fr_init (by simp [fd102])]
 simp [fd102,b102,hwu,k130]
 refine WCl.mono h146 ?_
 rintro _ H2 ⟨rfl,hx⟩
 simp
 exact hx
theorem c102n (H:Heap):WCl envE 102 [.nilsl] 0 H fun r H'=>r=.tup []∧H'=H:=by
 refine cl_of e102 rfl ?_
 obtain ⟨k,hk⟩:=c130 0 (by omega)
 have hwu:IntKind.u64.wrap (0:Int)=0:=by decide
 have hw0:IntKind.i64.wrap (0:Int)=0:=by decide
 have k130:∀ (H':Heap) (K':AV→Heap→Prop),wPu envE 130 (some [.int .u64 0]) H' K'=K' (I k) H':=fun H' K'=>(wPu_eq (H:=H') (K:=K') hk).trans (by simp)
 have h176:WCl envE 176 [.nilsl,I 0,I 0] 0 H fun r H'=>r=.tup []∧H'=H:=by
  refine cl_of e176 rfl ?_
  rw [fr_init (by simp [fd176])]
  simp [fd176,b176]
  refine loop_go [0,1,2,6] rfl (fun m vs H'=>H'=H∧vs=[.nilsl,I 0,I 0,I 1]) ?_ 0 ⟨rfl,rfl⟩
  rintro J hJ m vs H' f ⟨rfl,rfl⟩
  simp [lp176_0]
 have h146:WCl envE 146 [.nilsl,I 0,I 0,I k] 0 H fun r H'=>r=.tup []∧H'=H:=by
  refine cl_of e146 rfl ?_
  rw [fr_init (by simp [fd146])]
  simp [fd146,b146]
  refine loop_go [0,1,2,3,8,9] rfl (fun m vs H'=>H'=H∧vs=[.nilsl,I 0,I 0,I k,.bool true,.bool true]) ?_ 0 ⟨rfl,rfl⟩
  rintro J hJ m vs H' f ⟨rfl,rfl⟩
  simp [lp146_0,hw0]
  refine WCl.mono h176 ?_
  rintro _ H2 ⟨rfl,rfl⟩
  simp
 rw [fr_init (by simp [fd102])]
 simp [fd102,b102,hwu,k130]
 refine WCl.mono h146 ?_
 rintro _ H2 ⟨rfl,rfl⟩
 simp
theorem Row.keepAll {α:Type} {lim es:Nat} {f:α→List AV} {xs:List α} {H':Heap} {r:AV} (h:Row lim H es f xs r) (k:∀ (c:Nat) (z:ABlk),H[c]?=some z→H'[c]?=some z):Row lim H' es f xs r:=h.keep fun c y hz _=>k c _ hz
theorem OPileV.keepAll {H':Heap} (h:OPileV H gb g cb l v) (k:∀ (c:Nat) (z:ABlk),H[c]?=some z→H'[c]?=some z):OPileV H' gb g cb l v:=by
 cases h with
 | nil h=>exact .nil (k _ _ h)
 | sl h=>exact .sl ⟨k _ _ h.box,k _ _ h.row,h.few,fun o ho=>(h.rows o ho).keepAll k,h.out⟩
set_option maxHeartbeats 1000000 in
theorem c47 (h:OPileV H gb g cb l v) (few:l.length≤12) :
 WCl envE 47 [.ptr (some (gb,0))] 0 H fun r H'=>lenSlAV r=some (I l.length)∧H.length≤H'.length∧∀ (c:Nat) (z:ABlk),H[c]?=some z→H'[c]?=some z:=by
 refine cl_of e47 rfl ?_
 have hld:=giv_load h.box
 have hlen:=giv_len h
 rw [fr_init (by simp [fd47])]
 simp [fd47,b47,hld,hlen,-load_ptr]
 refine loop_go [3,11,12,13] rfl (fun m vs H'=>∃ i,∃ (xs:List Int) (w:AV),m + i=l.length∧xs.length=i∧Row H.length H' 1 intC xs w∧H.length≤H'.length∧(∀ (c:Nat) (z:ABlk),H[c]?=some z→H'[c]?=some z)∧vs=[w,v,I l.length,I i]) ?_ l.length ⟨0,[],.nilsl,rfl,rfl,.nil,Nat.le_refl _,fun _ _ h=>h,rfl⟩
 rintro J hJ m vs H' f ⟨i,xs,w,hm,hxs,hrow,hl,hkeep,rfl⟩
 by_cases hi:i < l.length
 · have hw:=wrap_succ (i:=i) (by omega)
   have h':=h.keepAll hkeep
   obtain ⟨p,hp1,hp2⟩:=giv_at h' hi (k:=.i64)
   have hp3:=hp2 []
   rw [List.append_nil] at hp3
   have oone:(∀ x:AV,x ∈ outC l[i]→x.one=true)=True:=eq_true (List.all_eq_true.1 (outV_one (h'.rows _ (List.getElem_mem hi)).one))
   have hover:∀ c:List AV,c.length=12→setFrom c 0 (outC l[i])=outC l[i]:=fun c hc=>setFrom_all _ _ (by rw [hc,outC_len])
   obtain ⟨H1,hH1⟩:∃ H1,H1=H'++[ABlk.cells false (outC l[i])]:=⟨_,rfl⟩
   have l1:H1.length=H'.length + 1:=by rw [hH1];simp
   have hc:Heap.cells? H1 H'.length=some (outC l[i]):=by rw [hH1];simp [Heap.cells?]
   have e0:cut (outC l[i]) 0 1=some [I l[i].seq]:=hard rfl
   have hr1:Row H.length (H1++[ABlk.cells true [I l[i].seq]]) 1 intC xs w:=by rw [hH1];exact hrow.app.app
   have hel:elems (H1++[ABlk.cells true [I l[i].seq]]) 1 (.sl (H'.length + 1) 0 1 1)=some (1,[l[i].seq].flatMap intC):=by
    rw [← l1]
    have e:(H1++[ABlk.cells true [I l[i].seq]])[H1.length]?=some (.cells true [I l[i].seq]):=by simp
    simp only [elems,if_true,Heap.cells?,e,Option.bind_some]
    rfl
   obtain ⟨v',H4,a1,a2,a3,a4⟩:=Row.append (bytes:=8) intC_len (by omega) (fun _=>rfl) hr1 hel rfl (by simp) (by simp only [most];omega) (by simp only [most];omega)
   have a5:=append_lim a1
   have hone:=hrow.one
   have hldx:loadAt H1 none (.ptr (some (H'.length,0)))=some (I l[i].seq):=by
    simp only [loadAt,hc,Option.bind_some,Option.getD_none,e0,shapeOf]
   simp [lp47_0,hi,hp1,hp3,oone,outC_len,hover,← hH1,l1,hldx,a5,hw,hone,-load_ptr]
   refine nxt hJ (m - 1) (by omega) ⟨i + 1,xs++[l[i].seq],v',by omega,by simp;omega,a2 (by simp;omega),by simp at a3;omega,fun c z hz=>a4 c z (get_app (by rw [hH1];exact get_app (hkeep c z hz))) ?_,rfl⟩
   exact hrow.off (lt_of hz)
 · simp [lp47_0,hi]
   have hn:xs.length=l.length:=by omega
   rcases hrow with ⟨rfl,rfl⟩ | ⟨ne,c,g1,rfl,g3⟩
   · refine WCl.mono (c102n H') ?_
     rintro _ H2 ⟨rfl,e⟩
     obtain rfl:=e.symm
     simp at hn
     simp [← hn]
     exact ⟨hl,hkeep⟩
   · refine WCl.mono (c102 xs g3 (by omega)) ?_
     rintro _ H2 ⟨rfl,xs',hx,rfl⟩
     simp [hn]
     exact ⟨hl,fun c2 z hz=>get_set (hkeep c2 z hz) (by have:=lt_of hz;omega)⟩
end
end Go.Proofs.YtgbnbgkldeifkaaGreatA

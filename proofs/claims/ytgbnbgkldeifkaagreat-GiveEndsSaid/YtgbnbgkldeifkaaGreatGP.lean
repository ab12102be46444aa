/- The library's heap over a giver's pile: Push, Pop, Remove. No statement about the program is proved here. -/
import Derived.Test.YtgbnbgkldeifkaaGreatGH
namespace Go.Proofs.YtgbnbgkldeifkaaGreatA
open Go
set_option linter.unusedSimpArgs false
set_option linter.unusedVariables false
set_option maxRecDepth 1000000
section
variable {H:Heap} {gb b:Nat} {g:Giv} {cb:Nat} {l:List OutM} {R:List AV}
inductive OPileV (H:Heap) (gb:Nat) (g:Giv) (cb:Nat):List OutM→AV→Prop
 | nil (h:H[gb]?=some (givB g cb .nilsl)):OPileV H gb g cb [] .nilsl
 | sl {b:Nat} {l:List OutM} {R:List AV} (h:OPile H gb b g cb l R):OPileV H gb g cb l (.sl b 0 l.length 12)
theorem OPileV.box {v:AV} (h:OPileV H gb g cb l v):H[gb]?=some (givB g cb v):=by
 cases h with
 | nil h=>exact h
 | sl h=>exact h.box
theorem OPile.app {X:Heap} (h:OPile H gb b g cb l R):OPile (H++X) gb b g cb l R:=⟨get_app h.box,get_app h.row,h.few,h.rows.app,h.out⟩
theorem OPileV.app {X:Heap} {v:AV} (h:OPileV H gb g cb l v):OPileV (H++X) gb g cb l v:=by
 cases h with
 | nil h=>exact .nil (get_app h)
 | sl h=>exact .sl h.app
theorem givV_len {v:AV}:(givV g cb v).length=9:=hard rfl
theorem givV_set5 {v w:AV}:(givV g cb v).set 5 w=givV g cb w:=hard rfl
theorem giv_store {v w:AV} (h:H[gb]?=some (givB g cb v)) (h1:w.cells=[w]) (h2:AV.one w=true):storeAt 0 H 1 (.ptr (some (gb,5))) w=some (H.set gb (givB g cb w)):=by
 have:=store_of (lim:=0) (n:=1) (o:=5) (v:=w) h (by omega) (by rw [h1];rfl) (by rw [givV_len];omega) (by rw [h1];simp [h2])
 rw [this,h1]
 simp only [setFrom,givV_set5]
 rfl
def outZero:List AV:=[I 0,.str [],I 0,I 0,I 0,I 0,I 0,I 0,I 0,I 0,.nilsl,I 0]
set_option maxHeartbeats 1000000 in
theorem c267 {v:AV} (h:OPileV H gb g cb l v) (o:OutM) (ho:Row 0 H 3 valC o.vals o.r) (few:l.length < 1000000000) :
 WCl envE 267 [.ptr (some (gb,5)),.iface 165 (.agg (outC o))] 0 H fun r H'=>r=.tup []∧H'.length=H.length + 3∧OPile H' gb (H.length + 2) g cb (l++[o]) []∧Fr H H' gb v:=by
 refine cl_of e267 rfl ?_
 have hlt:=lt_of h.box
 have oone:(outC o).all AV.one=true:=outV_one ho.one
 have oall:(∀ x:AV,x ∈ outC o→x.one=true)=True:=eq_true (List.all_eq_true.1 oone)
 have hover:∀ c:List AV,c.length=12→setFrom c 0 (outC o)=outC o:=fun c hc=>setFrom_all _ _ (by rw [hc,outC_len])
 have hcut:cut (outC o) 0 12=some (outC o):=cut_all (outC_len o)
 have htk:(outC o).take 12=outC o:=List.take_of_length_le (by rw [outC_len];omega)
 obtain ⟨H1,hH1⟩:∃ H1,H1=H++[ABlk.cells false (outC o),ABlk.cells true (outC o)]:=⟨_,rfl⟩
 have l1:H1.length=H.length + 2:=by rw [hH1];simp
 have hel:elems H1 12 (.sl (H.length + 1) 0 1 12)=some (1,outC o):=by
  rw [hH1]
  have e:(H++[ABlk.cells false (outC o),ABlk.cells true (outC o)])[H.length + 1]?=some (.cells true (outC o)):=by simp
  simp only [elems,if_true,Heap.cells?,e,Option.bind_some,Nat.one_mul,hcut,Option.map_some]
 have c1:Heap.cells? H1 H.length=some (outC o):=by rw [hH1];simp [Heap.cells?]
 have hb1:H1[gb]?=some (givB g cb v):=by rw [hH1];exact get_app h.box
 have hld1:=giv_load hb1
 have hld0:=giv_load (get_app (X:=[ABlk.cells false (outC o)]) h.box)
 have hap:∃ H2,appendAV 0 H1 12 120 v (.sl (H.length + 1) 0 1 12)=some (.sl (H.length + 2) 0 (l.length + 1) 12,H2)∧H2.length=H.length + 3∧H2[H.length + 2]?=some (outB (l++[o]) [])∧(∀ (c:Nat) (z:ABlk),H[c]?=some z→Off v c→H2[c]?=some z)∧H2[gb]?=some (givB g cb v)∧Rows H2 (l++[o]):=by
  cases h with
  | nil h =>
   refine ⟨H1++[ABlk.cells true (outC o)],?_,by simp [l1],?_,fun c z hz _=>by rw [hH1];exact get_app (get_app hz),get_app hb1,fun x hx=>?_⟩
   · simp only [appendAV,hel,Option.bind_some,Nat.one_ne_zero,if_false]
     rw [if_pos ⟨by simp [most],by simp [most],by omega,oone⟩,l1]
     rfl
   · rw [← l1];simp [outB]
   · obtain rfl:x=o:=by simpa using hx
     rw [hH1]
     exact (ho.app).app
  | @sl b _ R h =>
   have hbl:=lt_of h.row
   have hr:H1[b]?=some (outB l R):=by rw [hH1];exact get_app h.row
   have hc:cut (l.flatMap outC++R) 0 (l.length * 12)=some (l.flatMap outC):=outs_cut
   have hbo:isOut (outB l R)=true∨l=[]:=by
    cases l with
    | nil=>exact .inr rfl
    | cons x l=>exact .inl rfl
   refine ⟨H1.set b .dead++[outB (l++[o]) []],?_,by simp [l1],?_,fun c z hz ho2=>?_,get_app (get_set hb1 h.ne.symm),?_⟩
   · simp only [appendAV,hel,Option.bind_some,Nat.one_ne_zero,if_false,hr,outB]
     rw [if_pos ⟨trivial,by omega,Nat.zero_le _,by simp [most];omega,by simp [most];omega,oone⟩,hc]
     simp [l1]
   · have e:H.length + 2=(H1.set b .dead).length:=by simp [l1]
     rw [e,List.getElem?_append_right (Nat.le_refl _)]
     simp
   · have hbc:b ≠ c:=fun e=>ho2 0 l.length 12 (by rw [e])
     rw [hH1]
     exact get_app (get_set (get_app hz) hbc)
   · have key:∀ x:OutM,Row 0 H 3 valC x.vals x.r→Row 0 (H1.set b .dead++[outB (l++[o]) []]) 3 valC x.vals x.r:=fun x hx=>by
      refine Row.app ?_
      rcases hx with e | ⟨ne,c,g1,g2,g3⟩
      · exact .inl e
      · refine .inr ⟨ne,c,g1,g2,get_set (by rw [hH1];exact get_app g3) fun e=>?_⟩
        subst e
        have hout:=h.out
        rw [h.row] at g3
        rw [Option.some.inj g3,val_out] at hout
        cases hout
     intro x hx
     rcases List.mem_append.1 hx with q | q
     · exact key x (h.rows x q)
     · rw [List.mem_singleton.1 q];exact key o ho
 obtain ⟨H2,hap,l2,b2,keep2,gb2,rows2⟩:=hap
 have hst:=giv_store (w:=.sl (H.length + 2) 0 (l.length + 1) 12) gb2 rfl rfl
 have hone:AV.one v=true:=by cases h <;> rfl
 have hpre:Pre (H++[ABlk.cells false (outC o)]) H1:=⟨[.cells true (outC o)],by rw [hH1];simp⟩
 rw [fr_init (by simp [fd267])]
 simp [fd267,b267,oall,outC_len,hover,hld0,hcut,htk,shapeOf,← hH1,hpre,l1,hap,l2,hst,hone]
 have hg1:gb ≠ H.length + 2:=by omega
 have few2:(l++[o]).length < 1000000000000:=by simp;omega
 refine ⟨⟨?_,get_set b2 hg1,few2,?_,?_⟩,?_,fun c z hz hc ho2=>get_set (keep2 c z hz ho2) (Ne.symm hc)⟩
 · rw [List.getElem?_set_self (lt_of gb2),List.length_append]
   rfl
 · exact rows2.keep fun c y hz _=>get_set hz fun e=>by
    subst e
    rw [gb2] at hz
    cases hz
 · cases l <;> rfl
 · simp [l2]
theorem c80o {v:AV} (h:OPileV H gb g cb l v) (hp:HeapN oLess l l.length) (o:OutM) (ho:Row 0 H 3 valC o.vals o.r) (few:l.length < 1000000000) :
 WCl envE 80 [.iface 166 (.ptr (some (gb,5))),.iface 165 (.agg (outC o))] 0 H fun r H'=>r=.tup []∧∃ l',l'.Perm (l++[o])∧HeapN oLess l' l'.length∧OPile H' gb (H.length + 2) g cb l' []∧Fr H H' gb v:=by
 refine cl_of e80 rfl ?_
 rw [fr_init (by simp [fd80])]
 simp [fd80,b80]
 refine WCl.mono (c267 h o ho few) ?_
 rintro _ H1 ⟨rfl,len1,hp1,fr1⟩
 have hld:=hp1.load
 have hfz:=hp1.frz (d:=9)
 have hw:IntKind.i64.wrap (l.length:Int)=(l.length:Int):=by rw [wrap_i64] <;> omega
 have hu:=push_up (x:=o) hp
 simp only [List.length_append,List.length_cons,List.length_nil,Nat.zero_add] at hld hfz
 simp [hld,hfz,hw,-load_ptr]
 refine WCl.mono (c128o hp1 (n:=l.length + 1) (by simp) hu (by omega)) ?_
 rintro r H2 ⟨l',hperm,hheap,rfl,_⟩
 have hl:=hperm.length_eq
 simp only [List.length_append,List.length_cons,List.length_nil,Nat.zero_add] at hl
 simp
 refine ⟨l',hperm,by rw [hl];exact hheap,hp1.set hperm,by simp;exact fr1.1,fun c z hc hn ho=>get_set (fr1.2 c z hc hn ho) ?_⟩
 have:=lt_of hc
 omega
theorem Rows.sub {l':List OutM} (h:Rows H l) (k:∀ o ∈ l',o ∈ l):Rows H l':=fun o ho=>h o (k o ho)
theorem c266 {o:OutM} (h:OPile H gb b g cb (l++[o]) R) :
 WCl envE 266 [.ptr (some (gb,5))] 0 H fun r H'=>r=.iface 165 (.agg (outC o))∧OPile H' gb b g cb l (outC o++R)∧∃ X,H'=H.set gb (givB g cb (.sl b 0 l.length 12))++X:=by
 refine cl_of e266 rfl ?_
 have few:=h.few
 simp only [List.length_append,List.length_cons,List.length_nil,Nat.zero_add] at few
 have hz:(outV 0 [] zeroV .nilsl 0)=[I 0,.str [],I 0,I 0,I 0,I 0,I 0,I 0,I 0,I 0,.nilsl,I 0]:=hard rfl
 obtain ⟨H1,hH1⟩:∃ H1,H1=H++[ABlk.cells false (outC o)]:=⟨_,rfl⟩
 have l1:H1.length=H.length + 1:=by rw [hH1];simp
 have hbx:H1[gb]?=some (givB g cb (.sl b 0 (l++[o]).length 12)):=by rw [hH1];exact get_app h.box
 have hld:=h.load
 have hld1:=giv_load hbx
 simp only [List.length_append,List.length_cons,List.length_nil,Nat.zero_add] at hld hld1
 have hw:IntKind.i64.wrap (l.length:Int)=(l.length:Int):=by rw [wrap_i64] <;> omega
 have e1:=giv_store (w:=.sl b 0 l.length 12) hbx rfl rfl
 have hi:l.length < (l++[o]).length:=by simp
 have hat:=h.at hi
 simp only [List.getElem_concat_length] at hat
 have hidx:=fun k=>idxSl_sl (k:=k) (b:=b) (o:=0) (es:=12) (show l.length < l.length + 1 by omega)
 have hcut:cutSl 12 (.sl b 0 (l.length + 1) 12) none (some (.int .i64 (l.length:Int))) none=some (.sl b 0 l.length 12):=by
  have h1:bnd (some (AV.int .i64 (l.length:Int))) (l.length + 1) (l.length + 1)=some l.length:=bnd_nat (by omega)
  have h2:(l.length:Int)≤(l.length:Int) + 1:=by omega
  simp [cutSl,h1,bnd,h2]
 have oone:(outC o).all AV.one=true:=outV_one (h.rows o (by simp)).one
 have oall:(∀ x:AV,x ∈ outC o→x.one=true)=True:=eq_true (List.all_eq_true.1 oone)
 have hover:∀ c:List AV,c.length=12→setFrom c 0 (outC o)=outC o:=fun c hc=>setFrom_all _ _ (by rw [hc,outC_len])
 have hcutc:cut (outC o) 0 12=some (outC o):=cut_all (outC_len o)
 have htk:(outC o).take 12=outC o:=List.take_of_length_le (by rw [outC_len];omega)
 have hlb:gb < H.length:=lt_of h.box
 have hc1:(H1.set gb (givB g cb (.sl b 0 l.length 12)))[H.length]?=some (.cells false (outC o)):=get_set (by rw [hH1];simp) (by omega)
 have hld2:loadAt (H1.set gb (givB g cb (.sl b 0 l.length 12))) (some 12) (.ptr (some (H.length,0)))=some (.agg (outC o)):=by
  simp only [loadAt,cells_of hc1,Option.bind_some,Option.getD_some,hcutc,shapeOf]
 rw [fr_init (by simp [fd266])]
 simp [fd266,b266,hld,hw,hidx,hat,oall,outC_len,hover,← hH1,hld1,hcut,e1,hld2,-load_ptr]
 refine ⟨⟨?_,?_,by omega,?_,?_⟩,[.cells false (outC o)],by rw [hH1,List.set_append_left _ _ hlb]⟩
 · rw [List.getElem?_set_self (lt_of hbx)]
 · refine get_set ?_ h.ne
   rw [hH1,get_app h.row]
   simp [outB]
 · refine (h.rows.sub fun o ho=>by simp [ho]).keep fun c y hz _=>get_set (by rw [hH1];exact get_app hz) fun e=>?_
   subst e
   rw [h.box] at hz
   cases hz
 · cases l <;> rfl
theorem c106 (h:OPile H gb b g cb l R) (hp:HeapN oLess l l.length) {i:Nat} (hi:i < l.length) :
 WCl envE 106 [.iface 166 (.ptr (some (gb,5))),I i] 0 H fun r H'=>r=.iface 165 (.agg (outC l[i]))∧∃ l' R',(l[i] :: l').Perm l∧HeapN oLess l' l'.length∧OPile H' gb b g cb l' R'∧Fr H H' gb (.sl b 0 l.length 12):=by
 refine cl_of e106 rfl ?_
 obtain ⟨n,hn⟩:∃ n,l.length=n + 1:=⟨l.length - 1,by omega⟩
 have few:=h.few
 have hld:=h.load
 have hfz:=h.frz (d:=9)
 have hw:IntKind.i64.wrap ((l.length:Int) - 1)=(n:Int):=by rw [wrap_i64] <;> omega
 have in':n < l.length:=by omega
 -- the end of it:the last one is taken off
 have fin:∀ (l2:List OutM),l2.Perm (swapL l i n)→l2[n]?=some l[i]→HeapN oLess l2 n →
  WCl envE 266 [.ptr (some (gb,5))] 0 (H.set b (outB l2 R)) fun r H'=>r=.iface 165 (.agg (outC l[i]))∧∃ l' R',(l[i] :: l').Perm l∧HeapN oLess l' l'.length∧OPile H' gb b g cb l' R'∧Fr H H' gb (.sl b 0 l.length 12):=fun l2 p2 hx hh2=>by
  have p3:=p2.trans (swap_perm hi in')
  have hl2:=p3.length_eq
  have e2:l2=l2.take n++[l[i]]:=by
   have h3:=List.take_succ_eq_append_getElem (l:=l2) (i:=n) (by omega)
   rw [List.take_of_length_le (by omega)] at h3
   rw [List.getElem?_eq_getElem (by omega)] at hx
   have h4:=Option.some.inj hx
   rw [h4] at h3
   exact h3
  have htl:(l2.take n).length=n:=by simp;omega
  have hP:OPile (H.set b (outB l2 R)) gb b g cb (l2.take n++[l[i]]) R:=by rw [← e2];exact h.set p3
  refine WCl.mono (c266 hP) ?_
  rintro r H' ⟨rfl,hq,X,rfl⟩
  refine ⟨rfl,l2.take n,_,take_perm p3 (by omega) hx,by rw [htl];exact hh2.take (by omega),hq,by simp,fun c z hc n1 n2=>get_app (get_set (get_set hc ?_) (Ne.symm n1))⟩
  rintro rfl
  exact n2 0 l.length 12 rfl
 by_cases hin:i=n
 · subst hin
   have e0:HeapN oLess l i:=fun k k0 kn=>hp k k0 (by omega)
   have:=fin l (by
    have hs:swapL l i i=l:=by
     apply List.ext_getElem?
     intro k
     rw [swap_get hi hi]
     split
     · rename_i e;rw [e]
     · rfl
    rw [hs]) (List.getElem?_eq_getElem hi) e0
   rw [h.same] at this
   rw [fr_init (by simp [fd106])]
   simp [fd106,b106,hld,hfz,hw,-load_ptr]
   refine WCl.mono this ?_
   rintro r H' ⟨rfl,hq⟩
   simpa using hq
 · have hne:¬ (n:Int)=(i:Int):=by omega
   have kS:=fun K=>k265 h hi in' (K:=K)
   have h1:=h.set (swap_perm hi in')
   have hl1:(swapL l i n).length=l.length:=(swap_perm hi in').length_eq
   have hld1:=h1.load
   rw [hl1] at hld1
   have hbo:=rem_bo oless_ord hp hi (by omega) hin (n:=n)
   rw [fr_init (by simp [fd106])]
   simp [fd106,b106,hld,hfz,hw,hne,kS,hld1,-load_ptr]
   rw [← hl1]
   refine WCl.mono (c147o h1 (by omega) (by omega) hbo) ?_
   rintro r H2 ⟨l2,p2,t2,rfl,hor⟩
   have hx:l2[n]?=some l[i]:=by
    rw [t2 n (Nat.le_refl _),swap_get hi in',if_pos rfl,List.getElem?_eq_getElem hi]
   rw [hl1,List.set_set]
   rcases hor with ⟨rfl,rfl,hu⟩ | ⟨rfl,hh⟩
   · simp [-load_ptr]
     have in2:i < n:=by omega
     refine WCl.mono (c128o h1 (n:=n) (by omega) hu in2) ?_
     rintro r H3 ⟨l3,p3,hh3,rfl,t3⟩
     simp [-load_ptr]
     refine WCl.mono (fin l3 p3 (by rw [t3 n (Nat.le_refl _),hx]) hh3) ?_
     rintro r H' ⟨rfl,hq⟩
     simpa using hq
   · simp [-load_ptr]
     refine WCl.mono (fin l2 p2 hx hh) ?_
     rintro r H' ⟨rfl,hq⟩
     simpa using hq
end
end Go.Proofs.YtgbnbgkldeifkaaGreatA

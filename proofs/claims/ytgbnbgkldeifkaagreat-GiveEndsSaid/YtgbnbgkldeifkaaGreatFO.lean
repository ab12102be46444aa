/- What a cursor's functions do: New, Next, Back, Over. What a cursor's Over does. What is due, in order; keys of numbers; what is ahead of a cursor; what always wakes. No statement about the program is proved here. -/
import Derived.Test.YtgbnbgkldeifkaaGreatFA
import Derived.KernelRfl
namespace Go.Proofs.YtgbnbgkldeifkaaGreatA
open Go
set_option linter.unusedSimpArgs false
set_option linter.unusedVariables false
set_option maxRecDepth 1000000
section
variable {H:Heap} {cb:Nat} {part:Int} {due:List (List UInt8)} {last:List UInt8} {v:AV}
theorem c26 (part:Int) (lim:Nat) (H:Heap) (h0:0≤part) (h1:part < 16):Cl envE 26 [I part] lim H (.ptr (some (H.length,0))) (H++[curB part .nilsl []]):=by
 refine cl_is e26 rfl ?_
 have n0:¬ part < 0:=by omega
 have n1:¬ 16≤part:=by omega
 rw [fr_init (by simp [fd26])]
 simp [fd26,b26,n0,n1,curB]
theorem cur_new {X:Heap} (h:H[cb]?=some (curB part .nilsl [])):CurM H cb part [] [] .nilsl:=⟨.nil,by simp,.inl ⟨rfl,rfl,h⟩⟩
def pairZ:List AV:=.str [] :: bagV zeroV .nilsl
def pairC (k:List UInt8) (kn:Nat→Int) (q:AV):List AV:=.str k :: bagV kn q
theorem pair_zero:[AV.str [],I 0,I 0,I 0,I 0,I 0,I 0,I 0,I 0,AV.nilsl]=pairZ:=hard rfl
theorem pairZ_len:pairZ.length=10:=hard rfl
theorem pairC_len {k:List UInt8} {kn:Nat→Int} {q:AV}:(pairC k kn q).length=10:=hard rfl
theorem pairC_one {k:List UInt8} {kn:Nat→Int} {q:AV} (h:AV.one q=true):(pairC k kn q).all AV.one=true:=by simp only [pairC,List.all_cons,one_str,bagV_one,h,Bool.and_self]
theorem pairZ_one:pairZ.all AV.one=true:=hard rfl
theorem Row.apart {K:List (List UInt8)} {kv:AV} {lim:Nat} {H':Heap} (h:Row lim H' 1 strC K kv) (hc:∀ c,lim≤c→Off v c):∀ b o n s,kv=.sl b o n s→Off v b:=fun b o n s e=>by
 rcases h with ⟨_,rfl⟩ | ⟨_,c,g1,g2,_⟩
 · cases e
 · rw [g2] at e
   cases e
   exact hc _ g1
theorem CurM.setF {c:Nat} {y:List AV} {z:ABlk} (h:CurM H cb part due last v) (hc:H[c]?=some (.cells false y)) (n:c ≠ cb):CurM (H.set c z) cb part due last v:=by
 refine ⟨h.strict,h.few,?_⟩
 rcases h.pile with ⟨a,b,g⟩ | ⟨b,l,Rs,h1,h2,h3,h4,h5⟩
 · exact .inl ⟨a,b,get_set g n⟩
 · refine .inr ⟨b,l,Rs,h1,h2,h3,⟨get_set h4.box n,get_set h4.row fun e=>?_,h4.few⟩,h5⟩
   subst e
   rw [h4.row] at hc
   cases hc
variable {p lb mi:Nat} {s:VSt} {w q:AV} {es:List (AV × AV × Nat)} {ck:Nat}
set_option maxHeartbeats 1000000 in
theorem c28 (hv:Vlt H p lb mi s w q es ck) (ok:VOk s) (few:s.bags.length < 1000000000) (hp:0≤part) (h:CurM H cb part due last v) :
 WCl envE 28 [.ptr (some (cb,0)),.ptr (some (p,0))] 0 H fun r H'=>(((nextF (keysS s part) due last).1=none∧r=.tup [.agg pairZ,.bool false])∨∃ k q',(nextF (keysS s part) due last).1=some k∧r=.tup [.agg (pairC k (bagOf s k).known q'),.bool true]∧Row H.length H' 3 valC (bagOf s k).vals q')∧∃ v',CurM H' cb part (nextF (keysS s part) due last).2.1 (nextF (keysS s part) due last).2.2 v'∧FrV H H' cb v v':=by
 refine cl_of e28 rfl ?_
 obtain ⟨H1,hH1⟩:∃ H1,H1=H++[ABlk.cells false pairZ]:=⟨_,rfl⟩
 have h1:CurM H1 cb part due last v:=by rw [hH1];exact h.app
 have hv1:Vlt H1 p lb mi s w q es ck:=by rw [hH1];exact hv.app
 have l1:H1.length=H.length + 1:=by rw [hH1];simp
 have hb1:=cells_of h1.box
 have pz:H1[H.length]?=some (.cells false pairZ):=by rw [hH1];simp
 rw [fr_init (by simp [fd28])]
 simp [fd28,b28,pair_zero,← hH1,hb1,curB,shapeOf]
 refine WCl.mono (c40k hv1 (by omega) part hp 0) ?_
 rintro kv _ ⟨X,rfl,hK⟩
 have h2:=h1.app (X:=X)
 have hv2:=hv1.app (X:=X)
 have klen:(keysS s part).length < 1000000000000:=by
  have h3:=keysS_len (s:=s) (p:=part)
  have h4:(partF (s.bags.map Prod.fst) part).length≤(s.bags.map Prod.fst).length:=List.length_filter_le _ _
  simp only [List.length_map] at h4
  omega
 simp
 refine WCl.mono (c77 h2 (hK.mono (Nat.zero_le _)) (keys_strict hv.ents.uniq) klen (hK.apart fun c hc=>h1.off_ge hc)) ?_
 rintro _ H3 ⟨rfl,v3,h3,fr3⟩
 have hv3:Vlt H3 p lb mi s w q es ck:=hv2.keepC fun b z hb hi=>fr3.still h2 hb hi
 have pz3:H3[H.length]?=some (.cells false pairZ):=fr3.still h2 (get_app pz) rfl
 have l3:=fr3.len
 simp only [List.length_append] at l3
 have frH:FrV H H3 cb v v3:=by
  have f1:FrV H (H1++X) cb v v:=by rw [hH1,List.append_assoc];exact .app
  exact f1.trans fr3
 have hover:∀ (l c:List AV),l.length=10→c.length=10→setFrom l 0 c=c:=fun l c a b=>setFrom_all _ _ (by rw [a,b])
 have ncb:H.length ≠ cb:=by have:=lt_of h.box;omega
 obtain ⟨N,hN⟩:∃ N,N=nextF (keysS s part) due last:=⟨_,rfl⟩
 rw [← hN] at h3 ⊢
 cases ho:N.1 with
 | none =>
  have e1:storeAt 0 H3 10 (.ptr (some (H.length,0))) (.agg pairZ)=some (H3.set H.length (.cells false pairZ)):=by
   have:=store_of (lim:=0) (n:=10) (o:=0) (v:=.agg pairZ) pz3 (by omega) (by simp [AV.cells,pairZ_len]) (by simp [pairZ_len]) (by simp only [AV.cells];exact pairZ_one)
   rw [this]
   simp only [AV.cells]
   rw [hover _ _ pairZ_len pairZ_len]
  have hs:H3.set H.length (.cells false pairZ)=H3:=by
   apply List.ext_getElem?
   intro j
   rw [List.getElem?_set]
   split
   · rename_i e
     subst e
     rw [if_pos (lt_of pz3),pz3]
   · rfl
  rw [hs] at e1
  have hc3:=cells_of pz3
  have hcut:cut pairZ 0 10=some pairZ:=cut_all pairZ_len
  simp [optTup,ho,e1,hc3,hcut,shapeOf]
  exact ⟨v3,h3,frH⟩
 | some k =>
  simp [optTup,ho]
  refine WCl.mono (c23 hv3 ok k 0 (Nat.zero_le _)) ?_
  rintro _ _ ⟨Y,q',rfl,rfl,hq⟩
  have o1:=hq.one
  have pz4:(H3++Y)[H.length]?=some (.cells false pairZ):=get_app pz3
  have e1:storeAt 0 (H3++Y) 10 (.ptr (some (H.length,0))) (.agg (pairC k (bagOf s k).known q'))=some ((H3++Y).set H.length (.cells false (pairC k (bagOf s k).known q'))):=by
   have:=store_of (lim:=0) (n:=10) (o:=0) (v:=.agg (pairC k (bagOf s k).known q')) pz4 (by omega) (by simp [AV.cells,pairC_len]) (by simp [pairZ_len]) (by simp only [AV.cells];exact pairC_one o1)
   rw [this]
   simp only [AV.cells]
   rw [hover _ _ pairZ_len pairC_len]
  have hset:(AV.str k) :: bagV (bagOf s k).known q'=pairC k (bagOf s k).known q':=rfl
  have hfill:setFrom pairZ 1 (bagV (bagOf s k).known q')=.str [] :: bagV (bagOf s k).known q':=by
   unfold pairZ
   show AV.str [] :: setFrom (bagV zeroV .nilsl) 0 (bagV (bagOf s k).known q')=_
   rw [bagV_over]
  have hc4:Heap.cells? ((H3++Y).set H.length (.cells false (pairC k (bagOf s k).known q'))) H.length=some (pairC k (bagOf s k).known q'):=cells_of (by rw [List.getElem?_set_self (lt_of pz4)])
  have hcut:cut (pairC k (bagOf s k).known q') 0 10=some (pairC k (bagOf s k).known q'):=cut_all pairC_len
  have hz0:pairZ.set 0 (.str k)=.str k :: bagV zeroV .nilsl:=rfl
  have hz1:setFrom (.str k :: bagV zeroV .nilsl) 1 (bagV (bagOf s k).known q')=pairC k (bagOf s k).known q':=by
   show AV.str k :: setFrom (bagV zeroV .nilsl) 0 (bagV (bagOf s k).known q')=_
   rw [bagV_over]
   rfl
  simp [o1,pairZ_len,hz0,hz1,e1,hc4,hcut,shapeOf]
  have hrow:Row H3.length ((H3++Y).set H.length (.cells false (pairC k (bagOf s k).known q'))) 3 valC (bagOf s k).vals q':=hq.set (hq.off (by omega))
  refine ⟨⟨q',rfl,hrow.mono (by omega)⟩,v3,(h3.app (X:=Y)).setF pz4 ncb,⟨by simp;omega,fun c z hz n o=>get_set (get_app (frH.keep c z hz n o)) ?_,frH.offs⟩⟩
  have:=lt_of hz
  omega
def insF (x:List UInt8):List (List UInt8)→List (List UInt8)
 | []=>[x]
 | d :: ds=>if x == d then d :: ds else if strLess x d then x :: d :: ds else d :: insF x ds
theorem insF_mem {x y:List UInt8}:∀ {l:List (List UInt8)},y ∈ insF x l ↔ y=x∨y ∈ l
 | []=>by simp [insF]
 | d :: ds=>by
  unfold insF
  split
  · rename_i e
    have:x=d:=by simpa using e
    subst this
    simp
  · split
    · simp
    · simp only [List.mem_cons,insF_mem (l:=ds)]
      constructor
      · rintro (h | h | h)
        · exact .inr (.inl h)
        · exact .inl h
        · exact .inr (.inr h)
      · rintro (h | h | h)
        · exact .inr (.inl h)
        · exact .inl h
        · exact .inr (.inr h)
theorem insF_in {x:List UInt8}:∀ {l:List (List UInt8)},Strict l→x ∈ l→insF x l=l
 | [],_,h=>by cases h
 | d :: ds,hs,h=>by
  unfold insF
  obtain ⟨h1,h2⟩:=List.pairwise_cons.1 hs
  by_cases e:x=d
  · subst e;simp
  · have hx:x ∈ ds:=by
     rcases List.mem_cons.1 h with q | q
     · exact absurd q e
     · exact q
    have hb:(x == d)=false:=by simpa using e
    have hl:strLess x d=false:=sless_ord.asym _ _ (h1 x hx)
    rw [hb,hl]
    simp only [Bool.false_eq_true,if_false]
    rw [insF_in h2 hx]
theorem insF_strict {x:List UInt8}:∀ {l:List (List UInt8)},Strict l→Strict (insF x l)
 | [],_=>List.pairwise_singleton _ _
 | d :: ds,hs=>by
  unfold insF
  obtain ⟨h1,h2⟩:=List.pairwise_cons.1 hs
  split
  · exact hs
  · rename_i e
    split
    · rename_i hl
      exact List.pairwise_cons.2 ⟨fun y hy=>by
       rcases List.mem_cons.1 hy with q | q
       · rw [q];exact hl
       · exact sless_tr hl (h1 y q),hs⟩
    · rename_i hl
      refine List.pairwise_cons.2 ⟨fun y hy=>?_,insF_strict h2⟩
      rcases insF_mem.1 hy with q | q
      · rw [q]
        cases g:strLess d x
        · have:=sless_tri (by simpa using hl) g
          exact absurd this (by simpa using e)
        · rfl
      · exact h1 y q
theorem insF_perm {x:List UInt8}:∀ {l:List (List UInt8)},x ∉ l→(insF x l).Perm (l++[x])
 | [],_=>.refl _
 | d :: ds,h=>by
  unfold insF
  have e:¬ x=d:=fun e=>h (by rw [e];exact .head _)
  have hb:(x == d)=false:=by simpa using e
  rw [hb]
  simp only [Bool.false_eq_true,if_false]
  split
  · exact List.perm_append_comm (l₁:=[x]) (l₂:=d :: ds)
  · exact (insF_perm fun q=>h (.tail _ q)).cons d
theorem insF_len {x:List UInt8} {l:List (List UInt8)}:(insF x l).length≤l.length + 1:=by
 induction l with
 | nil=>simp [insF]
 | cons d ds ih =>
  unfold insF
  split
  · simp
  · split
    · simp
    · simp;omega
def backOk (part:Int) (last key:List UInt8):Bool:=decide (spotF key=part) && !strLess last key
def backF (part:Int) (due:List (List UInt8)) (last key:List UInt8):List (List UInt8):=if backOk part last key then insF key due else due
theorem c30 (h:CurM H cb part due last v) (key:List UInt8) (few:due.length < 100000000) :
 WCl envE 30 [.ptr (some (cb,0)),.str key] 0 H fun r H'=>r=.bool (backOk part last key)∧∃ v',CurM H' cb part (backF part due last key) last v'∧FrV H H' cb v v':=by
 refine cl_of e30 rfl ?_
 have hb:=cells_of h.box
 have hgt:(strLess key last || key == last)=!strLess last key:=by
  cases g1:strLess key last
  · cases g2:strLess last key
    · have:=sless_tri g1 g2
      simp [this]
    · have:(key == last)=false:=by
       rw [beq_eq_false_iff_ne]
       intro e
       rw [e,sless_irr] at g2
       cases g2
      simp [this]
  · rw [sless_ord.asym _ _ g1]
    rfl
 by_cases hp:spotF key=part
 · have hpb:(spotF key == part)=true:=by simpa using hp
   cases hl:strLess last key
   · have hgt':(strLess key last || key == last)=true:=by rw [hgt,hl];rfl
     have hok:backOk part last key=true:=by simp [backOk,hp,hl]
     obtain ⟨l,hlp,hheap,hpv⟩:=h.pileV
     have hmem:(l.contains key)=(due.contains key):=by
      rw [Bool.eq_iff_iff]
      simp only [List.contains_iff_mem]
      exact hlp.mem_iff
     have lfew:l.length < 1000000000:=by rw [hlp.length_eq];omega
     have hfz:frz H 12 v=some (roL strC l):=by
      cases hpv with
      | nil g=>rfl
      | sl g=>exact g.frz (d:=10)
     have k79':=fun H' K'=>k79 (l:=l) (x:=key) (by omega) (H:=H') (K:=K')
     by_cases hin:key ∈ due
     · have hc:(l.contains key)=true:=by rw [hmem];simpa using hin
       have hc2:key ∈ l:=hlp.mem_iff.2 hin
       rw [fr_init (by simp [fd30])]
       simp [fd30,b30,hb,curB,shapeOf,hp,binStr,hgt',hl,hfz,k79',hc2,hok]
       refine ⟨v,?_,.refl⟩
       rw [backF,if_pos hok,insF_in h.strict hin]
       exact h
     · have hc:(l.contains key)=false:=by rw [hmem];simpa using hin
       have hc2:¬ key ∈ l:=fun q=>hin (hlp.mem_iff.1 q)
       rw [fr_init (by simp [fd30])]
       simp [fd30,b30,hb,curB,shapeOf,hp,binStr,hgt',hl,hfz,k79',hc2,hok]
       refine WCl.mono (c80 hpv hheap key lfew) ?_
       rintro _ H' ⟨rfl,l',p1,hh,hP,fr⟩
       simp
       have hp2:l'.Perm (insF key due):=p1.trans ((List.Perm.append_right [key] hlp).trans (insF_perm hin).symm)
       have hlen:=insF_len (x:=key) (l:=due)
       rw [backF,if_pos hok]
       have hne:l'++[] ≠ []:=by
        intro e
        rw [List.append_nil] at e
        rw [e] at p1
        have:=p1.length_eq
        simp at this
       exact ⟨_,⟨insF_strict h.strict,by omega,.inr ⟨H.length + 1,l',[],hp2,hh,rfl,by simpa using hP,hne⟩⟩,⟨fr.1,fun c z hz n o=>fr.2 c z hz n o,fun c hc o=>Off.sl (by omega)⟩⟩
   · have hgt':(strLess key last || key == last)=false:=by rw [hgt,hl];rfl
     have hok:backOk part last key=false:=by simp [backOk,hl]
     rw [fr_init (by simp [fd30])]
     simp [fd30,b30,hb,curB,shapeOf,hp,binStr,hgt',hl,hok]
     refine ⟨v,?_,.refl⟩
     rw [backF,hok]
     exact h
 · have hok:backOk part last key=false:=by simp [backOk,hp]
   rw [fr_init (by simp [fd30])]
   simp [fd30,b30,hb,curB,shapeOf,hp,hok]
   refine ⟨v,?_,.refl⟩
   rw [backF,hok]
   exact h
end
end Go.Proofs.YtgbnbgkldeifkaaGreatA
namespace Go.Proofs.YtgbnbgkldeifkaaGreatA
open Go
set_option linter.unusedSimpArgs false
set_option linter.unusedVariables false
set_option maxRecDepth 1000000
section
variable {H:Heap} {cb:Nat} {part:Int} {due:List (List UInt8)} {last:List UInt8} {v:AV} {K:List (List UInt8)} {kv:AV} {tb lim:Nat}
theorem c84 (ht:H[tb]?=some (.cells false [kv])) (hk:Row lim H 1 strC K kv) (few:K.length < 1000000000000) (x:List UInt8) (l2:Nat):Cl envE 84 [.str x,.ptr (some (tb,0))] l2 H (.bool (K.contains x)) H:=by
 refine cl_is e84 rfl ?_
 have hb:=cells_of ht
 have hfz:=hk.frz (d:=10) (fun x=>(rfl:(strC x).length=1)) str_flat
 have k85':=fun H' K'=>k85 (l:=K) (x:=x) few (H:=H') (K:=K')
 rw [fr_init (by simp [fd84])]
 simp [fd84,b84,hb,shapeOf,hfz,k85']
theorem pileV_idx {l:List (List UInt8)} (h:PileV H cb part last l v) {i:Nat} (hi:i < l.length) {k:IntKind}:∃ p,idxSlAV 1 (.int k (i:Int)) v=some p∧loadAt H none p=some (.str l[i]):=by
 cases h with
 | nil _=>exact absurd hi (by simp)
 | @sl b _ R g =>
  refine ⟨.ptr (some (b,0 + i * 1)),idxSl_sl hi,?_⟩
  have:=pile_at g.row hi
  simpa using this
theorem pileV_len {l:List (List UInt8)} (h:PileV H cb part last l v):lenSlAV v=some (I l.length):=by
 cases h <;> rfl
theorem c132 {l:List (List UInt8)} (h:PileV H cb part last l v) (lfew:l.length < 1000000000000) (ht:H[tb]?=some (.cells false [kv])) (hk:Row lim H 1 strC K kv) (few:K.length < 1000000000000) (l2:Nat) :
 WCl envE 132 [v,.fn (.func 84) [] [.ptr (some (tb,0))]] l2 H fun r H'=>H'=H∧∃ n:Int,r=I n∧decide (0≤n)=l.any fun x=>K.contains x:=by
 refine cl_of e132 rfl ?_
 rw [fr_init (by simp [fd132])]
 simp [fd132,b132,pileV_len h]
 refine loop_go [0,1,7,8] rfl (fun m vs H'=>H'=H∧∃ i,m + i=l.length∧(∀ k (h:k < l.length),k < i→K.contains l[k]=false)∧vs=[v,.fn (.func 84) [] [.ptr (some (tb,0))],I l.length,I i]) ?_ l.length ⟨rfl,0,rfl,fun k _ q=>by omega,rfl⟩
 rintro J hJ m vs H' f ⟨rfl,i,hm,hno,rfl⟩
 by_cases hi:i < l.length
 · have hw:=wrap_succ (i:=i) (by omega)
   obtain ⟨p,hp1,hp2⟩:=pileV_idx h hi (k:=.i64)
   have k84:=fun l3 K'=>WCl_eq (K:=K') (c84 ht hk few l[i] l3)
   by_cases hc:K.contains l[i]=true
   · have hc':l[i] ∈ K:=by simpa using hc
     have h0:(0≤(i:Int)):=by omega
     simp [lp132_0,hi,hp1,hp2,k84,hc',h0]
     exact ⟨l[i],List.getElem_mem _,hc'⟩
   · have hc':¬ l[i] ∈ K:=by simpa using hc
     simp [lp132_0,hi,hp1,hp2,k84,hc',hw]
     refine nxt hJ (m - 1) (by omega) ⟨rfl,i + 1,by omega,fun k h hk=>?_,rfl⟩
     by_cases q:k=i
     · subst q;simpa using hc
     · exact hno k h (by omega)
 · simp [lp132_0,hi]
   intro x hx
   obtain ⟨k,hk,rfl⟩:=List.getElem_of_mem hx
   have:=hno k hk (by omega)
   simpa using this
theorem c83 {l:List (List UInt8)} (h:PileV H cb part last l v) (lfew:l.length < 1000000000000) (ht:H[tb]?=some (.cells false [kv])) (hk:Row lim H 1 strC K kv) (few:K.length < 1000000000000) (l2:Nat) :
 WCl envE 83 [v,.fn (.func 84) [] [.ptr (some (tb,0))]] l2 H fun r H'=>H'=H∧r=.bool (l.any fun x=>K.contains x):=by
 refine cl_of e83 rfl ?_
 rw [fr_init (by simp [fd83])]
 simp [fd83,b83]
 refine WCl.mono (c132 h lfew ht hk few l2) ?_
 rintro _ H2 ⟨e,n,rfl,hn⟩
 obtain rfl:=e.symm
 simp
 simpa using hn
def overF (K due:List (List UInt8)) (last:List UInt8):Bool:=(aheadF K last).isNone && !(due.any fun x=>K.contains x)
variable {p lb mi:Nat} {s:VSt} {w q:AV} {es:List (AV × AV × Nat)} {ck:Nat}
theorem keysS_few {s:VSt} {part:Int} (few:s.bags.length < 1000000000):(keysS s part).length < 1000000000000:=by
 have h3:=keysS_len (s:=s) (p:=part)
 have h4:(partF (s.bags.map Prod.fst) part).length≤(s.bags.map Prod.fst).length:=List.length_filter_le _ _
 simp only [List.length_map] at h4
 omega
theorem c32 (hv:Vlt H p lb mi s w q es ck) (few:s.bags.length < 1000000000) (hp:0≤part) (h:CurM H cb part due last v) (l2:Nat) (hl2:l2≤H.length) :
 WCl envE 32 [.ptr (some (cb,0)),.ptr (some (p,0))] l2 H fun r H'=>r=.bool (overF (keysS s part) due last)∧∃ X,H'=H++X:=by
 refine cl_of e32 rfl ?_
 have hb:=cells_of h.box
 rw [fr_init (by simp [fd32])]
 simp [fd32,b32,hb,curB,shapeOf]
 refine WCl.mono (c40k hv (by omega) part hp l2) ?_
 rintro kv _ ⟨X,rfl,hK⟩
 have o1:=hK.one
 obtain ⟨H2,hH2⟩:∃ H2,H2=H++(X++[ABlk.cells false [kv]]):=⟨_,rfl⟩
 have h2:CurM H2 cb part due last v:=by rw [hH2];exact h.app
 have t2:H2[H.length + X.length]?=some (.cells false [kv]):=by rw [hH2];simp
 have hK2:Row H.length H2 1 strC (keysS s part) kv:=by
  have:=hK.app (X:=[ABlk.cells false [kv]])
  rw [List.append_assoc] at this
  rw [hH2];exact this
 have hb2:=cells_of h2.box
 have ht2:=cells_of t2
 have l3:l2≤H.length + X.length:=by omega
 simp [o1,hK.cells,l3,hl2,← hH2,ht2,shapeOf]
 refine WCl.mono (c82 h2.box hK2 (keys_strict hv.ents.uniq) (keysS_few few) l2) ?_
 rintro _ H3 ⟨e,rfl⟩
 obtain rfl:=e.symm
 obtain ⟨l,hlp,hheap,hpv⟩:=h2.pileV
 have lfew:=h.few
 have hlen:=hlp.length_eq
 have hany:(l.any fun x=>(keysS s part).contains x)=(due.any fun x=>(keysS s part).contains x):=by
  rw [Bool.eq_iff_iff,List.any_eq_true,List.any_eq_true]
  constructor
  · rintro ⟨x,h1,h2⟩;exact ⟨x,hlp.mem_iff.1 h1,h2⟩
  · rintro ⟨x,h1,h2⟩;exact ⟨x,hlp.mem_iff.2 h1,h2⟩
 cases ho:aheadF (keysS s part) last with
 | some k =>
  simp [optTup,overF,ho,hH2]
 | none =>
  simp [optTup,overF,ho,hb2,curB,shapeOf]
  refine WCl.mono (c83 hpv (by omega) t2 hK2 (keysS_few few) l2) ?_
  rintro _ H4 ⟨e,rfl⟩
  obtain rfl:=e.symm
  rw [hany]
  simp [hH2]
end
end Go.Proofs.YtgbnbgkldeifkaaGreatA
namespace Go.Proofs.YtgbnbgkldeifkaaGreatA
open Go
set_option linter.unusedSimpArgs false
set_option linter.unusedVariables false
set_option maxRecDepth 1000000
section
variable {H:Heap} {cb:Nat} {part:Int} {due:List (List UInt8)} {last:List UInt8} {v:AV}
theorem strict_sorted {l:List (List UInt8)} (h:Strict l):sortS l=l:=by
 unfold sortS
 refine List.mergeSort_of_pairwise (h.imp fun {a b} q=>?_)
 simp only [decide_eq_true_eq]
 exact List.not_lt.1 fun e=>by have:=strLess_iff.2 e;rw [sless_ord.asym _ _ q] at this;cases this
theorem sortS_of_perm {l l':List (List UInt8)} (h:l.Perm l'):sortS l=sortS l':=mergeSort_of_perm h
end
def lastAt (K:List (List UInt8)) (i:Nat):List UInt8:=if i=0 then [] else (K[i - 1]?).getD []
theorem keysS_ne {s:VSt} {p:Int} (hp:0≤p):∀ k ∈ keysS s p,k ≠ []:=fun k hk e=>by
 have:=(keysS_mem.1 hk).2
 rw [e] at this
 have h2:spotF [] = -1:=spot_no rfl
 omega
end Go.Proofs.YtgbnbgkldeifkaaGreatA

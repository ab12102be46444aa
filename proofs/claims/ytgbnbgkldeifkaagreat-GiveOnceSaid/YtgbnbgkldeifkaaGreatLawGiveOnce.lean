/- 'starlinglaw20.GiveOnce' returns true for every key's number, way and message: what was got of another part, epoch, node, key or bag counts for nothing. Without further conditions. -/
import Derived.Test.YtgbnbgkldeifkaaGreatRows
import Derived.Test.YtgbnbgkldeifkaaGreatGAW
import Derived.WalkKit
import Derived.ProofKit
import Derived.ChangeOld
namespace Go.Proofs.YtgbnbgkldeifkaaGreatA
open Go Go.RowKit
set_option linter.unusedSimpArgs false
set_option linter.unusedVariables false
set_option maxRecDepth 1000000
attribute [local simp] vec_zero
theorem key_fine {k:List UInt8} (h:k.length=2):keyOk k=true:=by simp [keyOk,h]
theorem pe0:putE zBagS.known zBagS.vals zeroV 0 (0 + 1) [118]=0:=by kernel_rfl
theorem tells_one {k:List UInt8} (h:k.length=2):tellsF [k] 4 [] []=([k],[],k):=by
 have h1:strLess [] k=true:=by
  cases k with
  | nil=>cases h
  | cons a k=>rfl
 have n1:nextF [k] [] []=(some k,[],k):=by simp [nextF,aheadF,h1]
 have n2:nextF [k] [] k=(none,[],k):=by simp [nextF,aheadF,sless_irr]
 simp [tellsF,n1,n2]
def bag1:Bag:=⟨putK zBagS.known zBagS.vals zeroV 0 (0 + 1) [118],putR zBagS.known zBagS.vals zeroV 0 (0 + 1) [118]⟩
theorem bag1_ne:bagSame bag1.known bag1.vals zeroV []=false:=by kernel_rfl
theorem bag1_self:bagSame bag1.known bag1.vals bag1.known bag1.vals=true:=bagSame_refl (b:=bag1)
theorem six (x:Int):∃ N:Int,IntKind.u64.wrap x=N∧(N.tmod 6=0∨N.tmod 6=1∨N.tmod 6=2∨N.tmod 6=3∨N.tmod 6=4∨N.tmod 6=5):=by
 have hx:0≤IntKind.u64.wrap x:=by simp [IntKind.wrap,IntKind.signed,IntKind.bits];omega
 refine ⟨_,rfl,?_⟩
 rw [Int.tmod_eq_emod_of_nonneg hx]
 omega
theorem callG_flat:Flat callG:=fun H d c=>by
 unfold callG
 exact mapO_app (by simp) (mV_frz (d:=d) frz_roL frz_roL frz_roL)
theorem once_put {k:List UInt8} (h:k.length=2):∃ s,putO (emptyS 9) 0 k zeroV [118]=⟨0,1,0,s⟩∧bagOf s k=bag1∧keysS s (spotF k)=[k]∧s.bags.length=1∧VOk s:=by
 have he:putE (bagOf (emptyS 9) k).known (bagOf (emptyS 9) k).vals zeroV 0 ((emptyS 9).dots + 1) [118]=0:=pe0
 obtain ⟨s,h1,w⟩:=putO_ok (key:=k) (key_fine h) (by omega) (by omega) (by simp [emptyS]) (by simp [emptyS]) (by simp [fullS,emptyS]) he (by simp [emptyS])
 have hb:s.bags.map Prod.fst=[k]:=by rw [w.bags];rfl
 refine ⟨s,h1,w.bag,?_,?_,?_⟩
 · unfold keysS
   rw [hb]
   simp [sortS]
 · have:=congrArg List.length hb
   simpa using this
 · have:=(empty_ok (room:=9) (by omega) (by omega)).putV (node:=0) (key:=k) (known:=zeroV) (data:=[118])
   rw [h1] at this
   exact this
section
variable {H:Heap}
theorem fld_ld {b:Nat} {z:List AV} {a:AV} {o:Nat} (h:H[b]?=some (.cells false z)) (hc:cut z o 1=some [a]):loadAt H none (.ptr (some (b,o)))=some a:=by
 simp only [loadAt,cells_of h,Option.bind_some,Option.getD_none,hc,shapeOf]
end
set_option maxHeartbeats 800000 in
theorem giveOnce_pu (ky how:Int) (m:Msg):Pu envE 9 [I ky,I how,.agg (msgC m)] (.bool true):=by
 obtain ⟨k,hk,hk2⟩:=c44 ky
 obtain ⟨b50,h50,_⟩:=c50 [((0,0,0),m)] (by simp)
 have k50:∀ (H':Heap) (K':AV→Heap→Prop),wPu envE 50 (some [roL callG [((0,0,0),m)]]) H' K'=K' (.bool b50) H':=fun H' K'=>(wPu_eq (H:=H') (K:=K') h50).trans (by simp)
 obtain ⟨z,hz⟩:∃ z,z=msgC m:=⟨_,rfl⟩
 obtain ⟨zc,hzc⟩:∃ z,z=callG ((0,0,0),m):=⟨_,rfl⟩
 have mone:(∀ x:AV,x ∈ z→x.one=true)=True:=eq_true (List.all_eq_true.1 (by rw [hz,msgC_eq,mV_one];rfl))
 have mlen:z.length=62:=by rw [hz];exact hard rfl
 have mtake:z.take 62=z:=List.take_of_length_le (by omega)
 have bs65:setFrom [I 0,I 0,I 0,I 0,I 0,I 0,I 0,I 0,I 0,I 0,I 0,.str [],I 0,I 0,I 0,I 0,I 0,I 0,I 0,I 0,.nilsl,I 0,I 0,I 0,I 0,I 0,I 0,I 0,I 0,I 0,I 0,.nilsl,I 0,I 0,I 0,I 0,I 0,I 0,I 0,I 0,I 0,I 0,I 0,I 0,I 0,I 0,I 0,I 0,I 0,I 0,I 0,I 0,I 0,I 0,I 0,I 0,I 0,I 0,I 0,I 0,I 0,I 0,I 0,I 0,.nilsl] 3 z=zc:=by rw [hz,hzc];kernel_rfl
 have bone:(∀ x:AV,x ∈ zc→x.one=true)=True:=eq_true (List.all_eq_true.1 (by rw [hzc];exact callG_one _))
 have clen:zc.length=65:=by rw [hzc];exact hard rfl
 have mcut:cut z 0 62=some z:=cut_all mlen
 rw [← hz]
 refine pu_is e9 rfl ?_
 rw [fr_init (by simp [fd9])]
 simp [fd9,b9,mone,mlen,mcut,mtake,bs65,bone,clen]
 have hfz:frz [ABlk.cells false z,ABlk.cells true zc] 12 (.sl 1 0 1 65)=some (roL callG [((0,0,0),m)]):=by
  have hr:Row 0 [ABlk.cells false z,ABlk.cells true zc] 65 callG [((0,0,0),m)] (.sl 1 0 1 65):=.inr ⟨by simp,1,by omega,rfl,by simp [hzc]⟩
  exact hr.frz (d:=10) callG_len callG_flat
 rw [hfz]
 have kk:∀ (H':Heap) (K':AV→Heap→Prop),wPu envE 50 ((some (roL callG [((0,0,0),m)])).bind fun v'=>some [v']) H' K'=K' (.bool b50) H':=k50
 rw [kk]
 obtain ⟨Hm,hHm⟩:∃ Hm,Hm=[ABlk.cells false z,ABlk.cells true zc]:=⟨_,rfl⟩
 rw [← hHm]
 have nr:=fun K=>new_room (room:=9) (H:=Hm) (lim:=0) (K:=K) (by omega) (by omega)
 cases b50 with
 | false=>simp [k43]
 | true =>
 simp [nr]
 refine open_new 9 _ (by omega) (by omega) ?_
 intro X hv
 obtain ⟨p,hp⟩:∃ p,p=Hm.length + 2:=⟨_,rfl⟩
 obtain ⟨H0,hH0⟩:∃ H0,H0=Hm++X:=⟨_,rfl⟩
 rw [← hH0,← hp] at hv ⊢
 have ok0:=empty_ok (room:=9) (by omega) (by omega)
 simp [wPu_eq hk]
 refine WCl.mono (c24 hv ok0 0 k zeroV [118]) ?_
 rintro _ H1 ⟨rfl,kp,w1,q1,es1,ck1,hv1⟩
 obtain ⟨s,hput,hbag,hK,hbl,ok⟩:=once_put hk2
 rw [hput] at hv1 ⊢
 obtain ⟨p0,p1⟩:=spot_ok (key_fine hk2)
 obtain ⟨pt,hpt⟩:∃ pt,pt=spotF k:=⟨_,rfl⟩
 rw [← hpt] at p0 p1 hK
 have k45:=fun K=>WCl_eq (K:=K) (c45 0 pt 3 1 0 H1 (by omega) (by omega) (by omega) (by omega) (by omega))
 have hG:=gs_new hv1 0 pt 3 1
 obtain ⟨g,hg⟩:∃ g:Giv,g=⟨0,pt,3,1,0,0,false⟩:=⟨_,rfl⟩
 obtain ⟨H2,hH2⟩:∃ H2,H2=H1++[curB pt .nilsl [],givB g H1.length .nilsl]:=⟨_,rfl⟩
 obtain ⟨gb,hgb⟩:∃ gb,gb=H1.length + 1:=⟨_,rfl⟩
 rw [← hg,← hH2,← hgb] at k45 hG
 simp [← hpt,k45]
 have gn:0≤g.now∧g.now < 100000000000:=by rw [hg];show (0:Int)≤0∧(0:Int) < 100000000000;omega
 have gq:0≤g.seq∧g.seq < 100000000000:=by rw [hg];show (0:Int)≤0∧(0:Int) < 100000000000;omega
 have gpt:g.part=pt:=by rw [hg]
 have gp:0≤g.part:=by rw [gpt];exact p0
 refine WCl.mono (gs_tick hG (by simp) gn gq gp ok (by show s.bags.length < 1000000000;omega)) ?_
 rintro r H3 ⟨l1,told,l',ms,tp,h3,hM,fr⟩
 rw [gpt,hK] at tp h3
 rw [show 4 - ([]:List OutM).length=4 from rfl,tells_one hk2] at tp h3
 have e1:l1=[]:=tp.p1.eq_nil
 have hs0:g.seq=0:=by rw [hg]
 have htold:=tp.tolds
 rw [hs0] at htold
 obtain ⟨o,rfl,ho⟩:=map_one (show told.map OutM.p=[(5,1,k,(bagOf s k).known,(bagOf s k).vals)] from htold)
 have e3:l'=[o]:=by
  have:=tp.p2
  rw [e1] at this
  exact List.perm_singleton.1 this
 have hd:doneB [o] [k] [] k=false:=by simp [doneB]
 have hms:=tp.msgs
 rw [e1,e3,hd,hs0] at hms
 obtain ⟨m1,rfl,hm1⟩:=map_one (show ms.map MsgM.p=[(5,1,k,(bagOf s k).known,(bagOf s k).vals)] from hms)
 rw [e3,hd] at h3
 obtain ⟨mk,mseq,mkey,mkn,mvals,mr⟩:=m1
 obtain ⟨oseq,okey,okn,ovals,owhen,orr⟩:=o
 simp only [MsgM.p,Prod.mk.injEq] at hm1
 obtain ⟨rfl,rfl,rfl,rfl,rfl⟩:=hm1
 simp only [OutM.p,Prod.mk.injEq,true_and] at ho
 obtain ⟨rfl,rfl,rfl,rfl⟩:=ho
 rw [hbag] at *
 have hrow:=hM.vals _ (.head _)
 have hmo:msgOf g ⟨5,1,okey,bag1.known,bag1.vals,mr⟩=msgG 5 0 1 1 pt 3 okey bag1.known mr:=by
  unfold msgOf
  rw [oneR_of hrow.one,hg]
 obtain ⟨b,i1,i2,_⟩:=hM.at (i:=0) (by simp) (k:=.i64)
 have i1':idxSlAV 62 (I 0) r=some (.ptr (some (b,0))):=by simpa using i1
 have i2':=i2 []
 simp only [List.getElem_cons_zero,Nat.zero_mul,List.append_nil,hmo] at i2'
 have hlen:=hM.row.len
 have mG:=fun (k a b seq part ep:Int) (key:List UInt8)=>msgG_len (k:=k) (a:=a) (b:=b) (seq:=seq) (part:=part) (ep:=ep) (key:=key) (kn:=bag1.known) (r:=mr)
 obtain ⟨z1,hz1⟩:∃ z,z=msgG 5 0 1 1 pt 3 okey bag1.known mr:=⟨_,rfl⟩
 obtain ⟨z2,hz2⟩:∃ z,z=msgG 6 0 1 1 pt 3 okey bag1.known mr:=⟨_,rfl⟩
 obtain ⟨z3,hz3⟩:∃ z,z=msgG 6 1 1 1 pt 3 okey bag1.known mr:=⟨_,rfl⟩
 obtain ⟨zx,hzx⟩:∃ z,z=msgG 6 1 0 1 pt 3 okey bag1.known mr:=⟨_,rfl⟩
 rw [← hz1] at i2'
 have z1l:z1.length=62:=by rw [hz1];exact msgG_len
 have z1one:(∀ x:AV,x ∈ z1→x.one=true)=True:=eq_true (List.all_eq_true.1 (by rw [hz1];exact msgG_one hrow.one))
 have z1s:setFrom (msgG 0 0 0 0 0 0 [] zeroV .nilsl) 0 z1=z1:=setFrom_all _ _ (by rw [z1l,msgG_len])
 have xl:zx.length=62:=by rw [hzx];exact msgG_len
 have xone:(∀ x:AV,x ∈ zx→x.one=true)=True:=eq_true (List.all_eq_true.1 (by rw [hzx];exact msgG_one hrow.one))
 have xs:setFrom (msgG 0 0 0 0 0 0 [] zeroV .nilsl) 0 zx=zx:=setFrom_all _ _ (by rw [xl,msgG_len])
 have s1:z1.set 0 (I 6)=z2:=by rw [hz1,hz2];rfl
 have s2:z2.set 1 (I 1)=z3:=by rw [hz2,hz3];rfl
 have s3:z3.set 2 (I 0)=zx:=by rw [hz3,hzx];rfl
 have xcut:cut zx 0 62=some zx:=cut_all xl
 have z2l:z2.length=62:=by rw [hz2];exact msgG_len
 have z3l:z3.length=62:=by rw [hz3];exact msgG_len
 obtain ⟨tb,htb⟩:∃ tb,tb=H3.length:=⟨_,rfl⟩
 obtain ⟨G,hGx⟩:∃ G,G=H3++[ABlk.cells false zx]:=⟨_,rfl⟩
 have bx:∀ X,(G++X)[tb]?=some (.cells false zx):=fun X=>get_app (by rw [hGx,htb];simp)
 have f6:cut zx 6 1=some [I pt]:=by rw [hzx];exact hard rfl
 have f7:cut zx 7 1=some [I 3]:=by rw [hzx];exact hard rfl
 have f8:cut zx 8 1=some [.str okey]:=by rw [hzx];exact hard rfl
 have f3:cut zx 3 1=some [I 1]:=by rw [hzx];exact hard rfl
 have ld6:∀ X,loadAt (G++X) none (.ptr (some (tb,6)))=some (I pt):=fun X=>fld_ld (bx X) f6
 have at':∀ y:List AV,(G++[ABlk.cells false y])[G.length]?=some (.cells false y):=fun y=>by simp
 have ld7:=fld_ld (at' zx) f7
 have ld8:=fld_ld (at' zx) f8
 have ld3:=fld_ld (at' zx) f3
 have ldx0:loadAt G (some 62) (.ptr (some (H3.length,0)))=some (.agg zx):=by
  have:=bx []
  rw [List.append_nil] at this
  rw [← htb]
  simp only [loadAt,cells_of this,Option.bind_some,Option.getD_some,xcut,shapeOf]
 have ldx:loadAt G (some 62) (.ptr (some (tb,0)))=some (.agg zx):=by
  have:=bx []
  rw [List.append_nil] at this
  simp only [loadAt,cells_of this,Option.bind_some,Option.getD_some,xcut,shapeOf]
 obtain ⟨N,hN,hsix⟩:=six how
 have hG3:GivS G gb H1.length p Hm.length (Hm.length + 1) (tickG g 1 false) [⟨1,okey,bag1.known,bag1.vals,owhen,orr⟩] [] okey s:=by rw [hGx];exact h3.app
 have hrowG:Row 0 G 3 valC bag1.vals mr:=by rw [hGx];exact (hrow.mono (Nat.zero_le _)).app
 have g2:(tickG g 1 false)=⟨0,pt,3,1,1,1,false⟩:=by rw [hg];rfl
 have hlenG:G.length=tb + 1:=by rw [hGx,htb];simp
 rw [g2] at hG3
 have e3:IntKind.i64.wrap (2:Int)=2:=by decide
 have e7:IntKind.i64.wrap (4:Int)=4:=by decide
 have wpt:IntKind.i64.wrap (pt + 1)=pt + 1:=by rw [wrap_i64] <;> omega
 obtain ⟨pn,hpn⟩:∃ pn,(pt + 1).tmod 16=pn:=⟨_,rfl⟩
 have pne:pn ≠ pt:=by
  rw [← hpn,Int.tmod_eq_emod_of_nonneg (by omega)]
  omega
 simp [hlen,i1',i2',msg_zero,msgG_len,z1l,z2l,z3l,z1one,z1s,s1,s2,s3,xl,xone,xs,xcut,hN,← hGx,ldx0,-load_ptr]
 simp only [← htb]
 have bz8:((((msgG 0 0 0 0 0 0 [] zeroV .nilsl).set 0 (I 8)).set 1 (I 1)).set 6 (I pt)).set 7 (I 3)=msgG 8 1 0 0 pt 3 [] zeroV .nilsl:=by kernel_rfl
 rcases hsix with h6 | h6 | h6 | h6 | h6 | h6
 · obtain ⟨zy,hzy⟩:∃ z,z=msgG 6 1 0 1 pn 3 okey bag1.known mr:=⟨_,rfl⟩
   have st:zx.set 6 (I pn)=zy:=by rw [hzx,hzy];kernel_rfl
   have yl:zy.length=62:=by rw [hzy];exact msgG_len
   have ycut:cut zy 0 62=some zy:=cut_all yl
   obtain ⟨G2,hG2⟩:∃ G2,G2=G++[ABlk.cells false zy]:=⟨_,rfl⟩
   have ldy:loadAt G2 (some 62) (.ptr (some (G.length,0)))=some (.agg zy):=by
    rw [hG2]
    simp only [loadAt,cells_of (at' zy),Option.bind_some,Option.getD_some,ycut,shapeOf]
   have h4:GivS G2 gb H1.length p Hm.length (Hm.length + 1) ⟨0,pt,3,1,1,1,false⟩ [⟨1,okey,bag1.known,bag1.vals,owhen,orr⟩] [] okey s:=by rw [hG2];exact hG3.app
   have hr4:Row 0 G2 3 valC bag1.vals mr:=by rw [hG2];exact hrowG.app
   simp [msg_zero,msgG_len,xl,xone,xs,ldx,hN,h6,ld6,ld7,ld8,ld3,wpt,hpn,e3,e7,st,hk2,binStr,← hG2,ldy,-load_ptr]
   rw [hzy]
   refine WCl.mono (gs_got h4 hr4 (by simp)) ?_
   rintro _ _ (⟨rfl,_,Y,rfl⟩ | ⟨rfl,hof,o',l2,hs,hp,_⟩)
   case inr =>
    exfalso
    have:o'=⟨1,okey,bag1.known,bag1.vals,owhen,orr⟩:=by
     have:=hp.subset (.head _)
     simpa using this
    subst this
    simp [ofB,pne] at hof
   have h5:=h4.app (X:=Y)
   have bx5:(G2++Y)[tb]?=some (.cells false zx):=by rw [hG2,List.append_assoc];exact bx _
   have hx5:Row 0 (G2++Y) 3 valC bag1.vals mr:=by rw [hG2];exact hrowG.app.app
   obtain ⟨G5,hG5⟩:∃ G5,G5=G2++Y:=⟨_,rfl⟩
   rw [← hG5] at h5 bx5 hx5 ⊢
   clear h4 hr4
   simp [-load_ptr]
   refine WCl.mono (gs_out h5 (by simp)) ?_
   rintro r6 H6 ⟨hl6,h6',len6,kp6⟩
   have b6:=kp6 _ _ bx5
   have hx6:Row 0 H6 3 valC bag1.vals mr:=hx5.keepAll kp6
   have ld66:loadAt H6 none (.ptr (some (tb,6)))=some (I pt):=fld_ld b6 f6
   simp only [List.length_cons,List.length_nil,Nat.zero_add] at hl6
   simp [hl6,ld66,msgG_len,bz8,-load_ptr]
   refine WCl.mono (gs_ended (k:=8) (a:=1) (b:=0) (seq:=0) (pt:=pt) (ep:=3) (key:=[]) (kn:=zeroV) (r:=.nilsl) h6' (by omega) p0 rfl) ?_
   rintro _ _ ⟨rfl,Y2,rfl⟩
   have h7:=h6'.app (X:=Y2)
   have b7:=get_app (X:=Y2) b6
   have hx7:Row 0 (H6++Y2) 3 valC bag1.vals mr:=hx6.app
   obtain ⟨H7,hH7⟩:∃ H7,H7=H6++Y2:=⟨_,rfl⟩
   rw [← hH7] at h7 b7 hx7 ⊢
   have ld7:loadAt H7 (some 62) (.ptr (some (tb,0)))=some (.agg zx):=by
    simp only [loadAt,cells_of b7,Option.bind_some,Option.getD_some,xcut,shapeOf]
   simp [ld7,-load_ptr]
   rw [hzx]
   refine WCl.mono (gs_got h7 hx7 (by simp)) ?_
   rintro _ _ (⟨rfl,hno,_⟩ | ⟨rfl,_,o',l2,_,hp2,h8,_⟩)
   · exfalso
     rcases hno with hno | hno
     · simp [ofB] at hno
     · have:=hno _ (.head _)
       simp [sameO,bag1_self] at this
   · have hl2:l2=[]:=by
      have:=hp2.length_eq
      exact List.eq_nil_of_length_eq_zero (by simpa using this)
     rw [hl2] at h8
     simp [-load_ptr]
     refine WCl.mono (gs_out h8 (by simp)) ?_
     rintro r9 H9 ⟨hl9,_,_,_⟩
     simp only [List.length_nil] at hl9
     simp [hl9,k43]
 · obtain ⟨zy,hzy⟩:∃ z,z=msgG 6 1 0 1 pt 4 okey bag1.known mr:=⟨_,rfl⟩
   have st:zx.set 7 (I 4)=zy:=by rw [hzx,hzy];kernel_rfl
   have yl:zy.length=62:=by rw [hzy];exact msgG_len
   have ycut:cut zy 0 62=some zy:=cut_all yl
   obtain ⟨G2,hG2⟩:∃ G2,G2=G++[ABlk.cells false zy]:=⟨_,rfl⟩
   have ldy:loadAt G2 (some 62) (.ptr (some (G.length,0)))=some (.agg zy):=by
    rw [hG2]
    simp only [loadAt,cells_of (at' zy),Option.bind_some,Option.getD_some,ycut,shapeOf]
   have h4:GivS G2 gb H1.length p Hm.length (Hm.length + 1) ⟨0,pt,3,1,1,1,false⟩ [⟨1,okey,bag1.known,bag1.vals,owhen,orr⟩] [] okey s:=by rw [hG2];exact hG3.app
   have hr4:Row 0 G2 3 valC bag1.vals mr:=by rw [hG2];exact hrowG.app
   simp [msg_zero,msgG_len,xl,xone,xs,ldx,hN,h6,ld6,ld7,ld8,ld3,wpt,hpn,e3,e7,st,hk2,binStr,← hG2,ldy,-load_ptr]
   rw [hzy]
   refine WCl.mono (gs_got h4 hr4 (by simp)) ?_
   rintro _ _ (⟨rfl,_,Y,rfl⟩ | ⟨rfl,hof,o',l2,hs,hp,_⟩)
   case inr =>
    exfalso
    have:o'=⟨1,okey,bag1.known,bag1.vals,owhen,orr⟩:=by
     have:=hp.subset (.head _)
     simpa using this
    subst this
    simp [ofB] at hof
   have h5:=h4.app (X:=Y)
   have bx5:(G2++Y)[tb]?=some (.cells false zx):=by rw [hG2,List.append_assoc];exact bx _
   have hx5:Row 0 (G2++Y) 3 valC bag1.vals mr:=by rw [hG2];exact hrowG.app.app
   obtain ⟨G5,hG5⟩:∃ G5,G5=G2++Y:=⟨_,rfl⟩
   rw [← hG5] at h5 bx5 hx5 ⊢
   clear h4 hr4
   simp [-load_ptr]
   refine WCl.mono (gs_out h5 (by simp)) ?_
   rintro r6 H6 ⟨hl6,h6',len6,kp6⟩
   have b6:=kp6 _ _ bx5
   have hx6:Row 0 H6 3 valC bag1.vals mr:=hx5.keepAll kp6
   have ld66:loadAt H6 none (.ptr (some (tb,6)))=some (I pt):=fld_ld b6 f6
   simp only [List.length_cons,List.length_nil,Nat.zero_add] at hl6
   simp [hl6,ld66,msgG_len,bz8,-load_ptr]
   refine WCl.mono (gs_ended (k:=8) (a:=1) (b:=0) (seq:=0) (pt:=pt) (ep:=3) (key:=[]) (kn:=zeroV) (r:=.nilsl) h6' (by omega) p0 rfl) ?_
   rintro _ _ ⟨rfl,Y2,rfl⟩
   have h7:=h6'.app (X:=Y2)
   have b7:=get_app (X:=Y2) b6
   have hx7:Row 0 (H6++Y2) 3 valC bag1.vals mr:=hx6.app
   obtain ⟨H7,hH7⟩:∃ H7,H7=H6++Y2:=⟨_,rfl⟩
   rw [← hH7] at h7 b7 hx7 ⊢
   have ld7:loadAt H7 (some 62) (.ptr (some (tb,0)))=some (.agg zx):=by
    simp only [loadAt,cells_of b7,Option.bind_some,Option.getD_some,xcut,shapeOf]
   simp [ld7,-load_ptr]
   rw [hzx]
   refine WCl.mono (gs_got h7 hx7 (by simp)) ?_
   rintro _ _ (⟨rfl,hno,_⟩ | ⟨rfl,_,o',l2,_,hp2,h8,_⟩)
   · exfalso
     rcases hno with hno | hno
     · simp [ofB] at hno
     · have:=hno _ (.head _)
       simp [sameO,bag1_self] at this
   · have hl2:l2=[]:=by
      have:=hp2.length_eq
      exact List.eq_nil_of_length_eq_zero (by simpa using this)
     rw [hl2] at h8
     simp [-load_ptr]
     refine WCl.mono (gs_out h8 (by simp)) ?_
     rintro r9 H9 ⟨hl9,_,_,_⟩
     simp only [List.length_nil] at hl9
     simp [hl9,k43]
 · obtain ⟨zy,hzy⟩:∃ z,z=msgG 6 2 0 1 pt 3 okey bag1.known mr:=⟨_,rfl⟩
   have st:zx.set 1 (I 2)=zy:=by rw [hzx,hzy];kernel_rfl
   have yl:zy.length=62:=by rw [hzy];exact msgG_len
   have ycut:cut zy 0 62=some zy:=cut_all yl
   obtain ⟨G2,hG2⟩:∃ G2,G2=G++[ABlk.cells false zy]:=⟨_,rfl⟩
   have ldy:loadAt G2 (some 62) (.ptr (some (G.length,0)))=some (.agg zy):=by
    rw [hG2]
    simp only [loadAt,cells_of (at' zy),Option.bind_some,Option.getD_some,ycut,shapeOf]
   have h4:GivS G2 gb H1.length p Hm.length (Hm.length + 1) ⟨0,pt,3,1,1,1,false⟩ [⟨1,okey,bag1.known,bag1.vals,owhen,orr⟩] [] okey s:=by rw [hG2];exact hG3.app
   have hr4:Row 0 G2 3 valC bag1.vals mr:=by rw [hG2];exact hrowG.app
   simp [msg_zero,msgG_len,xl,xone,xs,ldx,hN,h6,ld6,ld7,ld8,ld3,wpt,hpn,e3,e7,st,hk2,binStr,← hG2,ldy,-load_ptr]
   rw [hzy]
   refine WCl.mono (gs_got h4 hr4 (by simp)) ?_
   rintro _ _ (⟨rfl,_,Y,rfl⟩ | ⟨rfl,hof,o',l2,hs,hp,_⟩)
   case inr =>
    exfalso
    have:o'=⟨1,okey,bag1.known,bag1.vals,owhen,orr⟩:=by
     have:=hp.subset (.head _)
     simpa using this
    subst this
    simp [ofB] at hof
   have h5:=h4.app (X:=Y)
   have bx5:(G2++Y)[tb]?=some (.cells false zx):=by rw [hG2,List.append_assoc];exact bx _
   have hx5:Row 0 (G2++Y) 3 valC bag1.vals mr:=by rw [hG2];exact hrowG.app.app
   obtain ⟨G5,hG5⟩:∃ G5,G5=G2++Y:=⟨_,rfl⟩
   rw [← hG5] at h5 bx5 hx5 ⊢
   clear h4 hr4
   simp [-load_ptr]
   refine WCl.mono (gs_out h5 (by simp)) ?_
   rintro r6 H6 ⟨hl6,h6',len6,kp6⟩
   have b6:=kp6 _ _ bx5
   have hx6:Row 0 H6 3 valC bag1.vals mr:=hx5.keepAll kp6
   have ld66:loadAt H6 none (.ptr (some (tb,6)))=some (I pt):=fld_ld b6 f6
   simp only [List.length_cons,List.length_nil,Nat.zero_add] at hl6
   simp [hl6,ld66,msgG_len,bz8,-load_ptr]
   refine WCl.mono (gs_ended (k:=8) (a:=1) (b:=0) (seq:=0) (pt:=pt) (ep:=3) (key:=[]) (kn:=zeroV) (r:=.nilsl) h6' (by omega) p0 rfl) ?_
   rintro _ _ ⟨rfl,Y2,rfl⟩
   have h7:=h6'.app (X:=Y2)
   have b7:=get_app (X:=Y2) b6
   have hx7:Row 0 (H6++Y2) 3 valC bag1.vals mr:=hx6.app
   obtain ⟨H7,hH7⟩:∃ H7,H7=H6++Y2:=⟨_,rfl⟩
   rw [← hH7] at h7 b7 hx7 ⊢
   have ld7:loadAt H7 (some 62) (.ptr (some (tb,0)))=some (.agg zx):=by
    simp only [loadAt,cells_of b7,Option.bind_some,Option.getD_some,xcut,shapeOf]
   simp [ld7,-load_ptr]
   rw [hzx]
   refine WCl.mono (gs_got h7 hx7 (by simp)) ?_
   rintro _ _ (⟨rfl,hno,_⟩ | ⟨rfl,_,o',l2,_,hp2,h8,_⟩)
   · exfalso
     rcases hno with hno | hno
     · simp [ofB] at hno
     · have:=hno _ (.head _)
       simp [sameO,bag1_self] at this
   · have hl2:l2=[]:=by
      have:=hp2.length_eq
      exact List.eq_nil_of_length_eq_zero (by simpa using this)
     rw [hl2] at h8
     simp [-load_ptr]
     refine WCl.mono (gs_out h8 (by simp)) ?_
     rintro r9 H9 ⟨hl9,_,_,_⟩
     simp only [List.length_nil] at hl9
     simp [hl9,k43]
 · obtain ⟨zy,hzy⟩:∃ z,z=msgG 6 1 0 1 pt 3 (okey++[120]) bag1.known mr:=⟨_,rfl⟩
   have st:zx.set 8 (.str (okey++[120]))=zy:=by rw [hzx,hzy];kernel_rfl
   have yl:zy.length=62:=by rw [hzy];exact msgG_len
   have ycut:cut zy 0 62=some zy:=cut_all yl
   obtain ⟨G2,hG2⟩:∃ G2,G2=G++[ABlk.cells false zy]:=⟨_,rfl⟩
   have ldy:loadAt G2 (some 62) (.ptr (some (G.length,0)))=some (.agg zy):=by
    rw [hG2]
    simp only [loadAt,cells_of (at' zy),Option.bind_some,Option.getD_some,ycut,shapeOf]
   have h4:GivS G2 gb H1.length p Hm.length (Hm.length + 1) ⟨0,pt,3,1,1,1,false⟩ [⟨1,okey,bag1.known,bag1.vals,owhen,orr⟩] [] okey s:=by rw [hG2];exact hG3.app
   have hr4:Row 0 G2 3 valC bag1.vals mr:=by rw [hG2];exact hrowG.app
   simp [msg_zero,msgG_len,xl,xone,xs,ldx,hN,h6,ld6,ld7,ld8,ld3,wpt,hpn,e3,e7,st,hk2,binStr,← hG2,ldy,-load_ptr]
   rw [hzy]
   refine WCl.mono (gs_got h4 hr4 (by simp)) ?_
   rintro _ _ (⟨rfl,_,Y,rfl⟩ | ⟨rfl,hof,o',l2,hs,hp,_⟩)
   case inr =>
    exfalso
    have:o'=⟨1,okey,bag1.known,bag1.vals,owhen,orr⟩:=by
     have:=hp.subset (.head _)
     simpa using this
    subst this
    simp [sameO] at hs
   have h5:=h4.app (X:=Y)
   have bx5:(G2++Y)[tb]?=some (.cells false zx):=by rw [hG2,List.append_assoc];exact bx _
   have hx5:Row 0 (G2++Y) 3 valC bag1.vals mr:=by rw [hG2];exact hrowG.app.app
   obtain ⟨G5,hG5⟩:∃ G5,G5=G2++Y:=⟨_,rfl⟩
   rw [← hG5] at h5 bx5 hx5 ⊢
   clear h4 hr4
   simp [-load_ptr]
   refine WCl.mono (gs_out h5 (by simp)) ?_
   rintro r6 H6 ⟨hl6,h6',len6,kp6⟩
   have b6:=kp6 _ _ bx5
   have hx6:Row 0 H6 3 valC bag1.vals mr:=hx5.keepAll kp6
   have ld66:loadAt H6 none (.ptr (some (tb,6)))=some (I pt):=fld_ld b6 f6
   simp only [List.length_cons,List.length_nil,Nat.zero_add] at hl6
   simp [hl6,ld66,msgG_len,bz8,-load_ptr]
   refine WCl.mono (gs_ended (k:=8) (a:=1) (b:=0) (seq:=0) (pt:=pt) (ep:=3) (key:=[]) (kn:=zeroV) (r:=.nilsl) h6' (by omega) p0 rfl) ?_
   rintro _ _ ⟨rfl,Y2,rfl⟩
   have h7:=h6'.app (X:=Y2)
   have b7:=get_app (X:=Y2) b6
   have hx7:Row 0 (H6++Y2) 3 valC bag1.vals mr:=hx6.app
   obtain ⟨H7,hH7⟩:∃ H7,H7=H6++Y2:=⟨_,rfl⟩
   rw [← hH7] at h7 b7 hx7 ⊢
   have ld7:loadAt H7 (some 62) (.ptr (some (tb,0)))=some (.agg zx):=by
    simp only [loadAt,cells_of b7,Option.bind_some,Option.getD_some,xcut,shapeOf]
   simp [ld7,-load_ptr]
   rw [hzx]
   refine WCl.mono (gs_got h7 hx7 (by simp)) ?_
   rintro _ _ (⟨rfl,hno,_⟩ | ⟨rfl,_,o',l2,_,hp2,h8,_⟩)
   · exfalso
     rcases hno with hno | hno
     · simp [ofB] at hno
     · have:=hno _ (.head _)
       simp [sameO,bag1_self] at this
   · have hl2:l2=[]:=by
      have:=hp2.length_eq
      exact List.eq_nil_of_length_eq_zero (by simpa using this)
     rw [hl2] at h8
     simp [-load_ptr]
     refine WCl.mono (gs_out h8 (by simp)) ?_
     rintro r9 H9 ⟨hl9,_,_,_⟩
     simp only [List.length_nil] at hl9
     simp [hl9,k43]
 · obtain ⟨zy,hzy⟩:∃ z,z=msgG 6 1 0 1 pt 3 okey zeroV .nilsl:=⟨_,rfl⟩
   have st:((((((((zx.set 9 (I 0)).set 10 (I 0)).set 11 (I 0)).set 12 (I 0)).set 13 (I 0)).set 14 (I 0)).set 15 (I 0)).set 16 (I 0)).set 17 .nilsl=zy:=by rw [hzx,hzy];kernel_rfl
   have yl:zy.length=62:=by rw [hzy];exact msgG_len
   have ycut:cut zy 0 62=some zy:=cut_all yl
   obtain ⟨G2,hG2⟩:∃ G2,G2=G++[ABlk.cells false zy]:=⟨_,rfl⟩
   have ldy:loadAt G2 (some 62) (.ptr (some (G.length,0)))=some (.agg zy):=by
    rw [hG2]
    simp only [loadAt,cells_of (at' zy),Option.bind_some,Option.getD_some,ycut,shapeOf]
   have h4:GivS G2 gb H1.length p Hm.length (Hm.length + 1) ⟨0,pt,3,1,1,1,false⟩ [⟨1,okey,bag1.known,bag1.vals,owhen,orr⟩] [] okey s:=by rw [hG2];exact hG3.app
   have hr4:Row 0 G2 3 valC [] .nilsl:=by rw [hG2];exact Row.nil
   simp [msg_zero,msgG_len,xl,xone,xs,ldx,hN,h6,ld6,ld7,ld8,ld3,wpt,hpn,e3,e7,st,hk2,binStr,← hG2,ldy,-load_ptr]
   rw [hzy]
   refine WCl.mono (gs_got h4 hr4 (by simp)) ?_
   rintro _ _ (⟨rfl,_,Y,rfl⟩ | ⟨rfl,hof,o',l2,hs,hp,_⟩)
   case inr =>
    exfalso
    have:o'=⟨1,okey,bag1.known,bag1.vals,owhen,orr⟩:=by
     have:=hp.subset (.head _)
     simpa using this
    subst this
    simp [sameO,bag1_ne] at hs
   have h5:=h4.app (X:=Y)
   have bx5:(G2++Y)[tb]?=some (.cells false zx):=by rw [hG2,List.append_assoc];exact bx _
   have hx5:Row 0 (G2++Y) 3 valC bag1.vals mr:=by rw [hG2];exact hrowG.app.app
   obtain ⟨G5,hG5⟩:∃ G5,G5=G2++Y:=⟨_,rfl⟩
   rw [← hG5] at h5 bx5 hx5 ⊢
   clear h4 hr4
   simp [-load_ptr]
   refine WCl.mono (gs_out h5 (by simp)) ?_
   rintro r6 H6 ⟨hl6,h6',len6,kp6⟩
   have b6:=kp6 _ _ bx5
   have hx6:Row 0 H6 3 valC bag1.vals mr:=hx5.keepAll kp6
   have ld66:loadAt H6 none (.ptr (some (tb,6)))=some (I pt):=fld_ld b6 f6
   simp only [List.length_cons,List.length_nil,Nat.zero_add] at hl6
   simp [hl6,ld66,msgG_len,bz8,-load_ptr]
   refine WCl.mono (gs_ended (k:=8) (a:=1) (b:=0) (seq:=0) (pt:=pt) (ep:=3) (key:=[]) (kn:=zeroV) (r:=.nilsl) h6' (by omega) p0 rfl) ?_
   rintro _ _ ⟨rfl,Y2,rfl⟩
   have h7:=h6'.app (X:=Y2)
   have b7:=get_app (X:=Y2) b6
   have hx7:Row 0 (H6++Y2) 3 valC bag1.vals mr:=hx6.app
   obtain ⟨H7,hH7⟩:∃ H7,H7=H6++Y2:=⟨_,rfl⟩
   rw [← hH7] at h7 b7 hx7 ⊢
   have ld7:loadAt H7 (some 62) (.ptr (some (tb,0)))=some (.agg zx):=by
    simp only [loadAt,cells_of b7,Option.bind_some,Option.getD_some,xcut,shapeOf]
   simp [ld7,-load_ptr]
   rw [hzx]
   refine WCl.mono (gs_got h7 hx7 (by simp)) ?_
   rintro _ _ (⟨rfl,hno,_⟩ | ⟨rfl,_,o',l2,_,hp2,h8,_⟩)
   · exfalso
     rcases hno with hno | hno
     · simp [ofB] at hno
     · have:=hno _ (.head _)
       simp [sameO,bag1_self] at this
   · have hl2:l2=[]:=by
      have:=hp2.length_eq
      exact List.eq_nil_of_length_eq_zero (by simpa using this)
     rw [hl2] at h8
     simp [-load_ptr]
     refine WCl.mono (gs_out h8 (by simp)) ?_
     rintro r9 H9 ⟨hl9,_,_,_⟩
     simp only [List.length_nil] at hl9
     simp [hl9,k43]
 · obtain ⟨zy,hzy⟩:∃ z,z=msgG 6 1 0 2 pt 3 okey bag1.known mr:=⟨_,rfl⟩
   have st:zx.set 3 (I 2)=zy:=by rw [hzx,hzy];kernel_rfl
   have yl:zy.length=62:=by rw [hzy];exact msgG_len
   have ycut:cut zy 0 62=some zy:=cut_all yl
   obtain ⟨G2,hG2⟩:∃ G2,G2=G++[ABlk.cells false zy]:=⟨_,rfl⟩
   have ldy:loadAt G2 (some 62) (.ptr (some (G.length,0)))=some (.agg zy):=by
    rw [hG2]
    simp only [loadAt,cells_of (at' zy),Option.bind_some,Option.getD_some,ycut,shapeOf]
   have h4:GivS G2 gb H1.length p Hm.length (Hm.length + 1) ⟨0,pt,3,1,1,1,false⟩ [⟨1,okey,bag1.known,bag1.vals,owhen,orr⟩] [] okey s:=by rw [hG2];exact hG3.app
   have hr4:Row 0 G2 3 valC bag1.vals mr:=by rw [hG2];exact hrowG.app
   simp [msg_zero,msgG_len,xl,xone,xs,ldx,hN,h6,ld6,ld7,ld8,ld3,wpt,hpn,e3,e7,st,hk2,binStr,← hG2,ldy,-load_ptr]
   rw [hzy]
   refine WCl.mono (gs_got h4 hr4 (by simp)) ?_
   rintro _ _ (⟨rfl,_,Y,rfl⟩ | ⟨rfl,hof,o',l2,hs,hp,_⟩)
   case inr =>
    exfalso
    have:o'=⟨1,okey,bag1.known,bag1.vals,owhen,orr⟩:=by
     have:=hp.subset (.head _)
     simpa using this
    subst this
    simp [sameO] at hs
   have h5:=h4.app (X:=Y)
   have bx5:(G2++Y)[tb]?=some (.cells false zx):=by rw [hG2,List.append_assoc];exact bx _
   have hx5:Row 0 (G2++Y) 3 valC bag1.vals mr:=by rw [hG2];exact hrowG.app.app
   obtain ⟨G5,hG5⟩:∃ G5,G5=G2++Y:=⟨_,rfl⟩
   rw [← hG5] at h5 bx5 hx5 ⊢
   clear h4 hr4
   simp [-load_ptr]
   refine WCl.mono (gs_out h5 (by simp)) ?_
   rintro r6 H6 ⟨hl6,h6',len6,kp6⟩
   have b6:=kp6 _ _ bx5
   have hx6:Row 0 H6 3 valC bag1.vals mr:=hx5.keepAll kp6
   have ld66:loadAt H6 none (.ptr (some (tb,6)))=some (I pt):=fld_ld b6 f6
   simp only [List.length_cons,List.length_nil,Nat.zero_add] at hl6
   simp [hl6,ld66,msgG_len,bz8,-load_ptr]
   refine WCl.mono (gs_ended (k:=8) (a:=1) (b:=0) (seq:=0) (pt:=pt) (ep:=3) (key:=[]) (kn:=zeroV) (r:=.nilsl) h6' (by omega) p0 rfl) ?_
   rintro _ _ ⟨rfl,Y2,rfl⟩
   have h7:=h6'.app (X:=Y2)
   have b7:=get_app (X:=Y2) b6
   have hx7:Row 0 (H6++Y2) 3 valC bag1.vals mr:=hx6.app
   obtain ⟨H7,hH7⟩:∃ H7,H7=H6++Y2:=⟨_,rfl⟩
   rw [← hH7] at h7 b7 hx7 ⊢
   have ld7:loadAt H7 (some 62) (.ptr (some (tb,0)))=some (.agg zx):=by
    simp only [loadAt,cells_of b7,Option.bind_some,Option.getD_some,xcut,shapeOf]
   simp [ld7,-load_ptr]
   rw [hzx]
   refine WCl.mono (gs_got h7 hx7 (by simp)) ?_
   rintro _ _ (⟨rfl,hno,_⟩ | ⟨rfl,_,o',l2,_,hp2,h8,_⟩)
   · exfalso
     rcases hno with hno | hno
     · simp [ofB] at hno
     · have:=hno _ (.head _)
       simp [sameO,bag1_self] at this
   · have hl2:l2=[]:=by
      have:=hp2.length_eq
      exact List.eq_nil_of_length_eq_zero (by simpa using this)
     rw [hl2] at h8
     simp [-load_ptr]
     refine WCl.mono (gs_out h8 (by simp)) ?_
     rintro r9 H9 ⟨hl9,_,_,_⟩
     simp only [List.length_nil] at hl9
     simp [hl9,k43]
theorem giveOnce_law (cs:List AV) (h:FitsArgs [(false,.int .i64),(false,.int .i64),(true,shMsg)] cs):∃ n H',callF envE (exec envE n) 9 cs 0 []=some (.bool true,H'):=by
 obtain ⟨a,rest,rfl,h1,t⟩:=fa_one h
 obtain ⟨c,rest,rfl,h2,t⟩:=fa_one t
 obtain ⟨d,rest,rfl,h3,t⟩:=fa_row t
 cases fa_nil t
 obtain ⟨x,e1,_⟩:=fits_int h1
 obtain ⟨y,e2,_⟩:=fits_int h2
 obtain ⟨m,rfl,_⟩:=of_msg h3
 cases e1
 cases e2
 exact law_of (giveOnce_pu x y m) (args_cons (by simp) (args_cons (by simp) (args_cons (frz_agg (mV_frz (d:=10) frz_roL frz_roL frz_roL)) (by simp))))
end Go.Proofs.YtgbnbgkldeifkaaGreatA

namespace Go.Proofs.YtgbnbgkldeifkaaGreat.giveOnce
open Go.ChangeShapes Go.WideShapes Go.ChangeAt Go.RowKit
set_option linter.unusedVariables false
theorem own:ownKnob Tryz.prog.godebug=none:=by kernel_rfl
set_option maxRecDepth 1000000 in
theorem lifted (os:Os) (started:os.Started) (H:Type) (enc:TypeId × Value→H) :
    ReturnsInHanded {} Tryz.checked os 9 .any (Rows.giveOnceSpec.pre6 enc Tryz.prog Tryz.f9 Rows.giveOnceRow.domain false) (Rows.giveOnceSpec.post enc Tryz.prog Tryz.f9 false true false false) :=
  YtgbnbgkldeifkaaGreatA.law_lifted (C:=Tryz.checked) YtgbnbgkldeifkaaGreatA.env_good (fd:=YtgbnbgkldeifkaaGreatA.fd9) (tb:=4) rfl own started (by kernel_rfl) Tryz.func9
    (ChangeSpec.witness6 (enc:=enc) (C:=Tryz.checked) false ⟨#[],#[((Tryz.prog.info? 3).bind (·.zero)).getD .nilFunc,((Tryz.prog.info? 3).bind (·.zero)).getD .nilFunc,((Tryz.prog.info? 95).bind (·.zero)).getD .nilFunc],[]⟩ 8 (by kernel_rfl) (by kernel_rfl) (by kernel_rfl) (by kernel_rfl))
    (by kernel_rfl) (by decide +kernel) (by kernel_rfl) rfl (by kernel_rfl) (by kernel_rfl) (fun ds h=>by
      match ds,h with
      | [d0,d1,d2],_=>rfl) YtgbnbgkldeifkaaGreatA.giveOnce_law
theorem over:Rows.giveOnceRow.holds Tryz.pinned (OpenSpec.ofChange Rows.giveOnceSpec) :=
  OpenClaim.holds_of_wide 9 Tryz.f9 rfl rfl rfl rfl rfl rfl rfl ⟨rfl,rfl,rfl,rfl,rfl⟩ rfl rfl rfl rfl rfl (by kernel_rfl) Tryz.func9 (by kernel_rfl)
    (of_decide_eq_true (by kernel_rfl)) (by unfold Func.isWrapper;first | (rw [if_pos (by decide +kernel)];kernel_rfl) | (rw [if_neg (by decide +kernel)];exact ⟨rfl,rfl⟩))
    (fun os started H enc _=>lifted os started H enc)
end Go.Proofs.YtgbnbgkldeifkaaGreat.giveOnce
namespace Go.Proofs.YtgbnbgkldeifkaaGreat
/-- The row, under a short name, for the claim. -/
theorem giveOnce_holds:Rows.GiveOnceSaid:=giveOnce.over
#print axioms giveOnce_holds
end Go.Proofs.YtgbnbgkldeifkaaGreat


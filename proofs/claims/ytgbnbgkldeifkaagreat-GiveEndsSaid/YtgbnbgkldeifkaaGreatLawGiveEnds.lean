/- 'starlinglaw20.GiveEnds' returns true for all rows of keys' numbers and every late one: it ends when all was got, and says so each tick; a write makes it go on, till that was got, too. Without further conditions. -/
import Derived.Test.YtgbnbgkldeifkaaGreatRows
import Derived.Test.YtgbnbgkldeifkaaGreatGC
import Derived.WalkKit
import Derived.ProofKit
import Derived.ChangeOld
namespace Go.Proofs.YtgbnbgkldeifkaaGreatA
open Go Go.RowKit
set_option linter.unusedSimpArgs false
set_option linter.unusedVariables false
set_option maxRecDepth 1000000
attribute [local simp] vec_zero
noncomputable def keyF (n:Int):List UInt8:=Classical.choose (c44 n)
theorem c44k (n:Int):Pu envE 44 [I n] (.str (keyF n))∧(keyF n).length=2:=Classical.choose_spec (c44 n)
theorem key_fine {k:List UInt8} (h:k.length=2):keyOk k=true:=by simp [keyOk,h]
theorem modlen (x:Int) {n:Nat} (h0:0 < n) (h1:n < 1000):∃ N:Nat,N < n∧IntKind.i64.wrap ((IntKind.u64.wrap x).tmod (n:Int))=(N:Int):=by
 have hx:0≤IntKind.u64.wrap x:=by simp [IntKind.wrap,IntKind.signed,IntKind.bits];omega
 have h1:=Int.emod_nonneg (IntKind.u64.wrap x) (b:=n) (by omega)
 have h2:=Int.emod_lt_of_pos (IntKind.u64.wrap x) (b:=n) (by omega)
 refine ⟨((IntKind.u64.wrap x) % n).toNat,by omega,?_⟩
 rw [Int.tmod_eq_emod_of_nonneg hx,wrap_i64] <;> omega
theorem strict_ext {a b:List (List UInt8)} (ha:Strict a) (hb:Strict b) (h:∀ x,x ∈ a ↔ x ∈ b):a=b:=by
 have nd:∀ {l:List (List UInt8)},Strict l→l.Nodup:=fun h=>h.imp fun {a b} q e=>by rw [e,sless_irr] at q;cases q
 have hp:=(List.perm_ext_iff_of_nodup (nd ha) (nd hb)).2 h
 rw [← strict_sorted ha,← strict_sorted hb,sortS_of_perm hp]
theorem uniq_seq {P:List MsgP} (h:P.Pairwise fun a b=>a.2.1 < b.2.1) {a b:MsgP} (ha:a ∈ P) (hb:b ∈ P) (e:a.2.1=b.2.1):a=b:=by
 obtain ⟨i,hi,rfl⟩:=List.getElem_of_mem ha
 obtain ⟨j,hj,rfl⟩:=List.getElem_of_mem hb
 rcases Nat.lt_trichotomy i j with q | q | q
 · have:=List.pairwise_iff_getElem.1 h i j hi hj q
   omega
 · subst q;rfl
 · have:=List.pairwise_iff_getElem.1 h j i hj hi q
   omega
theorem got_one {P:List MsgP} (hlt:P.Pairwise fun a b=>a.2.1 < b.2.1) {l l':List OutM} {o:OutM} {x:MsgP} {Q:List MsgP} (hP:P=x :: Q) (hl:(l.map OutM.p).Perm P) (hs:sameO o x.2.1 x.2.2.1 x.2.2.2.1 x.2.2.2.2=true) (hp:(o :: l').Perm l):(l'.map OutM.p).Perm Q:=by
 have h1:((o :: l').map OutM.p).Perm P:=(hp.map _).trans hl
 rw [List.map_cons] at h1
 have hsq:o.seq=x.2.1:=by
  simp only [sameO,Bool.and_eq_true,decide_eq_true_eq] at hs
  exact hs.1.1
 have e:o.p=x:=uniq_seq hlt (h1.subset (.head _)) (by rw [hP];exact .head _) hsq
 rw [e,hP] at h1
 exact h1.cons_inv
theorem got_is {P:List MsgP} {l:List OutM} {x:MsgP} (hk:x.1=5) (hl:(l.map OutM.p).Perm P) (hx:x ∈ P):∃ o ∈ l,sameO o x.2.1 x.2.2.1 x.2.2.2.1 x.2.2.2.2=true:=by
 obtain ⟨o,ho,e⟩:=List.mem_map.1 (hl.symm.subset hx)
 refine ⟨o,ho,?_⟩
 rw [← e]
 have hsm:bagSame o.known o.vals o.known o.vals=true:=bagSame_refl (b:=⟨o.known,o.vals⟩)
 simp [OutM.p,sameO,hsm]
theorem toldP_kind {s:VSt}:∀ {ks:List (List UInt8)} {n:Int},∀ x ∈ toldP s n ks,x.1=5
 | [],_,x,h=>absurd h (by simp [toldP])
 | k :: ks,n,x,h=>by
  rcases List.mem_cons.1 h with rfl | q
  · rfl
  · exact toldP_kind x q
def endZ (pt:Int):List AV:=msgG 8 1 0 0 pt 1 [] zeroV .nilsl
theorem end_fr {pt:Int}:isGiv (.cells false (endZ pt))=false∧isCur (.cells false (endZ pt))=false∧isOut (.cells false (endZ pt))=false:=⟨by kernel_rfl,by kernel_rfl,by kernel_rfl⟩
set_option maxHeartbeats 800000 in
theorem giveEnds_pu (l:List Int) (late:Int) (hl:l.length < 4611686018427387904):Pu envE 10 [roL intC l,I late] (.bool true):=by
 by_cases hsmall:l.length < 1
 · have hs2:(l.length:Int) < 1:=by omega
   refine pu_is e10 rfl ?_
   rw [fr_init (by simp [fd10])]
   simp [fd10,b10,hs2,k43]
 by_cases hbig:(20:Int) < l.length
 · have hs2:¬ (l.length:Int) < 1:=by omega
   refine pu_is e10 rfl ?_
   rw [fr_init (by simp [fd10])]
   simp [fd10,b10,hs2,hbig,k43]
 have hs2:¬ (l.length:Int) < 1:=by omega
 have h0:0 < l.length:=by omega
 obtain ⟨NL,hNL,hNLe⟩:=modlen late h0 (by omega)
 have hwl:IntKind.u64.wrap (l.length:Int)=(l.length:Int):=by simp [IntKind.wrap,IntKind.signed,IntKind.bits];omega
 obtain ⟨k0,hk0⟩:∃ k0,k0=keyF l[0]:=⟨_,rfl⟩
 obtain ⟨q1,q2⟩:=c44k l[0]
 rw [← hk0] at q1 q2
 obtain ⟨p0,p1⟩:=spot_ok (key_fine q2)
 obtain ⟨pt,hpt⟩:∃ pt,pt=spotF k0:=⟨_,rfl⟩
 rw [← hpt] at p0 p1
 have ld0:∀ H,loadAt H none (.tp (l.flatMap intC))=some (I l[0]):=fun H=>by
  have:=int_load h0 (H:=H)
  simpa using this
 have ix0:idxSlAV 1 (I 0) (roL intC l)=some (.tp (List.drop (0 * 1) (List.flatMap intC l))):=idxSl_roL h0 (k:=.i64)
 have nr:=fun K=>new_room (room:=100) (H:=[]) (lim:=0) (K:=K) (by omega) (by omega)
 refine pu_is e10 rfl ?_
 rw [fr_init (by simp [fd10])]
 simp [fd10,b10,hs2,hbig,ix0,ld0,-load_tp,wPu_eq q1,← hpt,nr]
 refine open_new 100 [] (by omega) (by omega) ?_
 intro X hv
 simp only [List.nil_append,List.length_nil,Nat.zero_add] at hv ⊢
 simp
 refine loop_go [0,1,5,6,34,35,36] rfl (fun m vs H=>∃ i s v q es ck,m + i=l.length∧Vlt H 2 0 1 s v q es ck∧Puts s i 100∧(∀ j (hj:j < l.length),j < i→keyF l[j] ∈ s.bags.map Prod.fst)∧vs=[roL intC l,I late,I pt,.ptr (some (2,0)),roL intC l,I l.length,I i]) ?_ l.length ⟨0,emptyS 100,_,_,_,_,rfl,hv,puts_empty (by omega) (by omega),fun j hj h=>by omega,rfl⟩
 rintro J hJ m vs H f ⟨i,s,v,q,es,ck,hm,hv,hpu,hin,rfl⟩
 by_cases hi:i < l.length
 · have hw:=wrap_succ (i:=i) (by omega)
   have hld:=int_load hi (H:=H)
   obtain ⟨hk,hk2⟩:=c44k l[i]
   simp [lp10_0,hi,idxSl_roL hi,hld,-load_tp,wPu_eq hk]
   refine WCl.mono (c24 hv hpu.ok 0 (keyF l[i]) zeroV [118]) ?_
   rintro _ H2 ⟨rfl,k2,v2,q2',es2,ck2,hv2⟩
   simp [hw]
   obtain ⟨s',hp1,hp2,hp3⟩:=hpu.step (by omega) (by omega) (key_fine hk2) (data:=[118]) (by simp)
   rw [hp1] at hv2
   refine nxt hJ (m - 1) (by omega) ⟨i + 1,s',v2,q2',es2,ck2,by omega,hv2,hp2,fun j hj h=>?_,rfl⟩
   by_cases e:j=i
   · subst e
     exact (hp3 _).2 (.inr rfl)
   · exact (hp3 _).2 (.inl (hin j hj (by omega)))
 obtain rfl:i=l.length:=by omega
 have hin:∀ j (hj:j < l.length),keyF l[j] ∈ s.bags.map Prod.fst:=fun j hj=>hin j hj hj
 obtain ⟨K,hK⟩:∃ K,K=keysS s pt:=⟨_,rfl⟩
 have hKs:Strict K:=by rw [hK];exact keys_strict hv.ents.uniq
 have hKn:∀ k ∈ K,k ≠ []:=by rw [hK];exact keysS_ne p0
 have hKp:∀ k ∈ K,spotF k=pt:=fun k hk=>by rw [hK] at hk;exact (keysS_mem.1 hk).2
 have hKl:K.length≤20:=by
  rw [hK,keysS_len]
  have:(partF (s.bags.map Prod.fst) pt).length≤(s.bags.map Prod.fst).length:=List.length_filter_le _ _
  have h2:=hpu.bags
  simp only [List.length_map] at this
  omega
 have k45:=fun K=>WCl_eq (K:=K) (c45 0 pt 1 1 0 H (by omega) (by omega) (by omega) (by omega) (by omega))
 have hG:=gs_new hv 0 pt 1 1
 obtain ⟨g,hg⟩:∃ g:Giv,g=⟨0,pt,1,1,0,0,false⟩:=⟨_,rfl⟩
 obtain ⟨cb,hcb⟩:∃ cb,cb=H.length:=⟨_,rfl⟩
 obtain ⟨gb,hgb⟩:∃ gb,gb=cb + 1:=⟨_,rfl⟩
 obtain ⟨H2,hH2⟩:∃ H2,H2=H++[curB pt .nilsl [],givB g cb .nilsl]:=⟨_,rfl⟩
 rw [← hg,← hcb,← hH2,← hgb] at k45
 rw [← hg,← hcb,← hH2,← hgb] at hG
 have hTold:Told K [] [] [] (bagOf s):=told_fresh hKn
 have hrem:remF K [] []≤20:=by
  have:(K.filter fun k=>strLess [] k).length≤K.length:=List.length_filter_le _ _
  simp only [remF,List.length_nil]
  omega
 obtain ⟨eb,heb⟩:∃ eb,eb=H2.length:=⟨_,rfl⟩
 simp [lp10_0,k45]
 rw [← heb]
 generalize hH3:H2++[ABlk.cells false _]=H3
 have hbox0:H3[eb]?=some (.cells false (endZ pt)):=by rw [← hH3,heb];simp;exact hard rfl
 have hG3:GivS H3 gb cb 2 0 1 g [] [] [] s:=by rw [← hH3];exact hG.app
 have hgl:=(⟨0,pt,1,1,0,0,false⟩:Giv)
 rw [hg] at hG3
 clear hG hH3 hH2 hv k45 hg g hgl nr
 have hin0:=hin
 refine loop_go [0,1,5,6,9,10,50] rfl (fun m vs H'=>∃ (r:Nat) (s:VSt) (D:List (List UInt8)) (L:List UInt8) (M:List (List UInt8 × Bag)) (sq nw:Int) (e:Bool),m + r=2∧GivS H' gb cb 2 0 1 ⟨0,pt,1,1,sq,nw,e⟩ [] D L s∧H'[eb]?=some (.cells false (endZ pt))∧Puts s (l.length + r) 100∧keysS s pt=K∧(∀ j (hj:j < l.length),keyF l[j] ∈ s.bags.map Prod.fst)∧Told K D L M (bagOf s)∧Strict D∧remF K D L≤20∧nw=60 * (r:Int)∧0≤sq∧sq≤4 * nw∧vs=[roL intC l,I late,I pt,.ptr (some (2,0)),.ptr (some (gb,0)),.ptr (some (eb,0)),I r]) ?_ 2 ⟨0,s,[],[],[],0,0,false,rfl,hG3,hbox0,hpu,hK.symm,hin,hTold,List.Pairwise.nil,hrem,rfl,Int.le_refl _,Int.le_refl _,rfl⟩
 clear hG3 hbox0 hpu hK hin hTold hrem hin0
 rintro J1 hJ1 m1 vs H1 f1 ⟨r,s,D,L,M,sq,nw,e,hm1,hG,hbox,hpu,hK,hin,hT,hD,hrem,hnw,hsq0,hsq1,rfl⟩
 by_cases hr:r < 2
 case neg =>
  obtain rfl:r=2:=by omega
  simp [lp10_1,k43]
 have hr2:(r:Int) < 2:=by omega
 simp [lp10_1,hr,hr2]
 refine loop_go [0,1,5,6,9,10,11,12,50,53] rfl (fun m vs H'=>∃ (j:Nat) (D:List (List UInt8)) (L:List UInt8) (M:List (List UInt8 × Bag)) (sq nw:Int) (e ended:Bool),m + j=60∧GivS H' gb cb 2 0 1 ⟨0,pt,1,1,sq,nw,e⟩ [] D L s∧H'[eb]?=some (.cells false (endZ pt))∧Told K D L M (bagOf s)∧Strict D∧((ended=true∧e=true∧remF K D L=0)∨(ended=false∧remF K D L + j≤20))∧nw=60 * (r:Int) + j∧0≤sq∧sq≤4 * nw∧vs=[roL intC l,I late,I pt,.ptr (some (2,0)),.ptr (some (gb,0)),.ptr (some (eb,0)),I r,.bool ended,I r,I j]) ?_ 60 ⟨0,D,L,M,sq,nw,e,false,rfl,hG,hbox,hT,hD,.inr ⟨rfl,hrem⟩,by rw [hnw];simp,hsq0,hsq1,rfl⟩
 clear hG hbox hT hD hrem hnw hsq0 hsq1
 clear D L M sq nw e
 rintro J2 hJ2 m2 vs H2 f2 ⟨j,D,L,M,sq,nw,e,ended,hm2,hG,hbox,hT,hD,hend,hnw,hsq0,hsq1,rfl⟩
 by_cases hj:j < 60
 case neg =>
  obtain rfl:j=60:=by omega
  obtain ⟨he1,he2,he3⟩:ended=true∧e=true∧remF K D L=0:=by
   rcases hend with q | ⟨_,q⟩
   · exact q
   · omega
  subst he1
  subst he2
  obtain ⟨hD0,hah⟩:=rem_zero.1 he3
  subst hD0
  have hKe:keysS s (Giv.mk 0 pt 1 1 sq nw true).part=K:=hK
  have bfew:s.bags.length < 1000000000:=by have:=hpu.bags;omega
  have ezl:(endZ pt).length=62:=hard rfl
  have ezc:cut (endZ pt) 0 62=some (endZ pt):=cut_all ezl
  have ldE:∀ {G:Heap},G[eb]?=some (.cells false (endZ pt))→loadAt G (some 62) (.ptr (some (eb,0)))=some (.agg (endZ pt)):=fun h=>row_ld h ezc
  have ldE2:=ldE hbox
  have hdn0:doneB ([]:List OutM) K [] L=true:=done_nil he3
  simp [lp10_2,ldE2,-load_ptr]
  refine WCl.mono (gs_ended (k:=8) (a:=1) (b:=0) (seq:=0) (pt:=pt) (ep:=1) (key:=[]) (kn:=zeroV) (r:=.nilsl) hG bfew p0 rfl) ?_
  rintro _ _ ⟨rfl,Y,rfl⟩
  rw [hKe,hdn0]
  have hofe:∀ a b c,ofB ⟨0,pt,1,1,a,b,c⟩ 8 1 0 pt 1 8=true:=fun a b c=>by simp [ofB]
  have hG2:=hG.app (X:=Y)
  have hbx2:=get_app (X:=Y) hbox
  simp [hofe,-load_ptr]
  refine WCl.mono (gs_out hG2 (by simp)) ?_
  rintro ro H3 ⟨hlo,hG3,len3,kp3⟩
  have hbx3:=kp3 _ _ hbx2
  simp only [List.length_nil] at hlo
  obtain ⟨kn1,kn2⟩:=c44k l[NL]
  obtain ⟨k,hk⟩:∃ k,k=keyF l[NL]:=⟨_,rfl⟩
  rw [← hk] at kn1 kn2
  have hkin:k ∈ s.bags.map Prod.fst:=by rw [hk];exact hin NL hNL
  have hldN:=int_load hNL (H:=H3)
  have hlne:l ≠ []:=fun e=>by rw [e] at h0;simp at h0
  simp [hlo,hlne,hwl,hNLe,idxSl_roL hNL,hldN,-load_tp,wPu_eq kn1,← hk,-load_ptr]
  refine WCl.mono (gs_put hG3 hpu.ok 0 k zeroV [108,97,116,101]) ?_
  rintro _ H4 ⟨rfl,hG4,kp4⟩
  obtain ⟨s',hp1,hp2,hp3⟩:=hpu.step (by omega) (by omega) (key_fine kn2) (data:=[108,97,116,101]) (by simp)
  have hpb:=fun x (hx:x ≠ k)=>put_bag (s:=s) (node:=0) (key:=k) (known:=zeroV) (data:=[108,97,116,101]) hx
  rw [hp1] at hG4 hpb ⊢
  have hbx4:H4[eb]?=some (.cells false (endZ pt)):=by
   obtain ⟨v3,q3,es3,ck3,hv3⟩:=hG3.vlt
   refine kp4.keep _ _ hbx3 (fun e=>?_) (fun e=>?_) (fun e=>?_) fun y e=>by cases e
   · subst e
     rw [hv3.box] at hbx3
     have:=congrArg (fun z:Option ABlk=>match z with | some (.cells _ y)=>y.length | _=>0) hbx3
     simp only [vlt_len] at this
     rw [ezl] at this
     cases this
   · subst e
     rw [hv3.led.at'] at hbx3
     have:=congrArg (fun z:Option ABlk=>match z with | some (.cells _ y)=>y.length | _=>0) hbx3
     simp only at this
     rw [ezl] at this
     cases this
   · subst e
     rw [hv3.map] at hbx3
     cases hbx3
  obtain ⟨v4,q4,es4,ck4,hv4⟩:=hG4.vlt
  have hKm:∀ x,x ∈ keysS s' pt ↔ x ∈ K∨(x=k∧spotF k=pt):=fun x=>by
   rw [← hK,keysS_mem,keysS_mem,hp3]
   constructor
   · rintro ⟨q | rfl,q'⟩
     · exact .inl ⟨q,q'⟩
     · exact .inr ⟨rfl,q'⟩
   · rintro (⟨q,q'⟩ | ⟨rfl,q⟩)
     · exact ⟨.inl q,q'⟩
     · exact ⟨.inr rfl,q⟩
  have hkK:spotF k=pt→k ∈ K:=fun e=>by rw [← hK,keysS_mem];exact ⟨hkin,e⟩
  have hK':keysS s' pt=K:=strict_ext (keys_strict hv4.ents.uniq) hKs fun x=>by
   rw [hKm]
   exact ⟨fun q=>q.elim id fun ⟨e1,e2⟩=>by rw [e1];exact hkK e2,.inl⟩
  have hT':Told K (backF pt [] L k) L M (bagOf s'):=hT.put (fun x=>by
   constructor
   · exact .inl
   · exact fun q=>q.elim id fun ⟨e1,e2⟩=>by rw [e1];exact hkK e2) hKp hpb
  have hLk:spotF k=pt→strLess L k=false:=fun e=>ahead_none.1 hah k (hkK e)
  have hin':∀ j (hj:j < l.length),keyF l[j] ∈ s'.bags.map Prod.fst:=fun j hj=>(hp3 _).2 (.inl (hin j hj))
  simp [-load_ptr]
  have hG5:=hG4.app (X:=[ABlk.cells false [I 0,I (s.dots + 1)]])
  have hbx5:=get_app (X:=[ABlk.cells false [I 0,I (s.dots + 1)]]) hbx4
  obtain ⟨H5,hH5⟩:∃ H5,H5=H4++[ABlk.cells false [I 0,I (s.dots + 1)]]:=⟨_,rfl⟩
  rw [← hH5] at hG5 hbx5 ⊢
  refine WCl.mono (gs_wrote hG5 k (by simp)) ?_
  rintro _ H6 ⟨rfl,hG6,fr6⟩
  have hbx6:H6[eb]?=some (.cells false (endZ pt)):=fr6.2 _ _ hbx5 end_fr.2.1 end_fr.1 end_fr.2.2
  have ldE6:=ldE hbx6
  have bfew6:s'.bags.length < 1000000000:=by have:=hp2.bags;omega
  have hK6:∀ a b c,keysS s' (Giv.mk 0 pt 1 1 a b c).part=K:=fun _ _ _=>hK'
  have hfin:m1 - 1 + (r + 1)=2:=by omega
  have hwr:=wrap_succ (i:=r) (by omega)
  have hr1:¬ (1:Int) < (r:Int):=by omega
  by_cases hsp:spotF k=pt
  · have hbk:backOk pt L k=true:=by simp [backOk,hsp,hLk hsp]
    have hbf:backF pt [] L k=[k]:=by simp [backF,hbk,insF]
    have hwg:wroteG (Giv.mk 0 pt 1 1 sq nw true) k=⟨0,pt,1,1,sq,nw,false⟩:=if_pos hsp
    rw [hwg] at hG6
    have hG6:GivS H6 gb cb 2 0 1 ⟨0,pt,1,1,sq,nw,false⟩ [] (backF pt [] L k) L s':=hG6
    have hbk2:backOk (Giv.mk 0 pt 1 1 sq nw true).part L k=true:=hbk
    rw [hbf] at hG6 hT'
    simp [hbk2,hsp,ldE6,-load_ptr]
    refine WCl.mono (gs_ended (k:=8) (a:=1) (b:=0) (seq:=0) (pt:=pt) (ep:=1) (key:=[]) (kn:=zeroV) (r:=.nilsl) hG6 bfew6 p0 rfl) ?_
    rintro _ _ ⟨rfl,Y6,rfl⟩
    have hrem6:remF K [k] L≤20:=by
     have:remF K [] L=0:=he3
     simp only [remF,List.length_cons,List.length_nil] at this ⊢
     omega
    simp [hsp,hwr,hr1]
    exact nxt hJ1 (m1 - 1) (by omega) ⟨r + 1,s',[k],L,M,sq,nw,false,hfin,hG6.app,get_app hbx6,hp2,hK',hin',hT',List.pairwise_singleton _ _,hrem6,by omega,hsq0,hsq1,rfl⟩
  · have hbk:backOk pt L k=false:=by simp [backOk,hsp]
    have hbf:backF pt [] L k=[]:=by simp [backF,hbk]
    have hwg:wroteG (Giv.mk 0 pt 1 1 sq nw true) k=⟨0,pt,1,1,sq,nw,true⟩:=if_neg hsp
    rw [hwg] at hG6
    have hG6:GivS H6 gb cb 2 0 1 ⟨0,pt,1,1,sq,nw,true⟩ [] (backF pt [] L k) L s':=hG6
    have hbk2:backOk (Giv.mk 0 pt 1 1 sq nw true).part L k=false:=hbk
    rw [hbf] at hG6 hT'
    simp [hbk2,hsp,ldE6,-load_ptr]
    refine WCl.mono (gs_ended (k:=8) (a:=1) (b:=0) (seq:=0) (pt:=pt) (ep:=1) (key:=[]) (kn:=zeroV) (r:=.nilsl) hG6 bfew6 p0 rfl) ?_
    rintro _ _ ⟨rfl,Y6,rfl⟩
    rw [hK6,hdn0]
    simp [hsp,hofe,hwr,hr1]
    exact nxt hJ1 (m1 - 1) (by omega) ⟨r + 1,s',[],L,M,sq,nw,true,hfin,hG6.app,get_app hbx6,hp2,hK',hin',hT',List.Pairwise.nil,by rw [he3];omega,by omega,hsq0,hsq1,rfl⟩
 have hj2:(j:Int) < 60:=by omega
 have hKe:keysS s (Giv.mk 0 pt 1 1 sq nw e).part=K:=hK
 simp [lp10_2,hj,hj2]
 have bfew:s.bags.length < 1000000000:=by have:=hpu.bags;omega
 refine WCl.mono (gs_tick hG (by simp) (by show 0≤nw∧nw < 100000000000;omega) (by show 0≤sq∧sq < 100000000000;omega) p0 hpu.ok bfew) ?_
 rintro rr H3 ⟨l1,told,l',ms,tp,h3,hM,fr3⟩
 rw [hKe] at tp h3
 have hKs:Strict K:=hKs
 obtain ⟨M',t1,t2,t3,t4,t5,t6,t7⟩:=tells_told hKs 4 hT hD
 rw [show 4 - ([]:List OutM).length=4 from rfl] at tp h3
 obtain ⟨T,hTe⟩:∃ T,T=tellsF K 4 D L:=⟨_,rfl⟩
 rw [← hTe] at t1 t2 t3 t4 t5 t6 t7 tp h3
 have e1:l1=[]:=tp.p1.eq_nil
 have htold:=tp.tolds
 obtain ⟨P,hP⟩:∃ P,P=toldP s sq T.1:=⟨_,rfl⟩
 have htold:told.map OutM.p=P:=by rw [hP];exact htold
 have lP:P.length=T.1.length:=by rw [hP,toldP_len]
 have ltP:P.Pairwise fun a b=>a.2.1 < b.2.1:=by rw [hP];exact toldP_lt
 have hkP:∀ x ∈ P,x.1=5:=by rw [hP];exact toldP_kind
 have hl1:l'.Perm told:=by
  have:=tp.p2
  rw [e1] at this
  exact this
 have hlp:(l'.map OutM.p).Perm P:=by rw [← htold];exact hl1.map _
 obtain ⟨done,hdone⟩:∃ d,d=doneB l' K T.2.1 T.2.2:=⟨_,rfl⟩
 have hms:=tp.msgs
 rw [e1,← hdone] at hms
 have hms:ms.map MsgM.p=P++endL done:=by rw [hP];simpa using hms
 rw [← hdone] at h3
 have hdn:(done=true∧P=[]∧remF K T.2.1 T.2.2=0∧remF K D L=0)∨(done=false∧0 < P.length∧remF K T.2.1 T.2.2 + P.length=remF K D L):=by
  by_cases hp0:P=[]
  · have hl0:l'=[]:=by
     have:=hlp.length_eq
     rw [hp0] at this
     exact List.eq_nil_of_length_eq_zero (by simpa using this)
    rw [hp0] at lP
    have hT0:T.1.length=0:=lP.symm
    have hz:remF K T.2.1 T.2.2=0:=by
     rcases t6 with q | q
     · rw [hT0] at q;cases q
     · exact rem_zero.2 q
    exact .inl ⟨by rw [hdone,hl0];exact done_nil hz,hp0,hz,by omega⟩
  · have hpl:=List.length_pos_iff.2 hp0
    have:l' ≠ []:=fun e=>by
     have h:=hlp.length_eq
     rw [e] at h
     simp at h
     omega
    exact .inr ⟨by rw [hdone];exact done_not this,hpl,by rw [lP];exact t3⟩
 have hbox3:H3[eb]?=some (.cells false (endZ pt)):=fr3.2 _ _ hbox end_fr.2.1 end_fr.1 end_fr.2.2
 obtain ⟨sq',hsq'⟩:∃ sq':Int,sq'=sq + T.1.length:=⟨_,rfl⟩
 have hgg:tickG (Giv.mk 0 pt 1 1 sq nw e) T.1.length done=⟨0,pt,1,1,sq',nw + 1,e || done⟩:=by rw [hsq'];rfl
 rw [hgg] at h3
 obtain ⟨g,hg⟩:∃ g:Giv,g=⟨0,pt,1,1,sq',nw + 1,e || done⟩:=⟨_,rfl⟩
 have hMg:MRow 0 H3 g ms rr:=by
  have h:=hM.giv (g':=g) (by rw [hg]) (by rw [hg]) (by rw [hg]) (by rw [hg])
  exact ⟨h.row.mono (Nat.zero_le _),fun m hm=>(h.vals m hm).mono (Nat.zero_le _)⟩
 rw [← hg] at h3
 simp [hMg.row.len]
 refine loop_go [0,1,5,6,9,10,11,12,50,53,57,58,59] rfl (fun m vs H'=>∃ (i:Nat) (lo:List OutM) (en:Bool),m + i=ms.length∧GivS H' gb cb 2 0 1 g lo T.2.1 T.2.2 s∧MRow 0 H' g ms rr∧(lo.map OutM.p).Perm (P.drop i)∧H'[eb]?=some (.cells false (endZ pt))∧en=(ended || decide (P.length < i))∧vs=[roL intC l,I late,I pt,.ptr (some (2,0)),.ptr (some (gb,0)),.ptr (some (eb,0)),I r,.bool en,I r,I j,rr,I ms.length,I i]) ?_ ms.length ⟨0,l',ended,rfl,h3,hMg,hlp,hbox3,by simp,rfl⟩
 rintro J3 hJ3 m3 vs H4 f4 ⟨i,lo,en,hm3,h4,hM4,hlo,hbox4,rfl,rfl⟩
 have hmsl:ms.length=P.length + (endL done).length:=by
  have:=congrArg List.length hms
  rw [List.length_map,List.length_append] at this
  exact this
 have hend1:(endL done).length≤1:=by cases done <;> simp [endL]
 by_cases hi:i < ms.length
 case neg =>
  obtain rfl:i=ms.length:=by omega
  have hwj:=wrap_succ (i:=j) (by omega)
  have hlo0:lo=[]:=by
   have:=hlo.length_eq
   rw [List.drop_of_length_le (by omega)] at this
   exact List.eq_nil_of_length_eq_zero (by simpa using this)
  rw [hlo0,hg] at h4
  simp [lp10_3,hwj]
  refine nxt hJ2 (m2 - 1) (by omega) ⟨j + 1,T.2.1,T.2.2,M',sq',nw + 1,e || done,_,by omega,h4,hbox4,t1,t2,?_,by omega,by omega,?_,rfl⟩
  · rcases hdn with ⟨d1,d2,d3,d4⟩ | ⟨d1,d2,d3⟩
    · left
      refine ⟨?_,by rw [d1];simp,d3⟩
      rw [hmsl,d1,d2]
      simp [endL]
    · right
      have hne:ended=false:=by
       rcases hend with ⟨_,_,q⟩ | ⟨q,_⟩
       · omega
       · exact q
      refine ⟨?_,?_⟩
      · rw [hmsl,d1,hne]
        simp [endL]
      · rcases hend with ⟨_,_,q⟩ | ⟨_,q⟩
        · omega
        · omega
  · omega
 have hw:=wrap_succ (i:=i) (by omega)
 obtain ⟨b,i1,i2,_⟩:=hM4.at hi (k:=.i64)
 have i2:=i2 []
 rw [List.append_nil] at i2
 obtain ⟨m1,hm1⟩:∃ m1,m1=ms[i]:=⟨_,rfl⟩
 rw [← hm1] at i2
 have hrow:=hM4.vals m1 (by rw [hm1];exact List.getElem_mem _)
 have hm1p:(P++endL done)[i]?=some m1.p:=by rw [← hms,List.getElem?_map,List.getElem?_eq_getElem hi,hm1];rfl
 have hone:=hrow.one
 obtain ⟨mk,mseq,mkey,mkn,mvals,mr⟩:=m1
 have hmo:msgOf g ⟨mk,mseq,mkey,mkn,mvals,mr⟩=msgG mk 0 1 mseq pt 1 mkey mkn mr:=by
  unfold msgOf
  rw [oneR_of hone,hg]
 rw [hmo] at i2
 obtain ⟨z1,hz1⟩:∃ z,z=msgG mk 0 1 mseq pt 1 mkey mkn mr:=⟨_,rfl⟩
 rw [← hz1] at i2
 have z1l:z1.length=62:=by rw [hz1];exact msgG_len
 have z1one:(∀ x:AV,x ∈ z1→x.one=true)=True:=eq_true (List.all_eq_true.1 (by rw [hz1];exact msgG_one hone))
 have z1s:setFrom (msgG 0 0 0 0 0 0 [] zeroV .nilsl) 0 z1=z1:=setFrom_all _ _ (by rw [z1l,msgG_len])
 obtain ⟨tb,htb⟩:∃ tb,tb=H4.length:=⟨_,rfl⟩
 obtain ⟨G,hGx⟩:∃ G,G=H4++[ABlk.cells false z1]:=⟨_,rfl⟩
 have bG:G[tb]?=some (.cells false z1):=by rw [hGx,htb];simp
 have f0:cut z1 0 1=some [I mk]:=by rw [hz1];exact hard rfl
 have ldk:=fld_ld bG f0
 rw [htb] at ldk
 have hi2:(i:Int) < (ms.length:Int):=by omega
 rcases hdn with ⟨d1,d2,d3,d4⟩ | ⟨d1,d2,d3⟩
 · -- the end's message
   rw [d1,d2] at hm1p
   have hi0:i=0:=by
    rw [hmsl,d2,d1] at hi
    simp [endL] at hi
    exact hi
   subst hi0
   have hm1p:endP=(mk,mseq,mkey,mkn,mvals):=Option.some.inj hm1p
   have i1':idxSlAV 62 (I 0) rr=some (.ptr (some (b,0))):=by simpa using i1
   rw [Nat.zero_mul] at i2
   have hmk:mk=7:=(congrArg Prod.fst hm1p).symm
   subst hmk
   simp [lp10_3,hi,i1',i2,msg_zero,msgG_len,z1l,z1one,z1s,← hGx,ldk,-load_ptr]
   refine nxt hJ3 (m3 - 1) (by omega) ⟨1,lo,true,by omega,by rw [hGx];exact h4.app,by rw [hGx];exact hM4.app,by rw [d2] at hlo ⊢;simpa using hlo,by rw [hGx];exact get_app hbox4,by rw [d2];simp,rfl⟩
 · have hen:(ended || decide (P.length < i))=false:=by
    have h1:ended=false:=by
     rcases hend with ⟨_,_,q⟩ | ⟨q,_⟩
     · omega
     · exact q
    have h2:¬ P.length < i:=by
     rw [hmsl,d1] at hi
     simp [endL] at hi
     omega
    simp [h1,h2]
   have hiP:i < P.length:=by
    rw [hmsl,d1] at hi
    simpa [endL] using hi
   have hPi:P[i]?=some (mk,mseq,mkey,mkn,mvals):=by
    rw [List.getElem?_append_left hiP] at hm1p
    exact hm1p
   have hmk:mk=5:=hkP _ (List.mem_of_getElem? hPi)
   subst hmk
   have hdrop:P.drop i=(5,mseq,mkey,mkn,mvals) :: P.drop (i + 1):=by
    rw [List.drop_eq_getElem_cons hiP]
    rw [List.getElem?_eq_getElem hiP] at hPi
    rw [Option.some.inj hPi]
   obtain ⟨z2,hz2⟩:∃ z,z=msgG 6 0 1 mseq pt 1 mkey mkn mr:=⟨_,rfl⟩
   obtain ⟨z3,hz3⟩:∃ z,z=msgG 6 1 1 mseq pt 1 mkey mkn mr:=⟨_,rfl⟩
   obtain ⟨zx,hzx⟩:∃ z,z=msgG 6 1 0 mseq pt 1 mkey mkn mr:=⟨_,rfl⟩
   have z2l:z2.length=62:=by rw [hz2];exact msgG_len
   have z3l:z3.length=62:=by rw [hz3];exact msgG_len
   have xl:zx.length=62:=by rw [hzx];exact msgG_len
   have s1:z1.set 0 (I 6)=z2:=by rw [hz1,hz2];rfl
   have s2:z2.set 1 (I 1)=z3:=by rw [hz2,hz3];rfl
   have s3:z3.set 2 (I 0)=zx:=by rw [hz3,hzx];rfl
   have xcut:cut zx 0 62=some zx:=cut_all xl
   obtain ⟨G2,hG2⟩:∃ G2,G2=H4++[ABlk.cells false zx]:=⟨_,rfl⟩
   have ldx:loadAt G2 (some 62) (.ptr (some (H4.length,0)))=some (.agg zx):=row_ld (by rw [hG2];simp:G2[H4.length]?=some (.cells false zx)) xcut
   have h5:GivS G2 gb cb 2 0 1 g lo T.2.1 T.2.2 s:=by rw [hG2];exact h4.app
   have hr5:Row 0 G2 3 valC mvals mr:=by rw [hG2];exact hrow.app
   have hM5:MRow 0 G2 g ms rr:=by rw [hG2];exact hM4.app
   have hbox5:G2[eb]?=some (.cells false (endZ pt)):=by rw [hG2];exact get_app hbox4
   have ldk':loadAt (H4++[ABlk.cells false z1]) none (.ptr (some (H4.length,0)))=some (I 5):=by rw [← hGx];exact ldk
   simp [lp10_3,hi,hi2,i1,i2,msg_zero,msgG_len,z1l,z2l,z3l,z1one,z1s,ldk',hen,s1,s2,s3,xl,← hG2,ldx,-load_ptr]
   rw [hzx]
   refine WCl.mono (gs_got h5 hr5 (by have:=hlo.length_eq;rw [List.length_map,List.length_drop] at this;omega)) ?_
   have hofb:ofB g 6 1 0 pt 1 6=true:=by rw [hg];simp [ofB]
   rintro _ G3 (⟨rfl,hno,_⟩ | ⟨rfl,_,o',l3,hso,hp3,h8,f8⟩)
   · exfalso
     rcases hno with hno | hno
     · rw [hofb] at hno;cases hno
     · obtain ⟨o,ho,hs⟩:=got_is rfl hlo (by rw [hdrop];exact .head _)
       rw [hno o ho] at hs
       cases hs
   · have hlo3:=got_one (ltP.sublist (List.drop_sublist i P)) hdrop hlo hso hp3
     simp [hw]
     refine nxt hJ3 (m3 - 1) (by omega) ⟨i + 1,l3,_,by omega,h8,hM5.keepG f8,hlo3,f8.2 _ _ hbox5 end_fr.1 end_fr.2.2,?_,rfl⟩
     have h2:¬ P.length < i + 1:=by omega
     have h1:ended=false:=by
      cases ended
      · rfl
      · cases hen
     simp [h1,h2]
theorem giveEnds_law (cs:List AV) (h:FitsArgs [(false,.sl 1 8 (.int .i64)),(false,.int .i64)] cs):∃ n H',callF envE (exec envE n) 10 cs 0 []=some (.bool true,H'):=by
 obtain ⟨a,rest,rfl,h1,t⟩:=fa_one h
 obtain ⟨c,rest,rfl,h2,t⟩:=fa_one t
 cases fa_nil t
 obtain ⟨l,e1,_,hl⟩:=fits_sl (f:=intC) (fun r hr=>by obtain ⟨x,e,_⟩:=fits_int hr;exact ⟨x,e⟩) h1
 obtain ⟨y,e2,_⟩:=fits_int h2
 cases e1
 cases e2
 have hrb:reachBytes=140737488351232:=rfl
 exact law_of (giveEnds_pu l y (by omega)) (by simp)
end Go.Proofs.YtgbnbgkldeifkaaGreatA

namespace Go.Proofs.YtgbnbgkldeifkaaGreat.giveEnds
open Go.ChangeShapes Go.WideShapes Go.ChangeAt Go.RowKit
set_option linter.unusedVariables false
theorem own:ownKnob Tryz.prog.godebug=none:=by kernel_rfl
set_option maxRecDepth 1000000 in
theorem lifted (os:Os) (started:os.Started) (H:Type) (enc:TypeId × Value→H) :
    ReturnsInHanded {} Tryz.checked os 10 .any (Rows.giveEndsSpec.pre6 enc Tryz.prog Tryz.f10 Rows.giveEndsRow.domain false) (Rows.giveEndsSpec.post enc Tryz.prog Tryz.f10 false true false false) :=
  YtgbnbgkldeifkaaGreatA.law_lifted (C:=Tryz.checked) YtgbnbgkldeifkaaGreatA.env_good (fd:=YtgbnbgkldeifkaaGreatA.fd10) (tb:=4) rfl own started (by kernel_rfl) Tryz.func10
    (ChangeSpec.witness6 (enc:=enc) (C:=Tryz.checked) false ⟨#[],#[((Tryz.prog.info? 32).bind (·.zero)).getD .nilFunc,((Tryz.prog.info? 3).bind (·.zero)).getD .nilFunc],[]⟩ 8 (by kernel_rfl) (by kernel_rfl) (by kernel_rfl) (by kernel_rfl))
    (by kernel_rfl) (by decide +kernel) (by kernel_rfl) rfl (by kernel_rfl) (by kernel_rfl) (fun ds h=>by
      match ds,h with
      | [d0,d1],_=>rfl) YtgbnbgkldeifkaaGreatA.giveEnds_law
theorem over:Rows.giveEndsRow.holds Tryz.pinned (OpenSpec.ofChange Rows.giveEndsSpec) :=
  OpenClaim.holds_of_wide 10 Tryz.f10 rfl rfl rfl rfl rfl rfl rfl ⟨rfl,rfl,rfl,rfl,rfl⟩ rfl rfl rfl rfl rfl (by kernel_rfl) Tryz.func10 (by kernel_rfl)
    (of_decide_eq_true (by kernel_rfl)) (by unfold Func.isWrapper;first | (rw [if_pos (by decide +kernel)];kernel_rfl) | (rw [if_neg (by decide +kernel)];exact ⟨rfl,rfl⟩))
    (fun os started H enc _=>lifted os started H enc)
end Go.Proofs.YtgbnbgkldeifkaaGreat.giveEnds
namespace Go.Proofs.YtgbnbgkldeifkaaGreat
/-- The row, under a short name, for the claim. -/
theorem giveEnds_holds:Rows.GiveEndsSaid:=giveEnds.over
#print axioms giveEnds_holds
end Go.Proofs.YtgbnbgkldeifkaaGreat


/- Messages as Lean structures, and what fits them; is it light? A giver beside its vault, call by call. A giver that is new; one that always wakes; keys of numbers. No statement about the program is proved here. -/
import Derived.Test.YtgbnbgkldeifkaaGreatGTK
import Derived.Test.YtgbnbgkldeifkaaGreatV7
namespace Go.Proofs.YtgbnbgkldeifkaaGreatA
open Go Go.RowKit
set_option linter.unusedVariables false
set_option linter.unusedSimpArgs false
set_option maxRecDepth 1000000
structure Claim where
 node:Int
 inc:Int
 health:Int
structure Msg where
 kind:Int
 from':Int
 to:Int
 seq:Int
 for':Int
 about:Int
 part:Int
 epoch:Int
 key:List UInt8
 bag:Bag
 ring:Ring
 claims:List Claim
def claimC (c:Claim):List AV:=[I c.node,I c.inc,I c.health]
def msgH (kd fr to sq fo ab pa ep:Int) (key:List UInt8):List AV:=[I kd,I fr,I to,I sq,I fo,I ab,I pa,I ep,.str key]
def msgV (kd fr to sq fo ab pa ep:Int) (key:List UInt8) (b r:List AV) (c:AV):List AV:=msgH kd fr to sq fo ab pa ep key++(b++(r++[c]))
def msgC (m:Msg):List AV:=msgV m.kind m.from' m.to m.seq m.for' m.about m.part m.epoch m.key (bagC m.bag) (ringC m.ring) (roL claimC m.claims)
section
variable {kd fr to sq fo ab pa ep:Int} {key:List UInt8} {k k' st pe po:Nat→Int} {q r c q2 r2 c2 q' r' c':AV} {ver by':Int} {H:Heap} {d:Nat}
abbrev mV (kd fr to sq fo ab pa ep:Int) (key:List UInt8) (k:Nat→Int) (q:AV) (st:Nat→Int) (ver by':Int) (r:AV) (pe po:Nat→Int) (c:AV):List AV:=msgV kd fr to sq fo ab pa ep key (bagV k q) (ringV st ver by' r pe po) c
@[simp] theorem msgC_eq (m:Msg):msgC m=msgV m.kind m.from' m.to m.seq m.for' m.about m.part m.epoch m.key (bagV m.bag.known (roL valC m.bag.vals)) (ringV m.ring.status m.ring.plan.version m.ring.plan.by' (roL intC m.ring.plan.targets) m.ring.epoch m.ring.owner) (roL claimC m.claims):=hard rfl
@[simp] theorem mV_len:(mV kd fr to sq fo ab pa ep key k q st ver by' r pe po c).length=62:=hard rfl
@[simp] theorem mV_one:(mV kd fr to sq fo ab pa ep key k q st ver by' r pe po c).all AV.one=(AV.one q && (AV.one r && AV.one c)):=by
 unfold mV msgV msgH
 rw [List.all_append,List.all_append,List.all_append,bagV_one,ringV_one]
 simp
@[simp] theorem mV_take:(mV kd fr to sq fo ab pa ep key k q st ver by' r pe po c).take 62=mV kd fr to sq fo ab pa ep key k q st ver by' r pe po c:=hard rfl
@[simp] theorem mV_f0:(mV kd fr to sq fo ab pa ep key k q st ver by' r pe po c).take 1=[I kd]:=hard rfl
@[simp] theorem mV_t1:((mV kd fr to sq fo ab pa ep key k q st ver by' r pe po c).tail).take 1=[I fr]:=hard rfl
@[simp] theorem mV_f1:((mV kd fr to sq fo ab pa ep key k q st ver by' r pe po c).drop 1).take 1=[I fr]:=hard rfl
@[simp] theorem mV_f2:((mV kd fr to sq fo ab pa ep key k q st ver by' r pe po c).drop 2).take 1=[I to]:=hard rfl
@[simp] theorem mV_f3:((mV kd fr to sq fo ab pa ep key k q st ver by' r pe po c).drop 3).take 1=[I sq]:=hard rfl
@[simp] theorem mV_f4:((mV kd fr to sq fo ab pa ep key k q st ver by' r pe po c).drop 4).take 1=[I fo]:=hard rfl
@[simp] theorem mV_f5:((mV kd fr to sq fo ab pa ep key k q st ver by' r pe po c).drop 5).take 1=[I ab]:=hard rfl
@[simp] theorem mV_f6:((mV kd fr to sq fo ab pa ep key k q st ver by' r pe po c).drop 6).take 1=[I pa]:=hard rfl
@[simp] theorem mV_f7:((mV kd fr to sq fo ab pa ep key k q st ver by' r pe po c).drop 7).take 1=[I ep]:=hard rfl
@[simp] theorem mV_f8:((mV kd fr to sq fo ab pa ep key k q st ver by' r pe po c).drop 8).take 1=[.str key]:=hard rfl
@[simp] theorem mV_f9:((mV kd fr to sq fo ab pa ep key k q st ver by' r pe po c).drop 9).take 9=bagV k q:=hard rfl
@[simp] theorem mV_f17:((mV kd fr to sq fo ab pa ep key k q st ver by' r pe po c).drop 17).take 1=[q]:=hard rfl
@[simp] theorem mV_f18:((mV kd fr to sq fo ab pa ep key k q st ver by' r pe po c).drop 18).take 43=ringV st ver by' r pe po:=hard rfl
@[simp] theorem mV_f28:((mV kd fr to sq fo ab pa ep key k q st ver by' r pe po c).drop 28).take 1=[r]:=hard rfl
@[simp] theorem mV_f61:((mV kd fr to sq fo ab pa ep key k q st ver by' r pe po c).drop 61).take 1=[c]:=hard rfl
@[simp] theorem mV_s3 {x:Int}:(mV kd fr to sq fo ab pa ep key k q st ver by' r pe po c).set 3 (I x)=mV kd fr to x fo ab pa ep key k q st ver by' r pe po c:=hard rfl
@[simp] theorem mV_s8 {x:List UInt8}:(mV kd fr to sq fo ab pa ep key k q st ver by' r pe po c).set 8 (.str x)=mV kd fr to sq fo ab pa ep x k q st ver by' r pe po c:=hard rfl
@[simp] theorem mV_s17:(mV kd fr to sq fo ab pa ep key k q st ver by' r pe po c).set 17 q'=mV kd fr to sq fo ab pa ep key k q' st ver by' r pe po c:=hard rfl
@[simp] theorem mV_s9:setFrom (mV kd fr to sq fo ab pa ep key k q st ver by' r pe po c) 9 (bagV k' q')=mV kd fr to sq fo ab pa ep key k' q' st ver by' r pe po c:=hard rfl
theorem mV_frz {q2 r2 c2:AV} (h1:frz H (d + 1) q=some q2) (h2:frz H (d + 1) r=some r2) (h3:frz H (d + 1) c=some c2):mapO (frz H (d + 1)) (mV kd fr to sq fo ab pa ep key k q st ver by' r pe po c)=some (mV kd fr to sq fo ab pa ep key k q2 st ver by' r2 pe po c2) :=
 mapO_app (a:=msgH kd fr to sq fo ab pa ep key) (by simp [msgH]) (mapO_app (by simp [h1]) (mapO_app (by simp [h2]) (by simp [h3])))
end
def shClaim:Sh:=.cat [iS,iS,iS]
def shMsg:Sh:=.cat [iS,iS,iS,iS,iS,iS,iS,iS,(1,.str),(9,shBag),(43,shRing),(1,.sl 3 24 shClaim)]
theorem of_claim {xs:List AV} (h:Fits shClaim xs):∃ c,xs=claimC c:=by
 obtain ⟨a,r1,rfl,h1⟩:=of_cat_int h
 obtain ⟨b,r2,rfl,h2⟩:=of_cat_int h1
 obtain ⟨c,r3,rfl,h3⟩:=of_cat_int h2
 have:=fits_nil h3;subst this
 exact ⟨⟨a,b,c⟩,rfl⟩
theorem of_msg {xs:List AV} (h:Fits shMsg xs):∃ m,xs=msgC m∧m.key.length≤reachBytes∧m.bag.vals.length * 32≤reachBytes∧m.ring.plan.targets.length * 8≤reachBytes∧m.claims.length * 24≤reachBytes:=by
 obtain ⟨a0,r1,rfl,k1⟩:=of_cat_int h
 obtain ⟨a1,r2,rfl,k2⟩:=of_cat_int k1
 obtain ⟨a2,r3,rfl,k3⟩:=of_cat_int k2
 obtain ⟨a3,r4,rfl,k4⟩:=of_cat_int k3
 obtain ⟨a4,r5,rfl,k5⟩:=of_cat_int k4
 obtain ⟨a5,r6,rfl,k6⟩:=of_cat_int k5
 obtain ⟨a6,r7,rfl,k7⟩:=of_cat_int k6
 obtain ⟨a7,r8,rfl,k8⟩:=of_cat_int k7
 obtain ⟨r,rest,rfl,_,h1,h2⟩:=fits_cons k8
 obtain ⟨s,rfl,h0⟩:=fits_str h1
 obtain ⟨r,rest,rfl,_,h3,h4⟩:=fits_cons h2
 obtain ⟨bg,rfl,_,h5⟩:=of_bag h3
 obtain ⟨r,rest,rfl,_,h6,h7⟩:=fits_cons h4
 obtain ⟨rg,rfl,_,h8⟩:=of_ring h6
 obtain ⟨r,rest,rfl,_,h9,h10⟩:=fits_cons h7
 obtain ⟨l,rfl,_,h11⟩:=fits_sl (f:=claimC) (fun r hr=>of_claim hr) h9
 have:=fits_nil h10;subst this
 exact ⟨⟨a0,a1,a2,a3,a4,a5,a6,a7,s,bg,rg,l⟩,rfl,h0,h5,h8,h11⟩
def callG (c:(Int × Int × Int) × Msg):List AV:=[I c.1.1,I c.1.2.1,I c.1.2.2]++msgC c.2
theorem callG_len (c:(Int × Int × Int) × Msg):(callG c).length=65:=hard rfl
theorem callG_f11 (c:(Int × Int × Int) × Msg):((callG c).drop 11).take 1=[.str c.2.key]:=hard rfl
theorem callG_f20 (c:(Int × Int × Int) × Msg):((callG c).drop 20).take 1=[roL valC c.2.bag.vals]:=hard rfl
theorem callG_one (c:(Int × Int × Int) × Msg):(callG c).all AV.one=true:=by
 unfold callG
 rw [msgC_eq,List.all_append,mV_one]
 rfl
set_option maxHeartbeats 1000000 in
theorem c50 (l:List ((Int × Int × Int) × Msg)) (hl:l.length < 4611686018427387904):∃ b,Pu envE 50 [roL callG l] (.bool b)∧(b=true→l.length≤80):=by
 suffices h:∃ d,Pu envE 50 [roL callG l] d∧∃ b,d=.bool b∧(b=true→l.length≤80) by
  obtain ⟨d,h1,b,rfl,h2⟩:=h
  exact ⟨b,h1,h2⟩
 refine pu_ex e50 rfl ?_
 rw [fr_init (by simp [fd50])]
 simp [fd50,b50]
 refine loop_go [5,6,7] rfl (fun m vs H=>∃ i,m + i=l.length∧i≤80∧vs=[roL callG l,I l.length,I i]) ?_ l.length ⟨0,rfl,by omega,rfl⟩
 rintro J hJ m vs H f ⟨i,hm,h80,rfl⟩
 by_cases hi:i < l.length
 · have hw:=wrap_succ (i:=i) (by omega)
   have hld:=load_roL callG_len hi (H:=H)
   obtain ⟨B,hB⟩:∃ B,B=callG l[i]:=⟨_,rfl⟩
   have Blen:B.length=65:=by rw [hB];exact callG_len _
   have f11:cut B 11 1=some [.str l[i].2.key]:=by rw [cut_at (by omega),hB,callG_f11]
   have f20:cut B 20 1=some [roL valC l[i].2.bag.vals]:=by rw [cut_at (by omega),hB,callG_f20]
   have g11:(B.drop 11).take 1=[.str l[i].2.key]:=by rw [hB,callG_f11]
   have g20:(B.drop 20).take 1=[roL valC l[i].2.bag.vals]:=by rw [hB,callG_f20]
   have hone:(∀ x:AV,x ∈ B→x.one=true)=True:=eq_true (List.all_eq_true.1 (by rw [hB];exact callG_one _))
   have hover:∀ c:List AV,c.length=65→setFrom c 0 B=B:=fun c hc=>setFrom_all _ _ (by rw [hc,Blen])
   rw [← hB] at hld
   obtain ⟨H1,hH1⟩:∃ H1,H1=H++[ABlk.cells false B]:=⟨_,rfl⟩
   have b1:Heap.cells? H1 H.length=some B:=by rw [hH1];simp [Heap.cells?]
   by_cases h1:(80:Int)≤i
   · simp [lp50_0,hi,idxSl_roL hi,hld,-load_tp,Blen,hone,hover,← hH1,b1,f11,f20,g11,g20,shapeOf,h1]
   · by_cases h2:(200:Int) < (l[i].2.key.length:Int)
     · simp [lp50_0,hi,idxSl_roL hi,hld,-load_tp,Blen,hone,hover,← hH1,b1,f11,f20,g11,g20,shapeOf,h1,h2]
     · by_cases h3:(100:Int) < (l[i].2.bag.vals.length:Int)
       · simp [lp50_0,hi,idxSl_roL hi,hld,-load_tp,Blen,hone,hover,← hH1,b1,f11,f20,g11,g20,shapeOf,h1,h2,h3]
       · simp [lp50_0,hi,idxSl_roL hi,hld,-load_tp,Blen,hone,hover,← hH1,b1,f11,f20,g11,g20,shapeOf,h1,h2,h3,hw]
         exact nxt hJ (m - 1) (by omega) ⟨i + 1,by omega,by omega,rfl⟩
 · simp [lp50_0,hi]
   omega
end Go.Proofs.YtgbnbgkldeifkaaGreatA
namespace Go.Proofs.YtgbnbgkldeifkaaGreatA
open Go
set_option linter.unusedSimpArgs false
set_option linter.unusedVariables false
set_option maxRecDepth 1000000
theorem cut_in {α:Type} {f:α→List AV} {es:Nat} (hf:∀ x,(f x).length=es) {l:List α} {i:Nat} (hi:i < l.length) {o n:Nat} (h:o + n≤es):cut (l.flatMap f) (i * es + o) n=cut (f l[i]) o n:=by
 have h2:=flatMap_len hf l
 have h3:(i + 1) * es≤l.length * es:=Nat.mul_le_mul_right _ hi
 rw [Nat.add_mul,Nat.one_mul] at h3
 rw [cut_at (by rw [h2];omega),cut_at (by rw [hf];omega),← List.drop_drop,flatMap_drop hf,List.drop_eq_getElem_cons hi,List.flatMap_cons,List.drop_append_of_le_length (by rw [hf];omega),List.take_append_of_le_length (by rw [List.length_drop,hf];omega)]
section
variable {H H':Heap} {gb cb:Nat} {g:Giv} {lim:Nat} {ms:List MsgM} {r:AV}
theorem MRow.at (h:MRow lim H g ms r) {i:Nat} (hi:i < ms.length) {k:IntKind}:∃ b,idxSlAV 62 (.int k (i:Int)) r=some (.ptr (some (b,i * 62)))∧(∀ X,loadAt (H++X) (some 62) (.ptr (some (b,i * 62)))=some (.agg (msgOf g ms[i])))∧∀ X o n,o + n≤62→∃ cs,Heap.cells? (H++X) b=some cs∧cut cs (i * 62 + o) n=cut (msgOf g ms[i]) o n:=by
 rcases h.row with ⟨e,_⟩ | ⟨ne,b,g1,rfl,g3⟩
 · rw [e] at hi;exact absurd hi (by simp)
 · have e:idxSlAV 62 (.int k (i:Int)) (.sl b 0 ms.length 62)=some (.ptr (some (b,0 + i * 62))):=idxSl_sl hi
   rw [Nat.zero_add] at e
   refine ⟨b,e,fun X=>?_,fun X o n ho=>⟨_,cells_of (get_app g3),cut_in (msgOf_len g) hi ho⟩⟩
   have:=cut_in (msgOf_len g) hi (o:=0) (n:=62) (by omega)
   rw [Nat.add_zero,cut_all (msgOf_len g _)] at this
   simp only [loadAt,cells_of (get_app (X:=X) g3),Option.bind_some,Option.getD_some,this,shapeOf]
theorem MRow.app {X:Heap} (h:MRow lim H g ms r):MRow lim (H++X) g ms r:=⟨h.row.app,fun m hm=>(h.vals m hm).app⟩
theorem MRow.keepT (h:MRow lim H g ms r) (f:FrT H H'):MRow lim H' g ms r:=by
 refine ⟨?_,fun m hm=>(h.vals m hm).keepT f⟩
 rcases h.row with h | ⟨ne,c,g1,g2,g3⟩
 · exact .inl h
 · exact .inr ⟨ne,c,g1,g2,f.2 _ _ g3 msg_cur rfl msg_out⟩
end
structure GivS (H:Heap) (gb cb p lb mi:Nat) (g:Giv) (l:List OutM) (due:List (List UInt8)) (last:List UInt8) (s:VSt):Prop where
 pile:∃ v,OPileV H gb g cb l v
 heap:HeapN oLess l l.length
 ok:OutOk l
 cur:∃ cv,CurM H cb g.part due last cv
 vlt:∃ w q es ck,Vlt H p lb mi s w q es ck
structure TickP (g:Giv) (l:List OutM) (s:VSt) (K:List (List UInt8)) (T:List (List UInt8) × List (List UInt8) × List UInt8) (l1 told l':List OutM) (ms:List MsgM):Prop where
 p1:l1.Perm l
 srt:SrtTo l1 l.length
 tolds:told.map OutM.p=toldP s g.seq T.1
 nows:∀ o ∈ told,o.when_=g.now + 1
 p2:l'.Perm (l1.map (updO (g.now + 1))++told)
 few:l'.length≤4
 msgs:ms.map MsgM.p=(l1.filter (dueO (g.now + 1))).map OutM.p++toldP s g.seq T.1++endL (doneB l' K T.2.1 T.2.2)
section
variable {H H' X:Heap} {gb cb p lb mi lim:Nat} {g:Giv} {l:List OutM} {due:List (List UInt8)} {last:List UInt8} {s:VSt}
theorem GivS.app (h:GivS H gb cb p lb mi g l due last s):GivS (H++X) gb cb p lb mi g l due last s:=by
 obtain ⟨⟨v,h1⟩,h2,h3,⟨cv,h4⟩,w,q,es,ck,h5⟩:=h
 exact ⟨⟨v,h1.app⟩,h2,h3,⟨cv,h4.app⟩,w,q,es,ck,h5.app⟩
theorem CurM.keepAll {part:Int} {cv:AV} (h:CurM H cb part due last cv) (k:∀ (c:Nat) (z:ABlk),H[c]?=some z→H'[c]?=some z):CurM H' cb part due last cv:=by
 refine ⟨h.strict,h.few,?_⟩
 rcases h.pile with ⟨a,d,c⟩ | ⟨b,l,Rs,h1,h2,h3,h4,h5⟩
 · exact .inl ⟨a,d,k _ _ c⟩
 · exact .inr ⟨b,l,Rs,h1,h2,h3,⟨k _ _ h4.box,k _ _ h4.row,h4.few⟩,h5⟩
theorem GivS.keepAll (h:GivS H gb cb p lb mi g l due last s) (hl:H.length≤H'.length) (k:∀ (c:Nat) (z:ABlk),H[c]?=some z→H'[c]?=some z):GivS H' gb cb p lb mi g l due last s:=by
 obtain ⟨⟨v,h1⟩,h2,h3,⟨cv,h4⟩,w,q,es,ck,h5⟩:=h
 exact ⟨⟨v,h1.keepAll k⟩,h2,h3,⟨cv,h4.keepAll k⟩,w,q,es,ck,h5.keepT ⟨hl,fun c z hz _ _ _=>k c z hz⟩⟩
theorem gs_tick (h:GivS H gb cb p lb mi g l due last s) (few:l.length≤4) (hn:0≤g.now∧g.now < 100000000000) (hq:0≤g.seq∧g.seq < 100000000000) (h0:0≤g.part) (vok:VOk s) (bfew:s.bags.length < 1000000000) :
 WCl envE 46 [.ptr (some (gb,0)),.ptr (some (p,0))] 0 H fun r H'=>∃ l1 told l' ms,TickP g l s (keysS s g.part) (tellsF (keysS s g.part) (4 - l.length) due last) l1 told l' ms ∧
  GivS H' gb cb p lb mi (tickG g (tellsF (keysS s g.part) (4 - l.length) due last).1.length (doneB l' (keysS s g.part) (tellsF (keysS s g.part) (4 - l.length) due last).2.1 (tellsF (keysS s g.part) (4 - l.length) due last).2.2)) l' (tellsF (keysS s g.part) (4 - l.length) due last).2.1 (tellsF (keysS s g.part) (4 - l.length) due last).2.2 s ∧
  MRow H.length H' g ms r∧FrT H H':=by
 obtain ⟨⟨v,h1⟩,h2,h3,⟨cv,h4⟩,w,q,es,ck,h5⟩:=h
 refine WCl.mono (c46 h1 few h3 hn hq h0 h5 vok bfew h4 rfl rfl) ?_
 rintro r H' ⟨hv,l1,told,l',ms,cv',v',t⟩
 exact ⟨l1,told,l',ms,⟨t.p1,t.srt,t.tolds,t.nows,t.p2,t.few,t.msgs⟩,⟨⟨v',t.pile⟩,t.heap,t.ok,⟨cv',t.cur⟩,w,q,es,ck,hv⟩,t.row,t.fr⟩
theorem FrG.of_frV {v v':AV} (h:OPileV H gb g cb l v) (f:FrV H H' gb v v'):FrG H H':=⟨f.len,fun c z hz a d=>f.keep c z hz (h.ne hz a) (h.off hz d)⟩
theorem gs_got {k a b seq pt ep:Int} {key:List UInt8} {kn:Nat→Int} {vals:List Val} {r:AV} (h:GivS H gb cb p lb mi g l due last s) (hr:Row 0 H 3 valC vals r) (lfew:l.length < 1000000000000) :
 WCl envE 49 [.ptr (some (gb,0)),.agg (msgG k a b seq pt ep key kn r)] 0 H fun q H' =>
  (q=.bool false∧(ofB g k a b pt ep 6=false∨∀ o ∈ l,sameO o seq key kn vals=false)∧∃ X,H'=H++X) ∨
  (q=.bool true∧ofB g k a b pt ep 6=true∧∃ o l',sameO o seq key kn vals=true∧(o :: l').Perm l∧GivS H' gb cb p lb mi g l' due last s∧FrG H H'):=by
 obtain ⟨⟨v,h1⟩,h2,h3,⟨cv,h4⟩,w,q,es,ck,h5⟩:=h
 refine WCl.mono (c49 h1 h2 hr h3.vals lfew) ?_
 rintro x H' (q1 | ⟨rfl,q2,o,l',v',q3,q4,q5,q6,q7⟩)
 · exact .inl q1
 · have f:=FrG.of_frV h1 q7
   refine .inr ⟨rfl,q2,o,l',q3,q4,⟨⟨v',q6⟩,q5,?_,⟨cv,h4.keepG f⟩,w,q,es,ck,h5.keepG f⟩,f⟩
   exact ⟨fun x hx=>h3.seq x (q4.subset (.tail _ hx)),fun x hx=>h3.when_ x (q4.subset (.tail _ hx)),fun x hx=>h3.vals x (q4.subset (.tail _ hx))⟩
theorem gs_out (h:GivS H gb cb p lb mi g l due last s) (few:l.length≤12) :
 WCl envE 47 [.ptr (some (gb,0))] 0 H fun r H'=>lenSlAV r=some (I l.length)∧GivS H' gb cb p lb mi g l due last s∧H.length≤H'.length∧∀ (c:Nat) (z:ABlk),H[c]?=some z→H'[c]?=some z:=by
 obtain ⟨v,h1⟩:=h.pile
 refine WCl.mono (c47 h1 few) ?_
 rintro r H' ⟨q1,q2,q3⟩
 exact ⟨q1,h.keepAll q2 q3,q2,q3⟩
theorem gs_ended {k a b seq pt ep:Int} {key:List UInt8} {kn:Nat→Int} {r:AV} (h:GivS H gb cb p lb mi g l due last s) (few:s.bags.length < 1000000000) (hp:0≤g.part) (hr:AV.one r=true) :
 WCl envE 51 [.ptr (some (gb,0)),.agg (msgG k a b seq pt ep key kn r),.ptr (some (p,0))] 0 H fun x H'=>x=.bool (ofB g k a b pt ep 8 && g.ends && doneB l (keysS s g.part) due last)∧∃ X,H'=H++X:=by
 obtain ⟨⟨v,h1⟩,h2,h3,⟨cv,h4⟩,w,q,es,ck,h5⟩:=h
 exact c51 h1 h5 few hp h4 hr
end
end Go.Proofs.YtgbnbgkldeifkaaGreatA
namespace Go.Proofs.YtgbnbgkldeifkaaGreatA
open Go
set_option linter.unusedSimpArgs false
set_option linter.unusedVariables false
set_option maxRecDepth 1000000
theorem c44 (n:Int):∃ k:List UInt8,Pu envE 44 [I n] (.str k)∧k.length=2:=by
 suffices h:∃ d,Pu envE 44 [I n] d∧∃ k:List UInt8,d=.str k∧k.length=2 by
  obtain ⟨d,h1,k,rfl,h2⟩:=h
  exact ⟨k,h1,h2⟩
 refine pu_ex e44 rfl ?_
 rw [fr_init (by simp [fd44])]
 simp [fd44,b44,Heap.cells?,elems,cut_at]
theorem gs_new {H:Heap} {p lb mi:Nat} {s:VSt} {w q:AV} {es:List (AV × AV × Nat)} {ck:Nat} (hv:Vlt H p lb mi s w q es ck) (self part epoch to:Int) :
 GivS (H++[curB part .nilsl [],givB ⟨self,part,epoch,to,0,0,false⟩ H.length .nilsl]) (H.length + 1) H.length p lb mi ⟨self,part,epoch,to,0,0,false⟩ [] [] [] s :=
 ⟨⟨.nilsl,.nil (by rw [List.getElem?_append_right (by omega)];simp)⟩,fun k k0 kn=>by simp at kn,OutOk.nil,⟨.nilsl,cur_new (X:=[]) (by rw [List.getElem?_append_right (by omega)];simp)⟩,w,q,es,ck,hv.app⟩
theorem tells_none {K:List (List UInt8)} (h:K=[]) {n:Nat}:tellsF K n [] []=([],[],[]):=by
 subst h
 cases n <;> rfl
theorem map_one {α β:Type} {f:α→β} {l:List α} {y:β} (h:l.map f=[y]):∃ x,l=[x]∧f x=y:=by
 cases l with
 | nil=>cases h
 | cons x l =>
  cases l with
  | nil=>exact ⟨x,rfl,by simpa using h⟩
  | cons z l=>cases h
set_option maxHeartbeats 1000000 in
theorem wake43:Pu envE 43 [] (.bool true):=by
 refine pu_is e43 rfl ?_
 have nr:=fun K=>new_room (room:=9) (H:=[]) (lim:=0) (K:=K) (by omega) (by omega)
 rw [fr_init (by simp [fd43])]
 simp [fd43,b43,nr]
 refine open_new 9 [] (by omega) (by omega) ?_
 intro X hv
 have ok0:=empty_ok (room:=9) (by omega) (by omega)
 simp only [List.nil_append,List.length_nil,Nat.zero_add] at hv ⊢
 have k45:=fun K=>WCl_eq (K:=K) (c45 0 3 1 1 0 X (by omega) (by omega) (by omega) (by omega) (by omega))
 have hG:=gs_new hv 0 3 1 1
 obtain ⟨g,hg⟩:∃ g:Giv,g=⟨0,3,1,1,0,0,false⟩:=⟨_,rfl⟩
 obtain ⟨H1,hH1⟩:∃ H1,H1=X++[curB 3 .nilsl [],givB g X.length .nilsl]:=⟨_,rfl⟩
 rw [← hg,← hH1] at k45 hG
 simp [k45]
 have hK0:keysS (emptyS 9) 3=[]:=by simp [keysS,emptyS,sortS]
 have gn:0≤g.now∧g.now < 100000000000:=by rw [hg];decide
 have gq:0≤g.seq∧g.seq < 100000000000:=by rw [hg];decide
 have gp:0≤g.part:=by rw [hg];decide
 refine WCl.mono (gs_tick hG (by simp) gn gq gp ok0 (by simp [emptyS])) ?_
 rintro r H2 ⟨l1,told,l',ms,tp,h2,hM,fr⟩
 have gpe:g.part=3:=by rw [hg]
 rw [gpe,hK0] at tp h2
 rw [tells_none rfl] at tp h2
 have e1:l1=[]:=tp.p1.eq_nil
 have e2:told=[]:=by simpa [toldP] using tp.tolds
 have e3:l'=[]:=by
  have:=tp.p2
  rw [e1,e2] at this
  exact this.eq_nil
 have hd:doneB ([]:List OutM) [] [] []=true:=rfl
 have hms:=tp.msgs
 rw [e1,e3,hd] at hms
 obtain ⟨m1,rfl,hm1⟩:=map_one (show ms.map MsgM.p=[endP] from hms)
 rw [e3,hd] at h2
 have hi:0 < [m1].length:=by simp
 obtain ⟨b,q1,q2,q3⟩:=hM.at hi (k:=.i64)
 have q1':idxSlAV 62 (I 0) r=some (.ptr (some (b,0))):=by simpa using q1
 have hf:m1.kind=7:=by have:=congrArg Prod.fst hm1;exact this
 have hmo:msgOf g m1=msgG 7 0 1 m1.seq 3 1 m1.key m1.known (oneR m1.r):=by rw [hg];unfold msgOf;rw [hf]
 obtain ⟨c0,d0,f0⟩:=q3 [] 0 1 (by omega)
 obtain ⟨c6,d6,f6⟩:=q3 [] 6 1 (by omega)
 obtain ⟨c2,d2,f2⟩:=q3 [] 2 1 (by omega)
 rw [List.append_nil] at d0 d6 d2
 have l0:loadAt H2 none (.ptr (some (b,0)))=some (I 7):=by
  simp only [List.getElem_cons_zero,Nat.zero_mul,Nat.zero_add] at f0
  simp only [loadAt,d0,Option.bind_some,Option.getD_none,f0,hmo]
  rfl
 have l6:loadAt H2 none (.ptr (some (b,6)))=some (I 3):=by
  simp only [List.getElem_cons_zero,Nat.zero_mul,Nat.zero_add] at f6
  simp only [loadAt,d6,Option.bind_some,Option.getD_none,f6,hmo]
  rfl
 have l2:loadAt H2 none (.ptr (some (b,2)))=some (I 1):=by
  simp only [List.getElem_cons_zero,Nat.zero_mul,Nat.zero_add] at f2
  simp only [loadAt,d2,Option.bind_some,Option.getD_none,f2,hmo]
  rfl
 have hlen:=hM.row.len
 have hz:msgG 8 1 0 0 3 1 [] zeroV .nilsl=[I 8,I 1,I 0,I 0,I 0,I 0,I 3,I 1,.str [],I 0,I 0,I 0,I 0,I 0,I 0,I 0,I 0,.nilsl,I 0,I 0,I 0,I 0,I 0,I 0,I 0,I 0,I 0,I 0,.nilsl,I 0,I 0,I 0,I 0,I 0,I 0,I 0,I 0,I 0,I 0,I 0,I 0,I 0,I 0,I 0,I 0,I 0,I 0,I 0,I 0,I 0,I 0,I 0,I 0,I 0,I 0,I 0,I 0,I 0,I 0,I 0,I 0,.nilsl]:=hard rfl
 simp [hlen,q1',l0,l6,l2,-load_ptr]
 rw [← hz]
 have bf:(emptyS 9).bags.length < 1000000000:=by simp [emptyS]
 refine WCl.mono (gs_ended h2 bf (show 0≤(tickG g 0 true).part from gp) rfl) ?_
 rintro _ _ ⟨rfl,Y,rfl⟩
 have hd2:doneB ([]:List OutM) (keysS (emptyS 9) (tickG g 0 true).part) [] []=true:=by
  have:(tickG g 0 true).part=3:=gpe
  rw [this,hK0]
  rfl
 have ho:ofB (tickG g 0 true) 8 1 0 3 1 8=true:=by rw [hg];rfl
 have he:(tickG g 0 true).ends=true:=by rw [hg];rfl
 rw [show ([]:List (List UInt8)).length=0 from rfl,hd2,ho,he]
 simp
theorem k43 {H:Heap} {K:AV→Heap→Prop}:wPu envE 43 (some []) H K=K (.bool true) H:=(wPu_eq wake43).trans (by simp)
end Go.Proofs.YtgbnbgkldeifkaaGreatA

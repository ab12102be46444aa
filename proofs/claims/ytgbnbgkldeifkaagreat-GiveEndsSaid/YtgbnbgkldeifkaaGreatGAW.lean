/- Messages as Lean structures, and what fits them; is it light? A giver beside its vault, call by call. A giver that is new; one that always wakes; keys of numbers. No statement about the program is proved here. -/
import Derived.Test.YtgbnbgkldeifkaaGreatGTK
import Derived.Test.YtgbnbgkldeifkaaGreatV7
namespace Go.Proofs.YtgbnbgkldeifkaaGreatA
open Go Go.RowKit
set_option linter.unusedVariables false
set_option linter.unusedSimpArgs false
set_option maxRecDepth 1000000
structure Claim where
 node:Int
 inc:Int
 health:Int
structure Msg where
 kind:Int
 from':Int
 to:Int
 seq:Int
 for':Int
 about:Int
 part:Int
 epoch:Int
 key:List UInt8
 bag:Bag
 ring:Ring
 claims:List Claim
def claimC (c:Claim):List AV:=[I c.node,I c.inc,I c.health]
def msgH (kd fr to sq fo ab pa ep:Int) (key:List UInt8):List AV:=[I kd,I fr,I to,I sq,I fo,I ab,I pa,I ep,.str key]
def msgV (kd fr to sq fo ab pa ep:Int) (key:List UInt8) (b r:List AV) (c:AV):List AV:=msgH kd fr to sq fo ab pa ep key++(b++(r++[c]))
def msgC (m:Msg):List AV:=msgV m.kind m.from' m.to m.seq m.for' m.about m.part m.epoch m.key (bagC m.bag) (ringC m.ring) (roL claimC m.claims)
section
variable {kd fr to sq fo ab pa ep:Int} {key:List UInt8} {k k' st pe po:Nat→Int} {q r c q2 r2 c2 q' r' c':AV} {ver by':Int} {H:Heap} {d:Nat}
abbrev mV (kd fr to sq fo ab pa ep:Int) (key:List UInt8) (k:Nat→Int) (q:AV) (st:Nat→Int) (ver by':Int) (r:AV) (pe po:Nat→Int) (c:AV):List AV:=msgV kd fr to sq fo ab pa ep key (bagV k q) (ringV st ver by' r pe po) c
@[simp] theorem msgC_eq (m:Msg):msgC m=msgV m.kind m.from' m.to m.seq m.for' m.about m.part m.epoch m.key (bagV m.bag.known (roL valC m.bag.vals)) (ringV m.ring.status m.ring.plan.version m.ring.plan.by' (roL intC m.ring.plan.targets) m.ring.epoch m.ring.owner) (roL claimC m.claims):=hard rfl
@[simp] theorem mV_len:(mV kd fr to sq fo ab pa ep key k q st ver by' r pe po c).length=62:=hard rfl
@[simp] theorem mV_take:(mV kd fr to sq fo ab pa ep key k q st ver by' r pe po c).take 62=mV kd fr to sq fo ab pa ep key k q st ver by' r pe po c:=hard rfl
@[simp] theorem mV_f0:(mV kd fr to sq fo ab pa ep key k q st ver by' r pe po c).take 1=[I kd]:=hard rfl
@[simp] theorem mV_t1:((mV kd fr to sq fo ab pa ep key k q st ver by' r pe po c).tail).take 1=[I fr]:=hard rfl
@[simp] theorem mV_f1:((mV kd fr to sq fo ab pa ep key k q st ver by' r pe po c).drop 1).take 1=[I fr]:=hard rfl
@[simp] theorem mV_f2:((mV kd fr to sq fo ab pa ep key k q st ver by' r pe po c).drop 2).take 1=[I to]:=hard rfl
@[simp] theorem mV_f3:((mV kd fr to sq fo ab pa ep key k q st ver by' r pe po c).drop 3).take 1=[I sq]:=hard rfl
@[simp] theorem mV_f4:((mV kd fr to sq fo ab pa ep key k q st ver by' r pe po c).drop 4).take 1=[I fo]:=hard rfl
@[simp] theorem mV_f5:((mV kd fr to sq fo ab pa ep key k q st ver by' r pe po c).drop 5).take 1=[I ab]:=hard rfl
@[simp] theorem mV_f6:((mV kd fr to sq fo ab pa ep key k q st ver by' r pe po c).drop 6).take 1=[I pa]:=hard rfl
@[simp] theorem mV_f7:((mV kd fr to sq fo ab pa ep key k q st ver by' r pe po c).drop 7).take 1=[I ep]:=hard rfl
@[simp] theorem mV_f8:((mV kd fr to sq fo ab pa ep key k q st ver by' r pe po c).drop 8).take 1=[.str key]:=hard rfl
@[simp] theorem mV_f9:((mV kd fr to sq fo ab pa ep key k q st ver by' r pe po c).drop 9).take 9=bagV k q:=hard rfl
@[simp] theorem mV_f17:((mV kd fr to sq fo ab pa ep key k q st ver by' r pe po c).drop 17).take 1=[q]:=hard rfl
@[simp] theorem mV_f18:((mV kd fr to sq fo ab pa ep key k q st ver by' r pe po c).drop 18).take 43=ringV st ver by' r pe po:=hard rfl
@[simp] theorem mV_f28:((mV kd fr to sq fo ab pa ep key k q st ver by' r pe po c).drop 28).take 1=[r]:=hard rfl
@[simp] theorem mV_f61:((mV kd fr to sq fo ab pa ep key k q st ver by' r pe po c).drop 61).take 1=[c]:=hard rfl
@[simp] theorem mV_s3 {x:Int}:(mV kd fr to sq fo ab pa ep key k q st ver by' r pe po c).set 3 (I x)=mV kd fr to x fo ab pa ep key k q st ver by' r pe po c:=hard rfl
@[simp] theorem mV_s8 {x:List UInt8}:(mV kd fr to sq fo ab pa ep key k q st ver by' r pe po c).set 8 (.str x)=mV kd fr to sq fo ab pa ep x k q st ver by' r pe po c:=hard rfl
@[simp] theorem mV_s17:(mV kd fr to sq fo ab pa ep key k q st ver by' r pe po c).set 17 q'=mV kd fr to sq fo ab pa ep key k q' st ver by' r pe po c:=hard rfl
@[simp] theorem mV_s9:setFrom (mV kd fr to sq fo ab pa ep key k q st ver by' r pe po c) 9 (bagV k' q')=mV kd fr to sq fo ab pa ep key k' q' st ver by' r pe po c:=hard rfl
end
def shClaim:Sh:=.cat [iS,iS,iS]
def shMsg:Sh:=.cat [iS,iS,iS,iS,iS,iS,iS,iS,(1,.str),(9,shBag),(43,shRing),(1,.sl 3 24 shClaim)]
def callG (c:(Int × Int × Int) × Msg):List AV:=[I c.1.1,I c.1.2.1,I c.1.2.2]++msgC c.2
end Go.Proofs.YtgbnbgkldeifkaaGreatA
namespace Go.Proofs.YtgbnbgkldeifkaaGreatA
open Go
set_option linter.unusedSimpArgs false
set_option linter.unusedVariables false
set_option maxRecDepth 1000000
theorem cut_in {α:Type} {f:α→List AV} {es:Nat} (hf:∀ x,(f x).length=es) {l:List α} {i:Nat} (hi:i < l.length) {o n:Nat} (h:o + n≤es):cut (l.flatMap f) (i * es + o) n=cut (f l[i]) o n:=by
 have h2:=flatMap_len hf l
 have h3:(i + 1) * es≤l.length * es:=Nat.mul_le_mul_right _ hi
 rw [Nat.add_mul,Nat.one_mul] at h3
 rw [cut_at (by rw [h2];omega),cut_at (by rw [hf];omega),← List.drop_drop,flatMap_drop hf,List.drop_eq_getElem_cons hi,List.flatMap_cons,List.drop_append_of_le_length (by rw [hf];omega),List.take_append_of_le_length (by rw [List.length_drop,hf];omega)]
section
variable {H H':Heap} {gb cb:Nat} {g:Giv} {lim:Nat} {ms:List MsgM} {r:AV}
theorem MRow.at (h:MRow lim H g ms r) {i:Nat} (hi:i < ms.length) {k:IntKind}:∃ b,idxSlAV 62 (.int k (i:Int)) r=some (.ptr (some (b,i * 62)))∧(∀ X,loadAt (H++X) (some 62) (.ptr (some (b,i * 62)))=some (.agg (msgOf g ms[i])))∧∀ X o n,o + n≤62→∃ cs,Heap.cells? (H++X) b=some cs∧cut cs (i * 62 + o) n=cut (msgOf g ms[i]) o n:=by
 rcases h.row with ⟨e,_⟩ | ⟨ne,b,g1,rfl,g3⟩
 · rw [e] at hi;exact absurd hi (by simp)
 · have e:idxSlAV 62 (.int k (i:Int)) (.sl b 0 ms.length 62)=some (.ptr (some (b,0 + i * 62))):=idxSl_sl hi
   rw [Nat.zero_add] at e
   refine ⟨b,e,fun X=>?_,fun X o n ho=>⟨_,cells_of (get_app g3),cut_in (msgOf_len g) hi ho⟩⟩
   have:=cut_in (msgOf_len g) hi (o:=0) (n:=62) (by omega)
   rw [Nat.add_zero,cut_all (msgOf_len g _)] at this
   simp only [loadAt,cells_of (get_app (X:=X) g3),Option.bind_some,Option.getD_some,this,shapeOf]
theorem MRow.app {X:Heap} (h:MRow lim H g ms r):MRow lim (H++X) g ms r:=⟨h.row.app,fun m hm=>(h.vals m hm).app⟩
theorem MRow.keepT (h:MRow lim H g ms r) (f:FrT H H'):MRow lim H' g ms r:=by
 refine ⟨?_,fun m hm=>(h.vals m hm).keepT f⟩
 rcases h.row with h | ⟨ne,c,g1,g2,g3⟩
 · exact .inl h
 · exact .inr ⟨ne,c,g1,g2,f.2 _ _ g3 msg_cur rfl msg_out⟩
end
structure GivS (H:Heap) (gb cb p lb mi:Nat) (g:Giv) (l:List OutM) (due:List (List UInt8)) (last:List UInt8) (s:VSt):Prop where
 pile:∃ v,OPileV H gb g cb l v
 heap:HeapN oLess l l.length
 ok:OutOk l
 cur:∃ cv,CurM H cb g.part due last cv
 vlt:∃ w q es ck,Vlt H p lb mi s w q es ck
structure TickP (g:Giv) (l:List OutM) (s:VSt) (K:List (List UInt8)) (T:List (List UInt8) × List (List UInt8) × List UInt8) (l1 told l':List OutM) (ms:List MsgM):Prop where
 p1:l1.Perm l
 srt:SrtTo l1 l.length
 tolds:told.map OutM.p=toldP s g.seq T.1
 nows:∀ o ∈ told,o.when_=g.now + 1
 p2:l'.Perm (l1.map (updO (g.now + 1))++told)
 few:l'.length≤4
 msgs:ms.map MsgM.p=(l1.filter (dueO (g.now + 1))).map OutM.p++toldP s g.seq T.1++endL (doneB l' K T.2.1 T.2.2)
section
variable {H H' X:Heap} {gb cb p lb mi lim:Nat} {g:Giv} {l:List OutM} {due:List (List UInt8)} {last:List UInt8} {s:VSt}
theorem GivS.app (h:GivS H gb cb p lb mi g l due last s):GivS (H++X) gb cb p lb mi g l due last s:=by
 obtain ⟨⟨v,h1⟩,h2,h3,⟨cv,h4⟩,w,q,es,ck,h5⟩:=h
 exact ⟨⟨v,h1.app⟩,h2,h3,⟨cv,h4.app⟩,w,q,es,ck,h5.app⟩
theorem CurM.keepAll {part:Int} {cv:AV} (h:CurM H cb part due last cv) (k:∀ (c:Nat) (z:ABlk),H[c]?=some z→H'[c]?=some z):CurM H' cb part due last cv:=by
 refine ⟨h.strict,h.few,?_⟩
 rcases h.pile with ⟨a,d,c⟩ | ⟨b,l,Rs,h1,h2,h3,h4,h5⟩
 · exact .inl ⟨a,d,k _ _ c⟩
 · exact .inr ⟨b,l,Rs,h1,h2,h3,⟨k _ _ h4.box,k _ _ h4.row,h4.few⟩,h5⟩
theorem GivS.keepAll (h:GivS H gb cb p lb mi g l due last s) (hl:H.length≤H'.length) (k:∀ (c:Nat) (z:ABlk),H[c]?=some z→H'[c]?=some z):GivS H' gb cb p lb mi g l due last s:=by
 obtain ⟨⟨v,h1⟩,h2,h3,⟨cv,h4⟩,w,q,es,ck,h5⟩:=h
 exact ⟨⟨v,h1.keepAll k⟩,h2,h3,⟨cv,h4.keepAll k⟩,w,q,es,ck,h5.keepT ⟨hl,fun c z hz _ _ _=>k c z hz⟩⟩
theorem gs_tick (h:GivS H gb cb p lb mi g l due last s) (few:l.length≤4) (hn:0≤g.now∧g.now < 100000000000) (hq:0≤g.seq∧g.seq < 100000000000) (h0:0≤g.part) (vok:VOk s) (bfew:s.bags.length < 1000000000) :
 WCl envE 46 [.ptr (some (gb,0)),.ptr (some (p,0))] 0 H fun r H'=>∃ l1 told l' ms,TickP g l s (keysS s g.part) (tellsF (keysS s g.part) (4 - l.length) due last) l1 told l' ms ∧
  GivS H' gb cb p lb mi (tickG g (tellsF (keysS s g.part) (4 - l.length) due last).1.length (doneB l' (keysS s g.part) (tellsF (keysS s g.part) (4 - l.length) due last).2.1 (tellsF (keysS s g.part) (4 - l.length) due last).2.2)) l' (tellsF (keysS s g.part) (4 - l.length) due last).2.1 (tellsF (keysS s g.part) (4 - l.length) due last).2.2 s ∧
  MRow H.length H' g ms r∧FrT H H':=by
 obtain ⟨⟨v,h1⟩,h2,h3,⟨cv,h4⟩,w,q,es,ck,h5⟩:=h
 refine WCl.mono (c46 h1 few h3 hn hq h0 h5 vok bfew h4 rfl rfl) ?_
 rintro r H' ⟨hv,l1,told,l',ms,cv',v',t⟩
 exact ⟨l1,told,l',ms,⟨t.p1,t.srt,t.tolds,t.nows,t.p2,t.few,t.msgs⟩,⟨⟨v',t.pile⟩,t.heap,t.ok,⟨cv',t.cur⟩,w,q,es,ck,hv⟩,t.row,t.fr⟩
theorem FrG.of_frV {v v':AV} (h:OPileV H gb g cb l v) (f:FrV H H' gb v v'):FrG H H':=⟨f.len,fun c z hz a d=>f.keep c z hz (h.ne hz a) (h.off hz d)⟩
theorem gs_got {k a b seq pt ep:Int} {key:List UInt8} {kn:Nat→Int} {vals:List Val} {r:AV} (h:GivS H gb cb p lb mi g l due last s) (hr:Row 0 H 3 valC vals r) (lfew:l.length < 1000000000000) :
 WCl envE 49 [.ptr (some (gb,0)),.agg (msgG k a b seq pt ep key kn r)] 0 H fun q H' =>
  (q=.bool false∧(ofB g k a b pt ep 6=false∨∀ o ∈ l,sameO o seq key kn vals=false)∧∃ X,H'=H++X) ∨
  (q=.bool true∧ofB g k a b pt ep 6=true∧∃ o l',sameO o seq key kn vals=true∧(o :: l').Perm l∧GivS H' gb cb p lb mi g l' due last s∧FrG H H'):=by
 obtain ⟨⟨v,h1⟩,h2,h3,⟨cv,h4⟩,w,q,es,ck,h5⟩:=h
 refine WCl.mono (c49 h1 h2 hr h3.vals lfew) ?_
 rintro x H' (q1 | ⟨rfl,q2,o,l',v',q3,q4,q5,q6,q7⟩)
 · exact .inl q1
 · have f:=FrG.of_frV h1 q7
   refine .inr ⟨rfl,q2,o,l',q3,q4,⟨⟨v',q6⟩,q5,?_,⟨cv,h4.keepG f⟩,w,q,es,ck,h5.keepG f⟩,f⟩
   exact ⟨fun x hx=>h3.seq x (q4.subset (.tail _ hx)),fun x hx=>h3.when_ x (q4.subset (.tail _ hx)),fun x hx=>h3.vals x (q4.subset (.tail _ hx))⟩
theorem gs_out (h:GivS H gb cb p lb mi g l due last s) (few:l.length≤12) :
 WCl envE 47 [.ptr (some (gb,0))] 0 H fun r H'=>lenSlAV r=some (I l.length)∧GivS H' gb cb p lb mi g l due last s∧H.length≤H'.length∧∀ (c:Nat) (z:ABlk),H[c]?=some z→H'[c]?=some z:=by
 obtain ⟨v,h1⟩:=h.pile
 refine WCl.mono (c47 h1 few) ?_
 rintro r H' ⟨q1,q2,q3⟩
 exact ⟨q1,h.keepAll q2 q3,q2,q3⟩
theorem gs_ended {k a b seq pt ep:Int} {key:List UInt8} {kn:Nat→Int} {r:AV} (h:GivS H gb cb p lb mi g l due last s) (few:s.bags.length < 1000000000) (hp:0≤g.part) (hr:AV.one r=true) :
 WCl envE 51 [.ptr (some (gb,0)),.agg (msgG k a b seq pt ep key kn r),.ptr (some (p,0))] 0 H fun x H'=>x=.bool (ofB g k a b pt ep 8 && g.ends && doneB l (keysS s g.part) due last)∧∃ X,H'=H++X:=by
 obtain ⟨⟨v,h1⟩,h2,h3,⟨cv,h4⟩,w,q,es,ck,h5⟩:=h
 exact c51 h1 h5 few hp h4 hr
theorem DRow.off_out {ds:List Deed} {v:AV} (h:DRow lim H ds v) (hv:ds=[]→v=.nilsl) {c:Nat} {z:ABlk} (hz:H[c]?=some z) (ho:isOut z=true):Off v c:=by
 rcases h with ⟨_,rfl⟩ | ⟨c2,cs,h0,h1,h2,h3,h4⟩
 · exact Off.nil
 · have ne:ds ≠ []:=fun e=>by rw [hv e] at h1;cases h1
   have hl:=List.length_pos_iff.2 ne
   have hcs:isOut (.cells true cs)=false:=by
    obtain ⟨v1,v2,e,_⟩:=h4 0 hl
    rw [Nat.zero_mul,List.drop_zero] at e
    cases cs with
    | nil=>rfl
    | cons x cs =>
     cases cs with
     | nil=>cases x <;> rfl
     | cons y cs =>
      rw [List.take_succ_cons,List.take_succ_cons] at e
      have:y=I (ds[0]'hl).n:=by
       have:=congrArg (fun l:List AV=>l[1]?) e
       simpa [deedM,deedV] using this
      subst this
      cases x <;> rfl
   rw [h1]
   refine Off.sl fun q=>?_
   subst q
   rw [h2] at hz
   rw [← Option.some.inj hz,hcs] at ho
   cases ho
theorem Kp.rowsV {v q:AV} {es:List (AV × AV × Nat)} {ck:Nat} (k:Kp H H' p lb mi) (hv:Vlt H p lb mi s v q es ck) (c:Nat) (y:List AV) (hz:H[c]?=some (.cells true y)) (hd:isD y=false):H'[c]?=some (.cells true y):=k.keep _ _ hz (fun e=>by
 subst e
 rw [hv.box] at hz
 cases hz) (fun e=>by
 subst e
 rw [hv.led.at'] at hz
 cases hz) (fun e=>by
 subst e
 rw [hv.map] at hz
 cases hz) fun z e=>by
 cases e
 exact hd
theorem OPileV.keepK {v w q:AV} {es:List (AV × AV × Nat)} {ck:Nat} (h:OPileV H gb g cb l v) (hv:Vlt H p lb mi s w q es ck) (k:Kp H H' p lb mi):OPileV H' gb g cb l v:=by
 have nine:∀ u,vltC lb mi s q ≠ givV g cb u:=fun u e=>by
  have:=congrArg List.length e
  rw [vlt_len] at this
  cases this
 have box:∀ u,H[gb]?=some (givB g cb u)→H'[gb]?=some (givB g cb u):=fun u hu=>k.keep _ _ hu (fun e=>by
  subst e
  rw [hv.box] at hu
  have:=Option.some.inj hu
  injection this with _ e
  exact nine u e) (fun e=>by
  subst e
  rw [hv.led.at'] at hu
  have:=congrArg (fun z:Option ABlk=>match z with | some (.cells _ y)=>y.length | _=>0) hu
  cases this) (fun e=>by
  subst e
  rw [hv.map] at hu
  cases hu) fun y e=>by cases e
 cases h with
 | nil h=>exact .nil (box _ h)
 | @sl b _ R h =>
  refine .sl ⟨box _ h.box,k.keep2 _ _ h.row (fun e=>?_) (fun e=>?_) (fun e=>?_) ⟨_,_,_,hv.led.at',hv.led.row.off_out hv.vn h.row h.out⟩,h.few,fun o ho=>?_,h.out⟩
  · subst e
    have:=h.row
    rw [hv.box] at this
    cases this
  · subst e
    have:=h.row
    rw [hv.led.at'] at this
    cases this
  · subst e
    have:=h.row
    rw [hv.map] at this
    cases this
  · exact (h.rows o ho).keepD (isD_val _) fun b y hb hd=>k.rowsV hv b y hb hd
theorem gs_put (h:GivS H gb cb p lb mi g l due last s) (vok:VOk s) (node:Int) (key:List UInt8) (known:Nat→Int) (data:List UInt8) :
 WCl envE 24 [.ptr (some (p,0)),I node,.str key,.agg (vecC known),.str data] 0 H fun r H'=>r=.tup [.agg [I (putO s node key known data).a,I (putO s node key known data).c],I (putO s node key known data).e]∧GivS H' gb cb p lb mi g l due last (putO s node key known data).s∧Kp H H' p lb mi:=by
 obtain ⟨⟨v,h1⟩,h2,h3,⟨cv,h4⟩,w,q,es,ck,h5⟩:=h
 refine WCl.mono (c24 h5 vok node key known data) ?_
 rintro r H' ⟨rfl,kp,w',q',es',ck',h5'⟩
 exact ⟨rfl,⟨⟨v,h1.keepK h5 kp⟩,h2,h3,⟨cv,h4.keepK h5 kp⟩,w',q',es',ck',h5'⟩,kp⟩
theorem gs_wrote (h:GivS H gb cb p lb mi g l due last s) (key:List UInt8) (few:due.length < 100000000) :
 WCl envE 52 [.ptr (some (gb,0)),.str key] 0 H fun r H'=>r=.bool (backOk g.part last key)∧GivS H' gb cb p lb mi (wroteG g key) l (backF g.part due last key) last s∧FrT H H':=by
 obtain ⟨⟨v,h1⟩,h2,h3,⟨cv,h4⟩,w,q,es,ck,h5⟩:=h
 refine WCl.mono (c52 h1 h4 key few) ?_
 rintro r H' ⟨rfl,cv',q1,q2,q3,q4⟩
 have f:FrT H H':=⟨q3,fun c z hz a b _=>q4 c z hz (h1.ne hz b) a⟩
 have hp:(wroteG g key).part=g.part:=by
  unfold wroteG
  split <;> rfl
 exact ⟨rfl,⟨⟨v,q2⟩,h2,h3,⟨cv',by rw [hp];exact q1⟩,w,q,es,ck,h5.keepT f⟩,f⟩
end
end Go.Proofs.YtgbnbgkldeifkaaGreatA
namespace Go.Proofs.YtgbnbgkldeifkaaGreatA
open Go
set_option linter.unusedSimpArgs false
set_option linter.unusedVariables false
set_option maxRecDepth 1000000
theorem c44 (n:Int):∃ k:List UInt8,Pu envE 44 [I n] (.str k)∧k.length=2:=by
 suffices h:∃ d,Pu envE 44 [I n] d∧∃ k:List UInt8,d=.str k∧k.length=2 by
  obtain ⟨d,h1,k,rfl,h2⟩:=h
  exact ⟨k,h1,h2⟩
 refine pu_ex e44 rfl ?_
 rw [fr_init (by simp [fd44])]
 simp [fd44,b44,Heap.cells?,elems,cut_at]
theorem gs_new {H:Heap} {p lb mi:Nat} {s:VSt} {w q:AV} {es:List (AV × AV × Nat)} {ck:Nat} (hv:Vlt H p lb mi s w q es ck) (self part epoch to:Int) :
 GivS (H++[curB part .nilsl [],givB ⟨self,part,epoch,to,0,0,false⟩ H.length .nilsl]) (H.length + 1) H.length p lb mi ⟨self,part,epoch,to,0,0,false⟩ [] [] [] s :=
 ⟨⟨.nilsl,.nil (by rw [List.getElem?_append_right (by omega)];simp)⟩,fun k k0 kn=>by simp at kn,OutOk.nil,⟨.nilsl,cur_new (X:=[]) (by rw [List.getElem?_append_right (by omega)];simp)⟩,w,q,es,ck,hv.app⟩
theorem tells_none {K:List (List UInt8)} (h:K=[]) {n:Nat}:tellsF K n [] []=([],[],[]):=by
 subst h
 cases n <;> rfl
theorem map_one {α β:Type} {f:α→β} {l:List α} {y:β} (h:l.map f=[y]):∃ x,l=[x]∧f x=y:=by
 cases l with
 | nil=>cases h
 | cons x l =>
  cases l with
  | nil=>exact ⟨x,rfl,by simpa using h⟩
  | cons z l=>cases h
set_option maxHeartbeats 1000000 in
theorem wake43:Pu envE 43 [] (.bool true):=by
 refine pu_is e43 rfl ?_
 have nr:=fun K=>new_room (room:=9) (H:=[]) (lim:=0) (K:=K) (by omega) (by omega)
 rw [fr_init (by simp [fd43])]
 simp [fd43,b43,nr]
 refine open_new 9 [] (by omega) (by omega) ?_
 intro X hv
 have ok0:=empty_ok (room:=9) (by omega) (by omega)
 simp only [List.nil_append,List.length_nil,Nat.zero_add] at hv ⊢
 have k45:=fun K=>WCl_eq (K:=K) (c45 0 3 1 1 0 X (by omega) (by omega) (by omega) (by omega) (by omega))
 have hG:=gs_new hv 0 3 1 1
 obtain ⟨g,hg⟩:∃ g:Giv,g=⟨0,3,1,1,0,0,false⟩:=⟨_,rfl⟩
 obtain ⟨H1,hH1⟩:∃ H1,H1=X++[curB 3 .nilsl [],givB g X.length .nilsl]:=⟨_,rfl⟩
 rw [← hg,← hH1] at k45 hG
 simp [k45]
 have hK0:keysS (emptyS 9) 3=[]:=by simp [keysS,emptyS,sortS]
 have gn:0≤g.now∧g.now < 100000000000:=by rw [hg];decide
 have gq:0≤g.seq∧g.seq < 100000000000:=by rw [hg];decide
 have gp:0≤g.part:=by rw [hg];decide
 refine WCl.mono (gs_tick hG (by simp) gn gq gp ok0 (by simp [emptyS])) ?_
 rintro r H2 ⟨l1,told,l',ms,tp,h2,hM,fr⟩
 have gpe:g.part=3:=by rw [hg]
 rw [gpe,hK0] at tp h2
 rw [tells_none rfl] at tp h2
 have e1:l1=[]:=tp.p1.eq_nil
 have e2:told=[]:=by simpa [toldP] using tp.tolds
 have e3:l'=[]:=by
  have:=tp.p2
  rw [e1,e2] at this
  exact this.eq_nil
 have hd:doneB ([]:List OutM) [] [] []=true:=rfl
 have hms:=tp.msgs
 rw [e1,e3,hd] at hms
 obtain ⟨m1,rfl,hm1⟩:=map_one (show ms.map MsgM.p=[endP] from hms)
 rw [e3,hd] at h2
 have hi:0 < [m1].length:=by simp
 obtain ⟨b,q1,q2,q3⟩:=hM.at hi (k:=.i64)
 have q1':idxSlAV 62 (I 0) r=some (.ptr (some (b,0))):=by simpa using q1
 have hf:m1.kind=7:=by have:=congrArg Prod.fst hm1;exact this
 have hmo:msgOf g m1=msgG 7 0 1 m1.seq 3 1 m1.key m1.known (oneR m1.r):=by rw [hg];unfold msgOf;rw [hf]
 obtain ⟨c0,d0,f0⟩:=q3 [] 0 1 (by omega)
 obtain ⟨c6,d6,f6⟩:=q3 [] 6 1 (by omega)
 obtain ⟨c2,d2,f2⟩:=q3 [] 2 1 (by omega)
 rw [List.append_nil] at d0 d6 d2
 have l0:loadAt H2 none (.ptr (some (b,0)))=some (I 7):=by
  simp only [List.getElem_cons_zero,Nat.zero_mul,Nat.zero_add] at f0
  simp only [loadAt,d0,Option.bind_some,Option.getD_none,f0,hmo]
  rfl
 have l6:loadAt H2 none (.ptr (some (b,6)))=some (I 3):=by
  simp only [List.getElem_cons_zero,Nat.zero_mul,Nat.zero_add] at f6
  simp only [loadAt,d6,Option.bind_some,Option.getD_none,f6,hmo]
  rfl
 have l2:loadAt H2 none (.ptr (some (b,2)))=some (I 1):=by
  simp only [List.getElem_cons_zero,Nat.zero_mul,Nat.zero_add] at f2
  simp only [loadAt,d2,Option.bind_some,Option.getD_none,f2,hmo]
  rfl
 have hlen:=hM.row.len
 have hz:msgG 8 1 0 0 3 1 [] zeroV .nilsl=[I 8,I 1,I 0,I 0,I 0,I 0,I 3,I 1,.str [],I 0,I 0,I 0,I 0,I 0,I 0,I 0,I 0,.nilsl,I 0,I 0,I 0,I 0,I 0,I 0,I 0,I 0,I 0,I 0,.nilsl,I 0,I 0,I 0,I 0,I 0,I 0,I 0,I 0,I 0,I 0,I 0,I 0,I 0,I 0,I 0,I 0,I 0,I 0,I 0,I 0,I 0,I 0,I 0,I 0,I 0,I 0,I 0,I 0,I 0,I 0,I 0,I 0,.nilsl]:=hard rfl
 simp [hlen,q1',l0,l6,l2,-load_ptr]
 rw [← hz]
 have bf:(emptyS 9).bags.length < 1000000000:=by simp [emptyS]
 refine WCl.mono (gs_ended h2 bf (show 0≤(tickG g 0 true).part from gp) rfl) ?_
 rintro _ _ ⟨rfl,Y,rfl⟩
 have hd2:doneB ([]:List OutM) (keysS (emptyS 9) (tickG g 0 true).part) [] []=true:=by
  have:(tickG g 0 true).part=3:=gpe
  rw [this,hK0]
  rfl
 have ho:ofB (tickG g 0 true) 8 1 0 3 1 8=true:=by rw [hg];rfl
 have he:(tickG g 0 true).ends=true:=by rw [hg];rfl
 rw [show ([]:List (List UInt8)).length=0 from rfl,hd2,ho,he]
 simp
theorem k43 {H:Heap} {K:AV→Heap→Prop}:wPu envE 43 (some []) H K=K (.bool true) H:=(wPu_eq wake43).trans (by simp)
end Go.Proofs.YtgbnbgkldeifkaaGreatA

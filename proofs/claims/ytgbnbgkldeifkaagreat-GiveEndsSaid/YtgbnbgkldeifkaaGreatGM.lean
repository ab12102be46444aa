/- A giver's messages: New, message, of, the closure of Got, over. No statement about the program is proved here. -/
import Derived.Test.YtgbnbgkldeifkaaGreatGP
namespace Go.Proofs.YtgbnbgkldeifkaaGreatA
open Go
set_option linter.unusedSimpArgs false
set_option linter.unusedVariables false
set_option maxRecDepth 1000000
def msgT:List AV:=[I 0,I 0,I 0,I 0,I 0,I 0,I 0,I 0,I 0,I 0,.nilsl,I 0,I 0,I 0,I 0,I 0,I 0,I 0,I 0,I 0,I 0,I 0,I 0,I 0,I 0,I 0,I 0,I 0,I 0,I 0,I 0,I 0,I 0,I 0,I 0,I 0,I 0,I 0,I 0,I 0,I 0,I 0,I 0,.nilsl]
def msgG (k a b seq part ep:Int) (key:List UInt8) (kn:Nat→Int) (r:AV):List AV:=I k :: I a :: I b :: I seq :: I 0 :: I 0 :: I part :: I ep :: .str key :: (bagV kn r++msgT)
theorem msgG_len {k a b seq part ep:Int} {key:List UInt8} {kn:Nat→Int} {r:AV}:(msgG k a b seq part ep key kn r).length=62:=hard rfl
theorem msg_zero:[I 0,I 0,I 0,I 0,I 0,I 0,I 0,I 0,.str [],I 0,I 0,I 0,I 0,I 0,I 0,I 0,I 0,.nilsl,I 0,I 0,I 0,I 0,I 0,I 0,I 0,I 0,I 0,I 0,.nilsl,I 0,I 0,I 0,I 0,I 0,I 0,I 0,I 0,I 0,I 0,I 0,I 0,I 0,I 0,I 0,I 0,I 0,I 0,I 0,I 0,I 0,I 0,I 0,I 0,I 0,I 0,I 0,I 0,I 0,I 0,I 0,I 0,.nilsl]=msgG 0 0 0 0 0 0 [] zeroV .nilsl:=hard rfl
theorem msgG_one {k a b seq part ep:Int} {key:List UInt8} {kn:Nat→Int} {r:AV} (h:AV.one r=true):(msgG k a b seq part ep key kn r).all AV.one=true:=by
 unfold msgG
 simp only [List.all_cons,List.all_append,bagV_one,h]
 rfl
section
variable {H:Heap} {gb cb:Nat} {g:Giv} {v:AV} {k a b seq part ep:Int} {key:List UInt8} {kn:Nat→Int} {r:AV}
theorem c97 (n:Int):Pu envE 97 [I n] (.bool (decide (0≤n) && decide (n < 8))):=by
 refine pu_is e97 rfl ?_
 rw [fr_init (by simp [fd97])]
 by_cases h:0≤n
 · simp [fd97,b97,h]
 · simp [fd97,b97,h]
@[simp] theorem k97 {n:Int} {H:Heap} {K:AV→Heap→Prop}:wPu envE 97 (some [I n]) H K=K (.bool (decide (0≤n) && decide (n < 8))) H:=(wPu_eq (c97 n)).trans (by simp)
theorem c45 (self part epoch to:Int) (lim:Nat) (H:Heap) (h1:0≤self∧self < 8) (h2:0≤to∧to < 8) (h3:self ≠ to) (h4:0≤part∧part < 16) (h5:1≤epoch∧epoch≤1000000) :
 Cl envE 45 [I self,I part,I epoch,I to] lim H (.ptr (some (H.length + 1,0))) (H++[curB part .nilsl [],givB ⟨self,part,epoch,to,0,0,false⟩ H.length .nilsl]):=by
 refine cl_is e45 rfl ?_
 have k26:=fun K=>WCl_eq (K:=K) (c26 part lim H h4.1 h4.2)
 have n1:¬ epoch < 1:=by omega
 have n2:¬ 1000000 < epoch:=by omega
 rw [fr_init (by simp [fd45])]
 simp [fd45,b45,k26,h1,h2,h3,n1,n2,givB,givV]
theorem c101 (h:H[gb]?=some (givB g cb v)) (k:Int) (lim:Nat) (hl:lim≤H.length) :
 Cl envE 101 [.ptr (some (gb,0)),I k] lim H (.agg (msgG k g.self g.to 0 g.part g.epoch [] zeroV .nilsl)) (H++[.cells false (msgG k g.self g.to 0 g.part g.epoch [] zeroV .nilsl)]):=by
 refine cl_is e101 rfl ?_
 have hb:∀ X,Heap.cells? (H++X) gb=some (givV g cb v):=fun X=>cells_of (get_app h)
 have hl2:lim≤H.length + 1:=by omega
 rw [fr_init (by simp [fd101])]
 simp [fd101,b101,hb,givV,shapeOf,hl,hl2]
 rfl
def ofB (g:Giv) (k a b part ep kind:Int):Bool:=decide (k=kind) && decide (a=g.to) && decide (b=g.self) && decide (part=g.part) && decide (ep=g.epoch)
theorem c103 (h:H[gb]?=some (givB g cb v)) (hr:AV.one r=true) (kind:Int) (lim:Nat) (hl:lim≤H.length) :
 Cl envE 103 [.ptr (some (gb,0)),.agg (msgG k a b seq part ep key kn r),I kind] lim H (.bool (ofB g k a b part ep kind)) (H++[.cells false (msgG k a b seq part ep key kn r)]):=by
 refine cl_is e103 rfl ?_
 have hone:(∀ x:AV,x ∈ msgG k a b seq part ep key kn r→x.one=true)=True:=eq_true (List.all_eq_true.1 (msgG_one hr))
 obtain ⟨H1,hH1⟩:∃ H1,H1=H++[ABlk.cells false (msgG k a b seq part ep key kn r)]:=⟨_,rfl⟩
 have hb:Heap.cells? H1 gb=some (givV g cb v):=by rw [hH1];exact cells_of (get_app h)
 have hm:Heap.cells? H1 H.length=some (msgG k a b seq part ep key kn r):=by rw [hH1];simp [Heap.cells?]
 have l1:H1.length=H.length + 1:=by rw [hH1];simp
 have e0:cut (msgG k a b seq part ep key kn r) 0 1=some [I k]:=hard rfl
 have e1:cut (msgG k a b seq part ep key kn r) 1 1=some [I a]:=hard rfl
 have e2:cut (msgG k a b seq part ep key kn r) 2 1=some [I b]:=hard rfl
 have e6:cut (msgG k a b seq part ep key kn r) 6 1=some [I part]:=hard rfl
 have e7:cut (msgG k a b seq part ep key kn r) 7 1=some [I ep]:=hard rfl
 have hl2:lim≤H.length + 1:=by omega
 rw [fr_init (by simp [fd103])]
 by_cases h0:k=kind
 · subst h0
   by_cases h1:a=g.to
   · subst h1
     by_cases h2:b=g.self
     · subst h2
       by_cases h3:part=g.part
       · subst h3
         simp [fd103,b103,ofB,hone,← hH1,l1,hb,hm,e0,e1,e2,e6,e7,givV,shapeOf,hl,hl2]
         rw [Bool.eq_iff_iff]
         simp
       · simp [fd103,b103,ofB,hone,← hH1,l1,hb,hm,e0,e1,e2,e6,e7,givV,shapeOf,hl,hl2,h3]
     · simp [fd103,b103,ofB,hone,← hH1,l1,hb,hm,e0,e1,e2,e6,e7,givV,shapeOf,hl,hl2,h2]
   · simp [fd103,b103,ofB,hone,← hH1,l1,hb,hm,e0,e1,e2,e6,e7,givV,shapeOf,hl,hl2,h1]
 · simp [fd103,b103,ofB,hone,← hH1,l1,hb,hm,e0,e1,e2,e6,e7,givV,shapeOf,hl,hl2,h0]
variable {o:OutM} {vals:List Val}
def sameO (o:OutM) (seq:Int) (key:List UInt8) (kn:Nat→Int) (vals:List Val):Bool:=decide (o.seq=seq) && decide (o.key=key) && bagSame o.known o.vals kn vals
theorem c105 {mb:Nat} (hm:H[mb]?=some (.cells false (msgG k a b seq part ep key kn r))) (ho:Row 0 H 3 valC o.vals o.r) (hr:Row 0 H 3 valC vals r) (few:o.vals.length≤4398046511104) (lim:Nat) :
 WCl envE 105 [.agg (outC o),.ptr (some (mb,0))] lim H fun q H'=>q=.bool (sameO o seq key kn vals)∧H'=H++[.cells false (outC o)]:=by
 refine cl_of e105 rfl ?_
 have oone:(∀ x:AV,x ∈ outC o→x.one=true)=True:=eq_true (List.all_eq_true.1 (outV_one ho.one))
 obtain ⟨H1,hH1⟩:∃ H1,H1=H++[ABlk.cells false (outC o)]:=⟨_,rfl⟩
 have hc:Heap.cells? H1 H.length=some (outC o):=by rw [hH1];simp [Heap.cells?]
 have hb:Heap.cells? H1 mb=some (msgG k a b seq part ep key kn r):=by rw [hH1];exact cells_of (get_app hm)
 have ho1:Row 0 H1 3 valC o.vals o.r:=by rw [hH1];exact ho.app
 have hr1:Row 0 H1 3 valC vals r:=by rw [hH1];exact hr.app
 have f1:frz H1 11 o.r=some (roL valC o.vals):=ho1.frz (d:=9) valC_len val_flat
 have f2:frz H1 11 r=some (roL valC vals):=hr1.frz (d:=9) valC_len val_flat
 have e0:cut (outC o) 0 1=some [I o.seq]:=hard rfl
 have e1:cut (outC o) 1 1=some [.str o.key]:=hard rfl
 have e2:cut (outC o) 2 9=some (bagV o.known o.r):=hard rfl
 have d3:cut (msgG k a b seq part ep key kn r) 3 1=some [I seq]:=hard rfl
 have d8:cut (msgG k a b seq part ep key kn r) 8 1=some [.str key]:=hard rfl
 have d9:cut (msgG k a b seq part ep key kn r) 9 9=some (bagV kn r):=hard rfl
 have k25':=fun H' K'=>k25 (k:=o.known) (k':=kn) (l:=o.vals) (l':=vals) (H:=H') (K:=K') (by omega)
 rw [fr_init (by simp [fd105])]
 by_cases h0:o.seq=seq
 · subst h0
   by_cases h1:o.key=key
   · subst h1
     simp [fd105,b105,sameO,oone,← hH1,hc,hb,e0,e1,e2,d3,d8,d9,shapeOf,f1,f2,k25']
   · simp [fd105,b105,sameO,oone,← hH1,hc,hb,e0,e1,e2,d3,d8,d9,shapeOf,f1,f2,k25',h1]
 · simp [fd105,b105,sameO,oone,← hH1,hc,hb,e0,e1,e2,d3,d8,d9,shapeOf,f1,f2,k25',h0]
theorem giv_len {l:List OutM} (h:OPileV H gb g cb l v):lenSlAV v=some (I l.length):=by
 cases h <;> rfl
theorem giv_at {l:List OutM} (h:OPileV H gb g cb l v) {i:Nat} (hi:i < l.length) {k:IntKind}:∃ p,idxSlAV 12 (.int k (i:Int)) v=some p∧∀ X,loadAt (H++X) (some 12) p=some (.agg (outC l[i])):=by
 cases h with
 | nil _=>exact absurd hi (by simp)
 | @sl b _ R q =>
  refine ⟨.ptr (some (b,0 + i * 12)),idxSl_sl hi,fun X=>?_⟩
  have:=(q.app (X:=X)).at hi
  simpa using this
theorem c104 {l:List OutM} {mb:Nat} (h:OPileV H gb g cb l v) (hrows:Rows H l) (hm:H[mb]?=some (.cells false (msgG k a b seq part ep key kn r))) (hr:Row 0 H 3 valC vals r) (few:∀ o ∈ l,o.vals.length≤4398046511104) (lfew:l.length < 1000000000000) (lim:Nat) :
 WCl envE 104 [v,.fn (.func 105) [] [.ptr (some (mb,0))]] lim H fun q H'=>(∃ X,H'=H++X)∧((q=I (-1)∧∀ o ∈ l,sameO o seq key kn vals=false)∨∃ (i:Nat) (hi:i < l.length),q=I i∧sameO l[i] seq key kn vals=true):=by
 refine cl_of e104 rfl ?_
 rw [fr_init (by simp [fd104])]
 simp [fd104,b104,giv_len h]
 refine loop_go [0,1,7,8] rfl (fun m vs H'=>(∃ X,H'=H++X)∧∃ i,m + i=l.length∧(∀ k (h:k < l.length),k < i→sameO l[k] seq key kn vals=false)∧vs=[v,.fn (.func 105) [] [.ptr (some (mb,0))],I l.length,I i]) ?_ l.length ⟨⟨[],by simp⟩,0,rfl,fun k _ q=>by omega,rfl⟩
 rintro J hJ m vs H' f ⟨⟨X,rfl⟩,i,hm2,hno,rfl⟩
 by_cases hi:i < l.length
 · have hw:=wrap_succ (i:=i) (by omega)
   obtain ⟨p,hp1,hp2⟩:=giv_at h hi (k:=.i64)
   have hmem:=List.getElem_mem hi
   have hc:=c105 (o:=l[i]) (get_app (X:=X) hm) ((hrows _ hmem).app (X:=X)) (hr.app (X:=X)) (few _ hmem) lim
   simp [lp104_0,hi,hp1,hp2]
   refine WCl.mono hc ?_
   rintro _ _ ⟨rfl,rfl⟩
   by_cases hs:sameO l[i] seq key kn vals=true
   · simp [hs]
     exact ⟨i,rfl,hi,hs⟩
   · have hs':sameO l[i] seq key kn vals=false:=by simpa using hs
     simp [hs',hw]
     refine nxt hJ (m - 1) (by omega) ⟨⟨X++[.cells false (outC l[i])],by simp⟩,i + 1,by omega,fun k h hk=>?_,rfl⟩
     by_cases q:k=i
     · subst q;exact hs'
     · exact hno k h (by omega)
 · simp [lp104_0,hi]
   intro o ho
   obtain ⟨k,hk,rfl⟩:=List.getElem_of_mem ho
   exact hno k hk (by omega)
theorem OPileV.rows {l:List OutM} (h:OPileV H gb g cb l v):Rows H l:=by
 cases h with
 | nil _=>exact fun o ho=>absurd ho (by simp)
 | sl q=>exact q.rows
theorem c49 {l:List OutM} (h:OPileV H gb g cb l v) (hp:HeapN oLess l l.length) (hr:Row 0 H 3 valC vals r) (few:∀ o ∈ l,o.vals.length≤4398046511104) (lfew:l.length < 1000000000000) :
 WCl envE 49 [.ptr (some (gb,0)),.agg (msgG k a b seq part ep key kn r)] 0 H fun q H' =>
  (q=.bool false∧(ofB g k a b part ep 6=false∨∀ o ∈ l,sameO o seq key kn vals=false)∧∃ X,H'=H++X) ∨
  (q=.bool true∧ofB g k a b part ep 6=true∧∃ o l' v',sameO o seq key kn vals=true∧(o :: l').Perm l∧HeapN oLess l' l'.length∧OPileV H' gb g cb l' v'∧FrV H H' gb v v'):=by
 refine cl_of e49 rfl ?_
 have hone:(∀ x:AV,x ∈ msgG k a b seq part ep key kn r→x.one=true)=True:=eq_true (List.all_eq_true.1 (msgG_one hr.one))
 obtain ⟨H1,hH1⟩:∃ H1,H1=H++[ABlk.cells false (msgG k a b seq part ep key kn r)]:=⟨_,rfl⟩
 have hm:H1[H.length]?=some (.cells false (msgG k a b seq part ep key kn r)):=by rw [hH1];simp
 have l1:H1.length=H.length + 1:=by rw [hH1];simp
 have hld:loadAt H1 (some 62) (.ptr (some (H.length,0)))=some (.agg (msgG k a b seq part ep key kn r)):=by
  have:cut (msgG k a b seq part ep key kn r) 0 62=some (msgG k a b seq part ep key kn r):=hard rfl
  simp only [loadAt,cells_of hm,Option.bind_some,Option.getD_some,this,shapeOf]
 have h1:OPileV H1 gb g cb l v:=by rw [hH1];exact h.app
 have k103:=fun K=>WCl_eq (K:=K) (c103 (k:=k) (a:=a) (b:=b) (seq:=seq) (part:=part) (ep:=ep) (key:=key) (kn:=kn) h1.box hr.one 6 0 (Nat.zero_le _))
 rw [fr_init (by simp [fd49])]
 cases hof:ofB g k a b part ep 6 with
 | false =>
  rw [hof] at k103
  simp [fd49,b49,hone,← hH1,hld,k103,-load_ptr]
  exact ⟨_,by rw [hH1,List.append_assoc]⟩
 | true =>
  rw [hof] at k103
  obtain ⟨H2,hH2⟩:∃ H2,H2=H1++[ABlk.cells false (msgG k a b seq part ep key kn r)]:=⟨_,rfl⟩
  have h2:OPileV H2 gb g cb l v:=by rw [hH2];exact h1.app
  have hm2:H2[H.length]?=some (.cells false (msgG k a b seq part ep key kn r)):=by rw [hH2];exact get_app hm
  have hr2:Row 0 H2 3 valC vals r:=by rw [hH2,hH1];exact hr.app.app
  have hld2:=giv_load h2.box
  simp [fd49,b49,hone,← hH1,hld,k103,← hH2,hld2,-load_ptr]
  refine WCl.mono (c104 h2 h2.rows hm2 hr2 few lfew 0) ?_
  rintro _ _ ⟨⟨X,rfl⟩,⟨rfl,hno⟩ | ⟨i,hi,rfl,hs⟩⟩
  · simp [-load_ptr]
    exact ⟨hno,_,by rw [hH2,hH1,List.append_assoc,List.append_assoc]⟩
  · have n0:¬ (i:Int) < 0:=by omega
    have h3:OPileV (H2++X) gb g cb l v:=h2.app
    have e3:H2++X=H++([ABlk.cells false (msgG k a b seq part ep key kn r),ABlk.cells false (msgG k a b seq part ep key kn r)]++X):=by rw [hH2,hH1];simp
    obtain ⟨H3,hH3⟩:∃ H3,H3=H2++X:=⟨_,rfl⟩
    rw [← hH3] at h3 e3 ⊢
    cases h3 with
    | nil _=>exact absurd hi (by simp)
    | @sl b2 _ R h4 =>
     simp [n0,-load_ptr]
     refine WCl.mono (c106 h4 hp hi) ?_
     rintro _ H4 ⟨rfl,l',R',hperm,hheap,h5,hfr⟩
     simp [-load_ptr]
     refine ⟨l[i],hs,l',hperm,hheap,_,.sl h5,?_,fun c z hz hc ho=>hfr.2 c z (by rw [e3];exact get_app hz) hc ho,fun c hc ho=>?_⟩
     · have:=hfr.1
       rw [e3] at this
       simp at this
       omega
     · exact Off.sl fun e=>ho 0 l.length 12 (by rw [e])
end
end Go.Proofs.YtgbnbgkldeifkaaGreatA

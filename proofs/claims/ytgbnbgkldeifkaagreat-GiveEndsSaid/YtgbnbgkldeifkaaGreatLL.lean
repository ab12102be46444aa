/- What Same and May of plans, rings, entries and deeds answer. What May of rings and deeds answers, and copies of deeds. Ledgers in memory: what New, Len, Sure, Room, Sync, Write, Crash and All do. Ledgers in memory: rows of deeds. Ledgers in memory: what New, Len, Sure, Room, Sync, Write, Crash and All do. Deeds of one number; what is always run. Whose part a key is. A ring joined with itself: a ring that shares nothing with it. No statement about the program is proved here. -/
import Derived.Test.YtgbnbgkldeifkaaGreatSP
import Derived.Test.YtgbnbgkldeifkaaGreatCC
namespace Go.Proofs.YtgbnbgkldeifkaaGreatA
open Go
set_option linter.unusedSimpArgs false
set_option maxRecDepth 1000000
attribute [local simp] deed_zero ring_zero bagV_zero
def planSame (p q:Plan):Bool:=decide (p.version=q.version∧p.by'=q.by'∧p.targets=q.targets)
def ringSame (r s:Ring):Bool:=vecEq r.status s.status && (prtEq r.epoch r.owner s.epoch s.owner && planSame r.plan s.plan)
def bagSameB (a b:Bag):Bool:=bagSame a.known a.vals b.known b.vals
def deedSame (a b:Deed):Bool:=decide (a.kind=b.kind) && (decide (a.n=b.n) && (decide (a.key=b.key) && (decide (a.part=b.part) && (bagSameB a.bag b.bag && ringSame a.ring b.ring))))
def entMay (e o:Int):Bool:=decide (e=0∧o=0) || (decide (1≤e) && (decide (e≤1000000) && nodeOk o))
def fullT (l:List Int):Bool:=decide (l.length=16) && l.all nodeOk
def planMay (p:Plan):Bool:=if p.targets=[] then decide (p.version=0∧p.by'=0) else decide (1≤p.version) && (decide (p.version≤1000000) && (nodeOk p.by' && fullT p.targets))
def statMay (k:Nat→Int):Bool:=(List.range 8).all fun i=>decide (0≤k i) && decide (k i≤4)
def partsMay (ep ow:Nat→Int):Bool:=(List.range 16).all fun i=>entMay (ep i) (ow i)
def ringMay (r:Ring):Bool:=statMay r.status && (planMay r.plan && partsMay r.epoch r.owner)
def zBagS:Bag:=⟨zeroV,[]⟩
def zRingS:Ring:=⟨zeroV,⟨0,0,[]⟩,zeroV,zeroV⟩
def withinB (n m:Int):Bool:=decide (0≤n) && decide (n≤m)
theorem int_load {l:List Int} {i:Nat} (hi:i < l.length) {H:Heap}:loadAt H none (.tp ((l.flatMap intC).drop i))=some (I l[i]):=by
 have:=load_roL1 (f:=intC) (g:=I) (fun _=>rfl) hi (H:=H)
 rwa [Nat.mul_one] at this
theorem c214 (a b:List Int) (hl:a.length < 4611686018427387904):∃ n:Int,Pu envE 214 [roL intC a,roL intC b] (I n)∧(n=0 ↔ a=b):=by
 suffices h:∃ d,Pu envE 214 [roL intC a,roL intC b] d∧∃ n:Int,d=I n∧(n=0 ↔ a=b) by
  obtain ⟨d,h1,n,rfl,h2⟩:=h
  exact ⟨n,h1,h2⟩
 refine pu_ex e214 rfl ?_
 rw [fr_init (by simp [fd214])]
 simp [fd214,b214]
 refine loop_go [0,1,9,10,11] rfl (fun m vs H=>∃ i,m + i=a.length∧(∀ j (hj:j < a.length) (hj2:j < b.length),j < i→a[j]=b[j])∧i≤b.length∧vs=[roL intC a,roL intC b,roL intC a,I a.length,I i]) ?_ a.length ⟨0,rfl,by omega,by omega,rfl⟩
 rintro J hJ m vs H f ⟨i,hm,hall,hib,rfl⟩
 by_cases hi:i < a.length
 · have hw:=wrap_succ (i:=i) (by omega)
   have h1:=int_load hi (H:=H)
   by_cases hb:b.length≤i
   · have hne:¬ a=b:=fun e=>by rw [e] at hi;omega
     have hb':(b.length:Int)≤i:=by omega
     simp [lp214_0,hi,hw,idxSl_roL hi,h1,hb,hne,-load_tp]
   · have hb2:i < b.length:=by omega
     have hb':¬ (b.length:Int)≤i:=by omega
     have h2:=int_load hb2 (H:=H)
     by_cases hq:cmpI a[i] b[i]=0
     · have hq2:=cmpI_zero.1 hq
       simp [lp214_0,hi,hw,idxSl_roL hi,idxSl_roL hb2,h1,h2,hb,hq,-load_tp]
       exact nxt hJ (m - 1) (by omega) ⟨i + 1,by omega,fun j hj hj2 hji=>by
        rcases Nat.lt_or_ge j i with q | q
        · exact hall j hj hj2 q
        · obtain rfl:j=i:=by omega
          exact hq2,by omega,rfl⟩
     · have hne:¬ a=b:=fun e=>hq (cmpI_zero.2 (by subst e;rfl))
       simp [lp214_0,hi,hw,idxSl_roL hi,idxSl_roL hb2,h1,h2,hb,hq,hne,-load_tp]
 · by_cases hlt:a.length < b.length
   · have hne:¬ a=b:=fun e=>by rw [e] at hlt;omega
     simp [lp214_0,hi,hlt,hne]
   · have heq:a=b:=List.ext_getElem (by omega) fun j h1 h2=>hall j h1 h2 (by omega)
     simp [lp214_0,hi,hlt,heq]
     simp [← heq,hi]
theorem orL_zero:∀ {l:List Int},orL l=0 ↔ ∀ x ∈ l,x=0
 | []=>by simp [orL]
 | a :: l=>by
  unfold orL
  by_cases h:a=0
  · simp [h,orL_zero]
  · simp [h]
theorem c185 (p q:Plan) (hl:p.targets.length < 4611686018427387904):∃ n:Int,Pu envE 185 [.agg (planV p.version p.by' (roL intC p.targets)),.agg (planV q.version q.by' (roL intC q.targets))] (I n)∧(n=0 ↔ planSame p q=true):=by
 obtain ⟨n,h1,h2⟩:=c214 p.targets q.targets hl
 refine ⟨orL [cmpI p.version q.version,cmpI p.by' q.by',cmpI p.targets.length q.targets.length,n],?_,?_⟩
 · refine pu_is e185 rfl ?_
   rw [fr_init (by simp [fd185])]
   simp [fd185,b185,wPu_eq h1,frz_sl]
 · rw [orL_zero]
   simp only [List.mem_cons,List.not_mem_nil,or_false,forall_eq_or_imp,forall_eq,cmpI_zero,h2,planSame,decide_eq_true_eq]
   constructor
   · rintro ⟨a,b,_,d⟩;exact ⟨a,b,d⟩
   · rintro ⟨a,b,d⟩;exact ⟨a,b,by rw [d],d⟩
theorem c229 (p q:Plan) (hl:p.targets.length < 4611686018427387904):Pu envE 229 [.agg (planV p.version p.by' (roL intC p.targets)),.agg (planV q.version q.by' (roL intC q.targets))] (.bool (planSame p q)):=by
 obtain ⟨n,h1,h2⟩:=c185 p q hl
 refine pu_is e229 rfl ?_
 rw [fr_init (by simp [fd229])]
 have e:(n == 0)=planSame p q:=by
  rw [Bool.eq_iff_iff,beq_iff_eq]
  exact h2
 simp [fd229,b229,wPu_eq h1,e]
@[simp] theorem k229 {v1 b1 v2 b2:Int} {t1 t2:List Int} {H:Heap} {K:AV→Heap→Prop} (hl:t1.length < 4611686018427387904):wPu envE 229 (some [.agg (planV v1 b1 (roL intC t1)),.agg (planV v2 b2 (roL intC t2))]) H K=K (.bool (planSame ⟨v1,b1,t1⟩ ⟨v2,b2,t2⟩)) H:=(wPu_eq (c229 ⟨v1,b1,t1⟩ ⟨v2,b2,t2⟩ hl)).trans (by simp)
theorem c215 (r s:Ring) (hl:r.plan.targets.length < 4611686018427387904):Pu envE 215 [.agg (ringC r),.agg (ringC s)] (.bool (ringSame r s)):=by
 refine pu_is e215 rfl ?_
 rw [fr_init (by simp [fd215])]
 by_cases h1:vecEq r.status s.status=true
 · by_cases h2:prtEq r.epoch r.owner s.epoch s.owner=true
   · simp [fd215,b215,h1,h2,hl,ringSame]
   · simp [fd215,b215,h1,h2,ringSame]
 · simp [fd215,b215,h1,ringSame]
@[simp] theorem k215 {s1 e1 o1 s2 e2 o2:Nat→Int} {v1 b1 v2 b2:Int} {t1 t2:List Int} {H:Heap} {K:AV→Heap→Prop} (hl:t1.length < 4611686018427387904):wPu envE 215 (some [.agg (ringV s1 v1 b1 (roL intC t1) e1 o1),.agg (ringV s2 v2 b2 (roL intC t2) e2 o2)]) H K=K (.bool (ringSame ⟨s1,⟨v1,b1,t1⟩,e1,o1⟩ ⟨s2,⟨v2,b2,t2⟩,e2,o2⟩)) H:=(wPu_eq (c215 ⟨s1,⟨v1,b1,t1⟩,e1,o1⟩ ⟨s2,⟨v2,b2,t2⟩,e2,o2⟩ hl)).trans (by simp)
theorem c188 (a b:Deed) (hl:a.bag.vals.length < 4611686018427387904) (hl2:a.ring.plan.targets.length < 4611686018427387904):Pu envE 188 [.agg (deedC a),.agg (deedC b)] (.bool (deedSame a b)):=by
 refine pu_is e188 rfl ?_
 rw [fr_init (by simp [fd188])]
 by_cases h1:a.kind=b.kind
 case neg=>simp [fd188,b188,h1,deedSame]
 by_cases h2:a.n=b.n
 case neg=>simp [fd188,b188,h1,h2,deedSame]
 by_cases h3:a.key=b.key
 case neg=>simp [fd188,b188,h1,h2,h3,deedSame]
 by_cases h4:a.part=b.part
 case neg=>simp [fd188,b188,h1,h2,h3,h4,deedSame]
 have h5:bagSame a.bag.known a.bag.vals b.bag.known b.bag.vals=bagSameB a.bag b.bag:=rfl
 by_cases h6:bagSameB a.bag b.bag=true
 · simp [fd188,b188,h1,h2,h3,h4,hl,hl2,h5,h6,deedSame]
 · simp [fd188,b188,h1,h2,h3,h4,hl,hl2,h5,h6,deedSame]
theorem c230 (n:Int):Pu envE 230 [I n] (.bool (nodeOk n)):=by
 refine pu_is e230 rfl ?_
 rw [fr_init (by simp [fd230])]
 by_cases h:0≤n <;> simp [fd230,b230,h,nodeOk]
@[simp] theorem k230 {n:Int} {H:Heap} {K:AV→Heap→Prop}:wPu envE 230 (some [I n]) H K=K (.bool (nodeOk n)) H:=(wPu_eq (c230 n)).trans (by simp)
theorem c231 (n:Int):Pu envE 231 [I n] (.bool (nodeOk n)):=by
 refine pu_is e231 rfl ?_
 rw [fr_init (by simp [fd231])]
 by_cases h:0≤n <;> simp [fd231,b231,h,nodeOk]
@[simp] theorem k231 {n:Int} {H:Heap} {K:AV→Heap→Prop}:wPu envE 231 (some [I n]) H K=K (.bool (nodeOk n)) H:=(wPu_eq (c231 n)).trans (by simp)
theorem c190 (n m:Int):Pu envE 190 [I n,I m] (.bool (withinB n m)):=by
 refine pu_is e190 rfl ?_
 rw [fr_init (by simp [fd190])]
 by_cases h:0≤n <;> simp [fd190,b190,h,withinB]
@[simp] theorem k190 {n m:Int} {H:Heap} {K:AV→Heap→Prop}:wPu envE 190 (some [I n,I m]) H K=K (.bool (withinB n m)) H:=(wPu_eq (c190 n m)).trans (by simp)
theorem eq_row2 {a b c d:Int}:eqRow [.i,.i] [I a,I b] [I c,I d]=some (decide (a=c∧b=d)):=by
 simp only [eqRow,eqCell,if_true,Option.bind_some]
 by_cases h:a=c <;> by_cases h2:b=d <;> simp [h,h2]
theorem c216 (e o:Int):Pu envE 216 [.agg [I e,I o]] (.bool (entMay e o)):=by
 refine pu_is e216 rfl ?_
 rw [fr_init (by simp [fd216])]
 by_cases h0:e=0∧o=0
 · obtain ⟨rfl,rfl⟩:=h0
   simp [fd216,b216,eq_row2,entMay]
 by_cases h1:1≤e
 case neg=>simp [fd216,b216,eq_row2,entMay,h0,h1]
 by_cases h2:e≤1000000 <;> simp [fd216,b216,eq_row2,entMay,h0,h1,h2]
@[simp] theorem k216 {e o:Int} {H:Heap} {K:AV→Heap→Prop}:wPu envE 216 (some [.agg [I e,I o]]) H K=K (.bool (entMay e o)) H:=(wPu_eq (c216 e o)).trans (by simp)
theorem c238 (x:Int) (lim:Nat) (H:Heap):Cl envE 238 [I x] lim H (.bool (!nodeOk x)) H:=by
 refine cl_is e238 rfl ?_
 rw [fr_init (by simp [fd238])]
 simp [fd238,b238]
@[simp] theorem k238 {x:Int} {lim:Nat} {H:Heap} {K:AV→Heap→Prop}:WCl envE 238 [I x] lim H K=K (.bool (!nodeOk x)) H:=WCl_eq (c238 x lim H)
theorem c240 (l:List Int) (hl:l.length < 4611686018427387904) (lim:Nat) (H:Heap):WCl envE 240 [roL intC l,.fn (.func 238) [] []] lim H fun r H'=>H'=H∧∃ n:Int,r=I n∧(decide (0≤n)=!l.all nodeOk):=by
 refine cl_of e240 rfl ?_
 rw [fr_init (by simp [fd240])]
 simp [fd240,b240]
 refine loop_go [0,1,7,8] rfl (fun m vs H'=>∃ i,m + i=l.length∧(∀ j (hj:j < l.length),j < i→nodeOk l[j]=true)∧H'=H∧vs=[roL intC l,.fn (.func 238) [] [],I l.length,I i]) ?_ l.length ⟨0,rfl,by omega,rfl,rfl⟩
 rintro J hJ m vs H' b ⟨i,hm,hall,rfl,rfl⟩
 by_cases hi:i < l.length
 · have hw:=wrap_succ (i:=i) (by omega)
   have hld:=int_load hi (H:=H')
   by_cases hn:nodeOk l[i]=true
   · simp [lp240_0,hi,idxSl_roL hi,hld,hw,hn,-load_tp]
     exact nxt hJ (m - 1) (by omega) ⟨i + 1,by omega,fun j hj hji=>by
      rcases Nat.lt_or_ge j i with q | q
      · exact hall j hj q
      · obtain rfl:j=i:=by omega
        exact hn,rfl,rfl⟩
   · have e:l.all nodeOk=false:=by
      rw [List.all_eq_false]
      exact ⟨l[i],List.getElem_mem _,hn⟩
     simp [lp240_0,hi,idxSl_roL hi,hld,hw,hn,e,-load_tp]
 · have e:l.all nodeOk=true:=by
    rw [List.all_eq_true]
    intro x hx
    obtain ⟨j,hj,rfl⟩:=List.mem_iff_getElem.1 hx
    exact hall j hj (by omega)
   simp [lp240_0,hi,e]
theorem c237 (l:List Int) (hl:l.length < 4611686018427387904) (lim:Nat) (H:Heap):Cl envE 237 [roL intC l,.fn (.func 238) [] []] lim H (.bool (!l.all nodeOk)) H:=by
 refine cl_is e237 rfl ?_
 rw [fr_init (by simp [fd237])]
 simp [fd237,b237]
 refine WCl.mono (c240 l hl _ _) ?_
 rintro _ _ ⟨rfl,n,rfl,e⟩
 simp [e]
@[simp] theorem k237 {l:List Int} {lim:Nat} {H:Heap} {K:AV→Heap→Prop} (hl:l.length < 4611686018427387904):WCl envE 237 [roL intC l,.fn (.func 238) [] []] lim H K=K (.bool (!l.all nodeOk)) H:=WCl_eq (c237 l hl lim H)
theorem c232 (l:List Int) (hl:l.length < 4611686018427387904):Pu envE 232 [roL intC l] (.bool (fullT l)):=by
 refine pu_is e232 rfl ?_
 rw [fr_init (by simp [fd232])]
 by_cases h:(l.length:Int)=16
 · have h':l.length=16:=by omega
   simp [fd232,b232,h,h',hl,fullT]
 · have h':¬ l.length=16:=by omega
   simp [fd232,b232,h,h',hl,fullT]
@[simp] theorem k232 {l:List Int} {H:Heap} {K:AV→Heap→Prop} (hl:l.length < 4611686018427387904):wPu envE 232 (some [roL intC l]) H K=K (.bool (fullT l)) H:=(wPu_eq (c232 l hl)).trans (by simp)
theorem c217 (p:Plan) (hl:p.targets.length < 4611686018427387904):Pu envE 217 [.agg (planC p)] (.bool (planMay p)):=by
 refine pu_is e217 rfl ?_
 rw [fr_init (by simp [fd217])]
 by_cases h0:p.targets=[]
 · by_cases h1:p.version=0 <;> simp [fd217,b217,h0,h1,planMay]
   by_cases h2:p.by'=0 <;> simp [h2]
 have h0':¬ (p.targets.length:Int)=0:=by
  have:=List.length_pos_iff.2 h0
  omega
 by_cases h1:1≤p.version
 case neg=>simp [fd217,b217,h0,h0',h1,planMay]
 by_cases h2:p.version≤1000000
 case neg=>simp [fd217,b217,h0,h0',h1,h2,planMay]
 by_cases h3:nodeOk p.by'=true <;> simp [fd217,b217,h0,h0',h1,h2,h3,hl,planMay]
@[simp] theorem k217 {v b:Int} {t:List Int} {H:Heap} {K:AV→Heap→Prop} (hl:t.length < 4611686018427387904):wPu envE 217 (some [.agg (planV v b (roL intC t))]) H K=K (.bool (planMay ⟨v,b,t⟩)) H:=(wPu_eq (c217 ⟨v,b,t⟩ hl)).trans (by simp)
end Go.Proofs.YtgbnbgkldeifkaaGreatA
namespace Go.Proofs.YtgbnbgkldeifkaaGreatA
open Go
set_option linter.unusedSimpArgs false
set_option maxRecDepth 1000000
attribute [local simp] deed_zero
theorem c219 (e o:Int) (lim:Nat) (H:Heap) (p:Nat) (hp:H.cells? p=some [.fn (.func 216) [] []]):Cl envE 219 [.agg [I e,I o],.ptr (some (p,0))] lim H (.bool (!entMay e o)) (H++[.cells false [I e,I o]]):=by
 refine cl_is e219 rfl ?_
 rw [fr_init (by simp [fd219])]
 have h2:=cells_app (X:=[.cells false [I e,I o]]) hp
 simp [fd219,b219,h2]
theorem c233 (lim:Nat) (H:Heap) (b p:Nat) (st ep ow:Nat→Int) (ver by':Int) (r:AV) (hb:H.cells? b=some (ringV st ver by' r ep ow)) (hp:H.cells? p=some [.fn (.func 216) [] []]) :
 WCl envE 233 [.sl b 11 16 2,.fn (.func 219) [] [.ptr (some (p,0))]] lim H fun r H'=>(∃ X,H'=H++X)∧∃ n:Int,r=I n∧(decide (0≤n)=!partsMay ep ow):=by
 refine cl_of e233 rfl ?_
 rw [fr_init (by simp [fd233])]
 simp [fd233,b233]
 refine loop_go [0,1,7,8] rfl (fun m vs H'=>∃ i X,m + i=16∧(∀ j,j < i→entMay (ep j) (ow j)=true)∧H'=H++X∧vs=[.sl b 11 16 2,.fn (.func 219) [] [.ptr (some (p,0))],I 16,I i]) ?_ 16 ⟨0,[],rfl,by omega,by simp,rfl⟩
 rintro J hJ m vs H' f ⟨i,X,hm,hall,rfl,rfl⟩
 by_cases hi:i < 16
 · have hw:=wrap_succ (i:=i) (by omega)
   have hi':(i:Int) < 16:=by omega
   have hb2:=cells_app (X:=X) hb
   have hp2:=cells_app (X:=X) hp
   have hc:=ringV_part (st:=st) (ver:=ver) (by':=by') (r:=r) (ep:=ep) (ow:=ow) hi
   have hcall:∀ K,WCl envE 219 [.agg [I (ep i),I (ow i)],.ptr (some (p,0))] lim (H++X) K=K (.bool (!entMay (ep i) (ow i))) (H++X++[.cells false [I (ep i),I (ow i)]]):=fun K=>WCl_eq (c219 _ _ _ _ _ hp2)
   by_cases hn:entMay (ep i) (ow i)=true
   · simp [lp233_0,hi',idxSl_sl hi,hb2,hc,hcall,hn,hw]
     exact nxt hJ (m - 1) (by omega) ⟨i + 1,_,by omega,fun j hji=>by
      rcases Nat.lt_or_ge j i with q | q
      · exact hall j q
      · obtain rfl:j=i:=by omega
        exact hn,rfl,rfl⟩
   · have e:partsMay ep ow=false:=by
      rw [Bool.eq_false_iff]
      intro q
      simp only [partsMay,List.all_eq_true,List.mem_range] at q
      exact hn (q i hi)
     simp [lp233_0,hi',idxSl_sl hi,hb2,hc,hcall,hn,e]
 · have hi':¬ (i:Int) < 16:=by omega
   have e:partsMay ep ow=true:=by
    simp only [partsMay,List.all_eq_true,List.mem_range]
    exact fun j hj=>hall j (by omega)
   simp [lp233_0,hi',e]
theorem c218 (lim:Nat) (H:Heap) (b p:Nat) (st ep ow:Nat→Int) (ver by':Int) (r:AV) (hb:H.cells? b=some (ringV st ver by' r ep ow)) (hp:H.cells? p=some [.fn (.func 216) [] []]) :
 WCl envE 218 [.sl b 11 16 2,.fn (.func 219) [] [.ptr (some (p,0))]] lim H fun r H'=>(∃ X,H'=H++X)∧r=.bool (!partsMay ep ow):=by
 refine cl_of e218 rfl ?_
 rw [fr_init (by simp [fd218])]
 simp [fd218,b218]
 refine WCl.mono (c233 _ _ b p st ep ow ver by' r hb hp) ?_
 rintro _ _ ⟨⟨X,rfl⟩,n,rfl,e⟩
 simp [e]
theorem c191 (r:Ring) (hl:r.plan.targets.length < 4611686018427387904):Pu envE 191 [.agg (ringC r)] (.bool (ringMay r)):=by
 refine pu_is e191 rfl ?_
 rw [fr_init (by simp [fd191])]
 simp [fd191,b191]
 refine loop_go [1,7,8] rfl (fun m vs H=>∃ i,m + i=8∧(∀ j,j < i→0≤r.status j∧r.status j≤4)∧H=[.cells false (ringV r.status r.plan.version r.plan.by' (roL intC r.plan.targets) r.epoch r.owner)]∧vs=[.ptr (some (0,0)),.agg (vecC r.status),I i]) ?_ 8 ⟨0,rfl,by omega,rfl,rfl⟩
 rintro J hJ m vs H b ⟨i,hm,hall,rfl,rfl⟩
 have bad:∀ j,j < 8→¬ (0≤r.status j∧r.status j≤4)→ringMay r=false:=fun j hj q=>by
  have:statMay r.status=false:=by
   rw [Bool.eq_false_iff]
   intro p
   simp only [statMay,List.all_eq_true,List.mem_range,Bool.and_eq_true,decide_eq_true_eq] at p
   exact q (p j hj)
  simp [ringMay,this]
 by_cases hi:i < 8
 · have hw:=wrap_succ (i:=i) (by omega)
   have hi':(i:Int) < 8:=by omega
   by_cases h1:r.status i < 0
   · simp [lp191_0,hi,hi',h1,bad i hi (by omega)]
   · by_cases h2:4 < r.status i
     · simp [lp191_0,hi,hi',h1,h2,bad i hi (by omega)]
     · simp [lp191_0,hi,hi',h1,h2,hw]
       exact nxt hJ (m - 1) (by omega) ⟨i + 1,by omega,fun j hji=>by
        rcases Nat.lt_or_ge j i with q | q
        · exact hall j q
        · obtain rfl:j=i:=by omega
          omega,rfl,rfl⟩
 · have hi':¬ (i:Int) < 8:=by omega
   have hs:statMay r.status=true:=by
    simp only [statMay,List.all_eq_true,List.mem_range,Bool.and_eq_true,decide_eq_true_eq]
    exact fun j hj=>hall j (by omega)
   by_cases hp:planMay ⟨r.plan.version,r.plan.by',r.plan.targets⟩=true
   · have hp':planMay r.plan=true:=hp
     simp [lp191_0,hi',hl,hp]
     refine WCl.mono (c218 _ _ 0 1 r.status r.epoch r.owner r.plan.version r.plan.by' (roL intC r.plan.targets) rfl rfl) ?_
     rintro _ _ ⟨⟨X,rfl⟩,rfl⟩
     simp [ringMay,hs,hp']
   · have hp':planMay r.plan=false:=by simpa using hp
     simp [lp191_0,hi',hl,hp,ringMay,hs,hp']
@[simp] theorem k191 {st ep ow:Nat→Int} {v b:Int} {t:List Int} {H:Heap} {K:AV→Heap→Prop} (hl:t.length < 4611686018427387904):wPu envE 191 (some [.agg (ringV st v b (roL intC t) ep ow)]) H K=K (.bool (ringMay ⟨st,⟨v,b,t⟩,ep,ow⟩)) H:=(wPu_eq (c191 ⟨st,⟨v,b,t⟩,ep,ow⟩ hl)).trans (by simp)
def namedD (d:Deed):Deed :=
 if d.kind=1 then ⟨1,d.n,[],zBagS,zRingS,0⟩
 else if d.kind=2 then ⟨2,0,[],zBagS,d.ring,0⟩
 else if d.kind=3 then ⟨3,d.n,d.key,d.bag,zRingS,0⟩
 else if d.kind=4 then ⟨4,0,[],zBagS,zRingS,d.part⟩
 else ⟨0,0,[],zBagS,zRingS,0⟩
def namedC (d:Deed):List AV :=
 if d.kind=1 then deedV 1 d.n [] zeroV .nilsl zeroV 0 0 .nilsl zeroV zeroV 0
 else if d.kind=2 then deedV 2 0 [] zeroV .nilsl d.ring.status d.ring.plan.version d.ring.plan.by' (roL intC d.ring.plan.targets) d.ring.epoch d.ring.owner 0
 else if d.kind=3 then deedV 3 d.n d.key d.bag.known (roL valC d.bag.vals) zeroV 0 0 .nilsl zeroV zeroV 0
 else if d.kind=4 then deedV 4 0 [] zeroV .nilsl zeroV 0 0 .nilsl zeroV zeroV d.part
 else deedV 0 0 [] zeroV .nilsl zeroV 0 0 .nilsl zeroV zeroV 0
theorem c189 (d:Deed) (lim:Nat) (H:Heap) (hl:lim≤H.length):Cl envE 189 [.agg (deedC d)] lim H (.agg (namedC d)) (H++[.cells false (deedC d),.cells false (namedC d)]):=by
 have hl2:lim≤H.length + 1:=by omega
 refine cl_is e189 rfl ?_
 rw [fr_init (by simp [fd189])]
 by_cases h1:d.kind=1
 · simp [fd189,b189,h1,namedC,hl,hl2]
 by_cases h2:d.kind=2
 · simp [fd189,b189,h2,namedC,hl,hl2]
 by_cases h3:d.kind=3
 · simp [fd189,b189,h3,namedC,hl,hl2]
 by_cases h4:d.kind=4
 · simp [fd189,b189,h4,namedC,hl,hl2]
 simp [fd189,b189,h1,h2,h3,h4,namedC,hl,hl2]
theorem namedC_frz {d:Deed} {H:Heap} {n:Nat}:mapO (frz H (n + 1)) (namedC d)=some (deedC (namedD d)):=by
 unfold namedC namedD
 have r0:frz H (n + 1) .nilsl=some (roL intC []):=rfl
 have r1:frz H (n + 1) .nilsl=some (roL valC []):=rfl
 split
 · rw [deedV_frz r1 r0];rfl
 · split
   · rw [deedV_frz r1 frz_roL];rfl
   · split
     · rw [deedV_frz frz_roL r0];rfl
     · split
       · rw [deedV_frz r1 r0];rfl
       · rw [deedV_frz r1 r0];rfl
def deedMay (d:Deed):Bool :=
 deedSame d (namedD d) && (if d.kind=1 then withinB d.n 1000000 else if d.kind=2 then ringMay d.ring else if d.kind=3 then keyOk d.key && (bagMay d.bag.known d.bag.vals && withinB d.n 1000000) else if d.kind=4 then withinB d.part 15 else false)
theorem c151 (d:Deed) (hl:d.bag.vals.length < 4611686018427387904) (hl2:d.ring.plan.targets.length < 4611686018427387904) (hk:d.key.length < 4611686018427387904):Pu envE 151 [.agg (deedC d)] (.bool (deedMay d)):=by
 refine pu_is e151 rfl ?_
 rw [fr_init (by simp [fd151])]
 have hcall:∀ lim H K,lim≤H.length→WCl envE 189 [.agg (deedC d)] lim H K=K (.agg (namedC d)) (H++[.cells false (deedC d),.cells false (namedC d)]):=fun lim H K h=>WCl_eq (c189 d lim H h)
 simp only [deedC_eq] at hcall
 have hfz:∀ H,mapO (frz H 11) (namedC d)=some (deedC (namedD d)):=fun H=>namedC_frz (n:=10)
 have hs:∀ H K,wPu envE 188 (some [.agg (deedC d),.agg (deedC (namedD d))]) H K=K (.bool (deedSame d (namedD d))) H:=fun H K=>(wPu_eq (c188 d (namedD d) hl hl2)).trans (by simp)
 simp only [deedC_eq] at hs hfz
 have hfd:∀ H,mapO (frz H 11) (deedV d.kind d.n d.key d.bag.known (roL valC d.bag.vals) d.ring.status d.ring.plan.version d.ring.plan.by' (roL intC d.ring.plan.targets) d.ring.epoch d.ring.owner d.part)=some (deedV d.kind d.n d.key d.bag.known (roL valC d.bag.vals) d.ring.status d.ring.plan.version d.ring.plan.by' (roL intC d.ring.plan.targets) d.ring.epoch d.ring.owner d.part):=fun H=>deedV_frz (d:=10) frz_roL frz_roL
 cases hq:deedSame d (namedD d)
 · simp [fd151,b151,hcall,hfz,hfd,hs,hq,deedMay]
 by_cases h1:d.kind=1
 · rw [h1] at hcall hfd hs
   simp [fd151,b151,hcall,hfz,hfd,hs,hq,deedMay,h1]
 by_cases h2:d.kind=2
 · rw [h2] at hcall hfd hs
   simp [fd151,b151,hcall,hfz,hfd,hs,hq,deedMay,h2,hl2]
 by_cases h3:d.kind=3
 · rw [h3] at hcall hfd hs
   have hw:IntKind.i64.wrap ((d.key.length:Int) - 1)=(d.key.length:Int) - 1:=by rw [wrap_i64] <;> omega
   have he:withinB ((d.key.length:Int) - 1) 31=keyOk d.key:=by
    unfold withinB keyOk
    congr 1 <;> exact decide_eq_decide.2 (by omega)
   by_cases h5:keyOk d.key=true
   · by_cases h6:bagMay d.bag.known d.bag.vals=true
     · simp [fd151,b151,hcall,hfz,hfd,hs,hq,deedMay,h3,hl,hw,he,h5,h6]
     · simp [fd151,b151,hcall,hfz,hfd,hs,hq,deedMay,h3,hl,hw,he,h5,h6]
   · simp [fd151,b151,hcall,hfz,hfd,hs,hq,deedMay,h3,hl,hw,he,h5]
 by_cases h4:d.kind=4
 · rw [h4] at hcall hfd hs
   simp [fd151,b151,hcall,hfz,hfd,hs,hq,deedMay,h4]
 simp [fd151,b151,hcall,hfz,hfd,hs,hq,deedMay,h1,h2,h3,h4]
end Go.Proofs.YtgbnbgkldeifkaaGreatA
namespace Go.Proofs.YtgbnbgkldeifkaaGreatA
open Go
set_option linter.unusedSimpArgs false
set_option maxRecDepth 1000000
attribute [local simp] deed_zero
theorem e123:envE.fn 123=some (.prim (cloneG 3 32)):=rfl
theorem e150:envE.fn 150=some (.prim (cloneG 1 8)):=rfl
theorem clone_ro {α:Type} {es bytes lim:Nat} {f:α→List AV} {H:Heap} {l:List α} (hl:∀ x,(f x).length=es) (hes:0 < es) (h1:∀ x,(f x).all AV.one=true) (hb:l.length * bytes≤most) (hb2:l.length≤most) (_hlim:lim≤H.length) :
 ∃ v X,cloneG es bytes [roL f l] lim H=some (v,H++X)∧Row H.length (H++X) es f l v:=by
 have hel:elems H es (roL f l)=some (l.length,l.flatMap f):=by
  simp only [elems,roL,flatMap_len hl,if_true]
 by_cases e:l=[]
 · subst e
   refine ⟨.nilsl,[],?_,.inl ⟨rfl,rfl⟩⟩
   simp only [cloneG,appendAV,hel,Option.bind_some,List.length_nil,if_true,List.append_nil]
 · have hm:l.length ≠ 0:=fun q=>e (List.length_eq_zero_iff.1 q)
   have hone:(l.flatMap f).all AV.one=true:=by
    rw [List.all_flatMap]
    exact List.all_eq_true.2 fun x _=>h1 x
   refine ⟨.sl H.length 0 l.length es,[.cells true (l.flatMap f)],?_,.inr ⟨e,_,Nat.le_refl _,rfl,by simp⟩⟩
   simp only [cloneG,appendAV,hel,Option.bind_some,hm,if_false]
   rw [if_pos ⟨hb,hb2,hes,hone⟩]
theorem noTwo_of:∀ {u w:List Nat},noTwo u=true→noTwo w=true→(∀ b ∈ u,¬ b ∈ w)→noTwo (u++w)=true
 | [],w,_,h,_=>by simpa using h
 | x :: u,w,h,k,q=>by
  simp only [noTwo,Bool.and_eq_true,Bool.not_eq_true',List.cons_append] at h ⊢
  refine ⟨?_,noTwo_of h.2 k fun b hb=>q b (.tail _ hb)⟩
  have h1:=h.1
  rw [Bool.eq_false_iff] at h1 ⊢
  simp only [Ne,List.contains_iff_mem,List.mem_append,not_or] at h1 ⊢
  exact ⟨h1,q x (.head _)⟩
def deedO (d:Deed):List AV:=deedV d.kind d.n d.key d.bag.known (owL 3 valC d.bag.vals) d.ring.status d.ring.plan.version d.ring.plan.by' (owL 1 intC d.ring.plan.targets) d.ring.epoch d.ring.owner d.part
theorem intC_one (n:Int):(intC n).all AV.one=true:=hard rfl
def deedFits (d:Deed):Prop:=d.bag.vals.length * 32≤reachBytes∧d.ring.plan.targets.length * 8≤reachBytes
theorem c113 (d:Deed) (hf:deedFits d):Pu envE 113 [.agg (deedC d)] (.agg (deedO d)):=by
 have hr:reachBytes=140737488351232:=rfl
 obtain ⟨f1,f2⟩:=hf
 refine pu_is e113 rfl ?_
 rw [fr_init (by simp [fd113])]
 obtain ⟨v1,X1,q1,r1⟩:=clone_ro (lim:=0) (bytes:=32) (H:=[.cells false (deedC d),.cells false (deedV 0 0 [] zeroV .nilsl zeroV 0 0 .nilsl zeroV zeroV 0)]) (l:=d.bag.vals) valC_len (by omega) valC_one (by simp only [most];omega) (by simp only [most];omega) (by simp)
 have hc1:∀ K,WCl envE 123 [roL valC d.bag.vals] 0 [.cells false (deedC d),.cells false (deedV 0 0 [] zeroV .nilsl zeroV 0 0 .nilsl zeroV zeroV 0)] K=K v1 ([.cells false (deedC d),.cells false (deedV 0 0 [] zeroV .nilsl zeroV 0 0 .nilsl zeroV zeroV 0)]++X1):=fun K=>WCl_eq (cl_prim e123 q1)
 have hset:(deedV d.kind d.n d.key d.bag.known v1 d.ring.status d.ring.plan.version d.ring.plan.by' (roL intC d.ring.plan.targets) d.ring.epoch d.ring.owner d.part).all AV.one=true:=by simp [r1.one]
 obtain ⟨v2,X2,q2,r2⟩:=clone_ro (lim:=0) (bytes:=8) (H:=.cells false (deedV d.kind d.n d.key d.bag.known v1 d.ring.status d.ring.plan.version d.ring.plan.by' (roL intC d.ring.plan.targets) d.ring.epoch d.ring.owner d.part) :: .cells false (deedV 0 0 [] zeroV .nilsl zeroV 0 0 .nilsl zeroV zeroV 0) :: X1) (l:=d.ring.plan.targets) (es:=1) intC_len (by omega) intC_one (by simp only [most];omega) (by simp only [most];omega) (by simp)
 have hc2:∀ K,WCl envE 150 [roL intC d.ring.plan.targets] 0 (.cells false (deedV d.kind d.n d.key d.bag.known v1 d.ring.status d.ring.plan.version d.ring.plan.by' (roL intC d.ring.plan.targets) d.ring.epoch d.ring.owner d.part) :: .cells false (deedV 0 0 [] zeroV .nilsl zeroV 0 0 .nilsl zeroV zeroV 0) :: X1) K=K v2 (.cells false (deedV d.kind d.n d.key d.bag.known v1 d.ring.status d.ring.plan.version d.ring.plan.by' (roL intC d.ring.plan.targets) d.ring.epoch d.ring.owner d.part) :: .cells false (deedV 0 0 [] zeroV .nilsl zeroV 0 0 .nilsl zeroV zeroV 0) :: (X1++X2)):=fun K=>WCl_eq (cl_prim e150 q2)
 have r1':Row 2 (.cells false (deedV d.kind d.n d.key d.bag.known v1 d.ring.status d.ring.plan.version d.ring.plan.by' v2 d.ring.epoch d.ring.owner d.part) :: .cells false (deedV d.kind d.n d.key d.bag.known v1 d.ring.status d.ring.plan.version d.ring.plan.by' v2 d.ring.epoch d.ring.owner d.part) :: (X1++X2)) 3 valC d.bag.vals v1:=by
  have a:=((r1.set (b:=0) (z:=.cells false (deedV d.kind d.n d.key d.bag.known v1 d.ring.status d.ring.plan.version d.ring.plan.by' v2 d.ring.epoch d.ring.owner d.part)) (r1.off (by simp))).set (b:=1) (z:=.cells false (deedV d.kind d.n d.key d.bag.known v1 d.ring.status d.ring.plan.version d.ring.plan.by' v2 d.ring.epoch d.ring.owner d.part)) (r1.off (by simp))).app (X:=X2)
  exact a
 have r2':Row (X1.length + 2) (.cells false (deedV d.kind d.n d.key d.bag.known v1 d.ring.status d.ring.plan.version d.ring.plan.by' v2 d.ring.epoch d.ring.owner d.part) :: .cells false (deedV d.kind d.n d.key d.bag.known v1 d.ring.status d.ring.plan.version d.ring.plan.by' v2 d.ring.epoch d.ring.owner d.part) :: (X1++X2)) 1 intC d.ring.plan.targets v2:=by
  have a:=(r2.set (b:=0) (z:=.cells false (deedV d.kind d.n d.key d.bag.known v1 d.ring.status d.ring.plan.version d.ring.plan.by' v2 d.ring.epoch d.ring.owner d.part)) (r2.off (by simp))).set (b:=1) (z:=.cells false (deedV d.kind d.n d.key d.bag.known v1 d.ring.status d.ring.plan.version d.ring.plan.by' v2 d.ring.epoch d.ring.owner d.part)) (r2.off (by simp))
  exact a
 obtain ⟨u1,o1,n1,m1⟩:=r1'.own (d:=9) valC_len (by omega) val_plain
 obtain ⟨u2,o2,n2,m2⟩:=r2'.own (d:=9) intC_len (by omega) int_plain
 have hdis:noTwo (u1++u2)=true:=noTwo_of n1 n2 fun b hb hb2=>by
  obtain ⟨_,o,n,s,e⟩:=m1 b hb
  exact (r1.off_ge (c:=b) (by simpa using (m2 b hb2).1)) o n s e
 have hown:=deedV_own (kd:=d.kind) (n:=d.n) (key:=d.key) (k:=d.bag.known) (st:=d.ring.status) (ver:=d.ring.plan.version) (by':=d.ring.plan.by') (ep:=d.ring.epoch) (ow:=d.ring.owner) (part:=d.part) o1 o2
 simp only [deedC_eq] at hc1
 simp only [List.cons_append,List.nil_append] at hc1
 simp [fd113,b113,hc1,hc2,r1.cells,r1.one,r2.cells,r2.one,hown,hdis,deedO]
end Go.Proofs.YtgbnbgkldeifkaaGreatA
namespace Go.Proofs.YtgbnbgkldeifkaaGreatA
open Go
set_option linter.unusedSimpArgs false
set_option linter.unusedVariables false
set_option maxRecDepth 1000000
def deedM (d:Deed) (v1 v2:AV):List AV:=deedV d.kind d.n d.key d.bag.known v1 d.ring.status d.ring.plan.version d.ring.plan.by' v2 d.ring.epoch d.ring.owner d.part
def DCell (lim c:Nat) (H:Heap) (cs:List AV) (d:Deed):Prop:=∃ v1 v2,cs=deedM d v1 v2∧Row lim H 3 valC d.bag.vals v1∧Row lim H 1 intC d.ring.plan.targets v2∧Off v1 c∧Off v2 c
def DRow (lim:Nat) (H:Heap) (ds:List Deed) (v:AV):Prop :=
 (ds=[]∧v=.nilsl)∨∃ c cs,lim≤c∧v=.sl c 0 ds.length 56∧H[c]?=some (.cells true cs)∧ds.length * 56≤cs.length∧∀ i (hi:i < ds.length),DCell lim c H ((cs.drop (i * 56)).take 56) ds[i]
theorem Row.setF {α:Type} {lim es b:Nat} {f:α→List AV} {l:List α} {H:Heap} {v:AV} {y:List AV} {z:ABlk} (h:Row lim H es f l v) (hb:H[b]?=some (.cells false y)):Row lim (H.set b z) es f l v:=by
 refine h.set fun o n s e=>?_
 rcases h with ⟨rfl,rfl⟩ | ⟨ne,c,g1,rfl,g3⟩
 · cases e
 · cases e
   rw [g3] at hb
   cases hb
theorem Row.keep {α:Type} {lim es:Nat} {f:α→List AV} {l:List α} {H H':Heap} {v:AV} (h:Row lim H es f l v) (hk:∀ (b:Nat) (y:List AV),H[b]?=some (.cells true y)→¬ Off v b→H'[b]?=some (.cells true y)):Row lim H' es f l v:=by
 rcases h with h | ⟨ne,c,g1,rfl,g3⟩
 · exact .inl h
 · exact .inr ⟨ne,c,g1,rfl,hk c _ g3 fun q=>q 0 l.length es rfl⟩
theorem Row.ge {α:Type} {lim es b:Nat} {f:α→List AV} {l:List α} {H:Heap} {v:AV} (h:Row lim H es f l v) (ho:¬ Off v b):lim≤b:=by
 rcases Nat.lt_or_ge b lim with q | q
 · exact absurd (h.off q) ho
 · exact q
theorem deedM_len {d:Deed} {v1 v2:AV}:(deedM d v1 v2).length=56:=hard rfl
theorem deedM_one {d:Deed} {v1 v2:AV} (h1:AV.one v1=true) (h2:AV.one v2=true):(deedM d v1 v2).all AV.one=true:=by simp [deedM,h1,h2]
section
variable {lim:Nat} {H X:Heap} {ds:List Deed} {v:AV}
theorem DRow.nil:DRow lim H [] .nilsl:=.inl ⟨rfl,rfl⟩
theorem DRow.len (h:DRow lim H ds v):lenSlAV v=some (.int .i64 ds.length):=by
 rcases h with ⟨rfl,rfl⟩ | ⟨c,cs,h0,rfl,h1,h2,h3⟩ <;> rfl
theorem DRow.one (h:DRow lim H ds v):AV.one v=true:=by
 rcases h with ⟨rfl,rfl⟩ | ⟨c,cs,h0,rfl,h1,h2,h3⟩ <;> rfl
theorem DRow.cells (h:DRow lim H ds v):AV.cells v=[v]:=by
 rcases h with ⟨rfl,rfl⟩ | ⟨c,cs,h0,rfl,h1,h2,h3⟩ <;> rfl
theorem DCell.app {c:Nat} {cs:List AV} {d:Deed} (h:DCell lim c H cs d):DCell lim c (H++X) cs d:=by
 obtain ⟨v1,v2,e,r1,r2,o1,o2⟩:=h
 exact ⟨v1,v2,e,r1.app,r2.app,o1,o2⟩
theorem DRow.app (h:DRow lim H ds v):DRow lim (H++X) ds v:=by
 rcases h with h | ⟨c,cs,h0,h1,h2,h3,h4⟩
 · exact .inl h
 · exact .inr ⟨c,cs,h0,h1,get_app h2,h3,fun i hi=>(h4 i hi).app⟩
theorem DRow.mono {lim':Nat} (h:DRow lim H ds v) (hl:lim'≤lim):DRow lim' H ds v:=by
 rcases h with h | ⟨c,cs,h0,h1,h2,h3,h4⟩
 · exact .inl h
 · refine .inr ⟨c,cs,by omega,h1,h2,h3,fun i hi=>?_⟩
   obtain ⟨v1,v2,e,r1,r2,o1,o2⟩:=h4 i hi
   exact ⟨v1,v2,e,r1.mono hl,r2.mono hl,o1,o2⟩
theorem DRow.keep {H':Heap} (h:DRow lim H ds v) (hk:∀ (b:Nat) (y:List AV),lim≤b→H[b]?=some (.cells true y)→H'[b]?=some (.cells true y)):DRow lim H' ds v:=by
 rcases h with h | ⟨c,cs,h0,h1,h2,h3,h4⟩
 · exact .inl h
 · refine .inr ⟨c,cs,h0,h1,hk _ _ h0 h2,h3,fun i hi=>?_⟩
   obtain ⟨v1,v2,e,r1,r2,o1,o2⟩:=h4 i hi
   exact ⟨v1,v2,e,r1.keep fun b y q ho=>hk b y (r1.ge ho) q,r2.keep fun b y q ho=>hk b y (r2.ge ho) q,o1,o2⟩
theorem DRow.setF {b:Nat} {y:List AV} {z:ABlk} (h:DRow lim H ds v) (hb:H[b]?=some (.cells false y)):DRow lim (H.set b z) ds v:=by
 refine h.keep fun k y2 _ q=>get_set q fun e=>?_
 subst e
 rw [hb] at q
 cases q
theorem DRow.off (h:DRow lim H ds v) {b:Nat} {y:List AV} (hb:H[b]?=some (.cells false y)):Off v b:=by
 rcases h with ⟨rfl,rfl⟩ | ⟨c,cs,h0,rfl,h1,h2,h3⟩
 · exact Off.nil
 · refine Off.sl fun e=>?_
   subst e
   rw [hb] at h1
   cases h1
theorem DRow.off_ge {b:Nat} (h:DRow lim H ds v) (hb:H.length≤b):Off v b:=by
 rcases h with ⟨rfl,rfl⟩ | ⟨c,cs,h0,rfl,h1,h2,h3⟩
 · exact Off.nil
 · have:=lt_of h1
   exact Off.sl (by omega)
theorem DRow.off_lt {b:Nat} (h:DRow lim H ds v) (hb:b < lim):Off v b:=by
 rcases h with ⟨rfl,rfl⟩ | ⟨c,cs,h0,rfl,h1,h2,h3⟩
 · exact Off.nil
 · exact Off.sl (by omega)
theorem DRow.at {i:Nat} {k:IntKind} (h:DRow lim H ds v) (hi:i < ds.length):idxSlAV 56 (.int k (i:Int)) v=some (ptrAt v i 56):=by
 rcases h with ⟨rfl,rfl⟩ | ⟨c,cs,h0,rfl,h1,h2,h3⟩
 · exact absurd hi (by simp)
 · exact idxSl_sl hi
theorem DRow.load {i:Nat} (h:DRow lim H ds v) (hi:i < ds.length):∃ v1 v2,loadAt H (some 56) (ptrAt v i 56)=some (.agg (deedM ds[i] v1 v2))∧Row lim H 3 valC ds[i].bag.vals v1∧Row lim H 1 intC ds[i].ring.plan.targets v2:=by
 rcases h with ⟨rfl,rfl⟩ | ⟨c,cs,h0,rfl,h1,h2,h3⟩
 · exact absurd hi (by simp)
 · obtain ⟨v1,v2,e,r1,r2,_,_⟩:=h3 i hi
   refine ⟨v1,v2,?_,r1,r2⟩
   have:(i + 1) * 56≤ds.length * 56:=Nat.mul_le_mul_right _ hi
   simp only [ptrAt,loadAt,cells_of h1,Option.bind_some,Option.getD_some,Nat.zero_add]
   rw [cut_at (by omega),e]
   rfl
theorem take_row {cs:List AV} {i:Nat}:cs.take ((i + 1) * 56)=cs.take (i * 56)++(cs.drop (i * 56)).take 56:=by
 rw [Nat.succ_mul,List.take_add]
theorem DRow.frz {n:Nat} (h:DRow lim H ds v):frz H (n + 3) v=some (roL deedC ds):=by
 rcases h with ⟨rfl,rfl⟩ | ⟨c,cs,h0,rfl,h1,h2,h3⟩
 · rfl
 · have key:∀ i,i≤ds.length→mapO (Go.Proofs.YtgbnbgkldeifkaaGreatA.frz H (n + 2)) (cs.take (i * 56))=some ((ds.take i).flatMap deedC):=by
    intro i
    induction i with
    | zero=>intro _;simp [mapO]
    | succ i ih =>
     intro hi
     obtain ⟨v1,v2,e,r1,r2,_,_⟩:=h3 i hi
     rw [take_row,List.take_succ_eq_append_getElem hi,List.flatMap_append,e]
     refine mapO_app (ih (by omega)) ?_
     have:=deedV_frz (kd:=ds[i].kind) (n:=ds[i].n) (key:=ds[i].key) (k:=ds[i].bag.known) (st:=ds[i].ring.status) (ver:=ds[i].ring.plan.version) (by':=ds[i].ring.plan.by') (ep:=ds[i].ring.epoch) (ow:=ds[i].ring.owner) (part:=ds[i].part) (d:=n + 1) (r1.frz (d:=n) valC_len val_flat) (r2.frz (d:=n) intC_len int_flat)
     have e3:([ds[i]]:List Deed).flatMap deedC=deedC ds[i]:=by simp
     rw [e3]
     exact this
   by_cases e:ds.length=0
   · have e2:=List.length_eq_zero_iff.1 e
     subst e2
     rfl
   · unfold Go.Proofs.YtgbnbgkldeifkaaGreatA.frz
     simp only [e,if_false,cells_of h1,Option.bind_some]
     rw [cut_at (by omega),List.drop_zero]
     simp only [Option.bind_some,key ds.length (Nat.le_refl _),List.take_length,Option.map_some]
     rfl
theorem DRow.push {lim2 k:Nat} {d:Deed} {v1 v2:AV} (h:DRow lim H ds v) (hk:H[k]?=some (.cells true (deedM d v1 v2))) (r1:Row lim H 3 valC d.bag.vals v1) (r2:Row lim H 1 intC d.ring.plan.targets v2) (o1:∀ c,¬ Off v c→Off v1 c∧Off v2 c)
 (hlim:lim≤H.length) (hb:(ds.length + 1) * 488≤most) (hlim2:lim2≤lim) :
 ∃ v' H',appendAV lim2 H 56 488 v (.sl k 0 1 56)=some (v',H')∧DRow lim H' (ds++[d]) v'∧H.length≤H'.length∧(∀ (b:Nat) (z:ABlk),H[b]?=some z→Off v b→H'[b]?=some z)∧(∀ c,c < H.length→Off v' c)∧∀ P Y,H=P++Y→(∀ c,c < P.length→Off v c)→∃ Y',H'=P++Y':=by
 have hel:elems H 56 (.sl k 0 1 56)=some (1,deedM d v1 v2):=by
  simp only [elems,if_true,cells_of hk,Option.bind_some,Nat.one_mul]
  rw [cut_all deedM_len]
  rfl
 have hone:(deedM d v1 v2).all AV.one=true:=deedM_one r1.one r2.one
 have hb2:ds.length + 1≤most:=by omega
 rcases h with ⟨rfl,rfl⟩ | ⟨c,cs,h0,rfl,h1,h2,h3⟩
 · refine ⟨.sl H.length 0 1 56,H++[ABlk.cells true (deedM d v1 v2)],?_,.inr ⟨H.length,deedM d v1 v2,hlim,rfl,by simp,by simp [deedM_len],fun i hi=>?_⟩,by simp,fun b z hz _=>get_app hz,fun c hc=>Off.sl (by omega),fun P Y e _=>⟨Y++[ABlk.cells true (deedM d v1 v2)],by rw [e,List.append_assoc]⟩⟩
   · simp only [List.length_nil,Nat.zero_add] at hb hb2
     simp only [appendAV,hel,Option.bind_some,Nat.one_ne_zero,if_false]
     rw [if_pos ⟨hb,hb2,by omega,hone⟩]
   · obtain rfl:i=0:=by simp at hi;omega
     refine ⟨v1,v2,?_,r1.app,r2.app,r1.off_ge (Nat.le_refl _),r2.off_ge (Nat.le_refl _)⟩
     rw [Nat.zero_mul,List.drop_zero,List.take_of_length_le (by rw [deedM_len];omega)]
     rfl
 · have hcl:=lt_of h1
   have hno:∀ w,Off w c→∀ (b:Nat) (y:List AV),H[b]?=some (.cells true y)→¬ Off w b→(H.set c .dead++[ABlk.cells true (cs.take (ds.length * 56)++deedM d v1 v2)])[b]?=some (.cells true y):=fun w hw b y q hb=>by
    refine get_app (get_set q fun e=>?_)
    subst e
    exact hb hw
   have hoc:=o1 c (fun q=>q 0 _ _ rfl)
   refine ⟨.sl H.length 0 (ds.length + 1) 56,H.set c .dead++[ABlk.cells true (cs.take (ds.length * 56)++deedM d v1 v2)],?_,.inr ⟨H.length,cs.take (ds.length * 56)++deedM d v1 v2,hlim,by simp,?_,by simp [deedM_len];omega,fun i hi=>?_⟩,by simp,fun b z hz ho=>?_,fun c hc=>Off.sl (by omega),fun P Y e ho=>?_⟩
   · simp only [appendAV,hel,Option.bind_some,Nat.one_ne_zero,if_false,h1]
     rw [if_pos ⟨trivial,by omega,Nat.le_trans hlim2 h0,hb,hb2,hone⟩,cut_at (by omega),List.drop_zero]
     rfl
   · have e:H.length=(H.set c ABlk.dead).length:=by simp
     rw [e,List.getElem?_append_right (Nat.le_refl _)]
     simp
   · have ht:(cs.take (ds.length * 56)).length=ds.length * 56:=by rw [List.length_take];omega
     rcases Nat.lt_or_ge i ds.length with q | q
     · obtain ⟨w1,w2,e,s1,s2,p1,p2⟩:=h3 i q
       have hi2:(i + 1) * 56≤ds.length * 56:=Nat.mul_le_mul_right _ q
       have e2:((cs.take (ds.length * 56)++deedM d v1 v2).drop (i * 56)).take 56=(cs.drop (i * 56)).take 56:=by
        rw [List.drop_append_of_le_length (by omega),List.take_append_of_le_length (by rw [List.length_drop];omega),List.drop_take,List.take_take,Nat.min_eq_left (by omega)]
       rw [e2,List.getElem_append_left q]
       exact ⟨w1,w2,e,s1.keep (hno w1 p1),s2.keep (hno w2 p2),s1.off_ge (Nat.le_refl _),s2.off_ge (Nat.le_refl _)⟩
     · have hi3:i=ds.length:=by simp at hi;omega
       subst hi3
       have e2:((cs.take (ds.length * 56)++deedM d v1 v2).drop (ds.length * 56)).take 56=deedM d v1 v2:=by
        rw [List.drop_left' ht,List.take_of_length_le (by rw [deedM_len];omega)]
       have e3:(ds++[d])[ds.length]=d:=by simp
       rw [e2,e3]
       exact ⟨v1,v2,rfl,r1.keep (hno v1 hoc.1),r2.keep (hno v2 hoc.2),r1.off_ge (Nat.le_refl _),r2.off_ge (Nat.le_refl _)⟩
   · refine get_app (get_set hz fun e=>?_)
     subst e
     exact ho 0 _ _ rfl
   · have hpc:P.length≤c:=by
      rcases Nat.lt_or_ge c P.length with q | q
      · exact absurd rfl (ho c q 0 ds.length 56)
      · exact q
     refine ⟨Y.set (c - P.length) .dead++[ABlk.cells true (cs.take (ds.length * 56)++deedM d v1 v2)],?_⟩
     rw [e,List.set_append_right _ _ hpc,List.append_assoc]
end
end Go.Proofs.YtgbnbgkldeifkaaGreatA
namespace Go.Proofs.YtgbnbgkldeifkaaGreatA
open Go
set_option linter.unusedSimpArgs false
set_option linter.unusedVariables false
set_option maxRecDepth 1000000
attribute [local simp] deed_zero
@[simp] theorem eqNil_nn {α:Type}:eqNil (none:Option α) none=some true:=rfl
@[simp] theorem eqNil_sn {α:Type} {a:α}:eqNil (some a) none=some false:=rfl
@[simp] theorem eqNil_ns {α:Type} {a:α}:eqNil none (some a)=some false:=rfl
structure Led (lo:Nat) (H:Heap) (b:Nat) (v:AV) (ds:List Deed) (sure room:Int):Prop where
 at':H[b]?=some (.cells false [v,I sure,I room])
 row:DRow lo H ds v
 few:ds.length≤3000
theorem Led.app {lo:Nat} {H X:Heap} {b:Nat} {v:AV} {ds:List Deed} {s r:Int} (h:Led lo H b v ds s r):Led lo (H++X) b v ds s r:=⟨get_app h.at',h.row.app,h.few⟩
theorem c13 (room:Int) (lim:Nat) (H:Heap):Cl envE 15 [I room] lim H (.ptr (some (H.length,0))) (H++[.cells false [.nilsl,I 0,I (max 0 (min room 3000))]]):=by
 refine cl_is e15 rfl ?_
 rw [fr_init (by simp [fd15])]
 have e:max 0 (min 3000 room)=max 0 (min room 3000):=by rw [Int.min_comm]
 simp [fd15,b15,e]
theorem c152 {H:Heap} {b:Nat} {v:AV} {s r:Int} {n:Nat} (hc:H[b]?=some (.cells false [v,I s,I r])) (hv:lenSlAV v=some (.int .i64 n)) (lim:Nat) (hlim:lim≤H.length):Cl envE 152 [.ptr (some (b,0))] lim H (I (IntKind.i64.wrap (r - n))) H:=by
 refine cl_is e152 rfl ?_
 rw [fr_init (by simp [fd152])]
 simp [fd152,b152,cells_of hc,hv,hlim]
def stayN (stay:Int) (loose:Nat):Nat:=(max 0 (min stay loose)).toNat
def writeE (d:Deed) (ds:List Deed) (room:Int):Int:=if deedMay d then (if room - ds.length=0 then 5 else 0) else 1
theorem c114 {lo:Nat} {H:Heap} {b:Nat} {v:AV} {ds:List Deed} {s r:Int} (h:Led lo H b v ds s r) (hlo:lo≤H.length) (hr0:0≤r) (hr1:r≤3000) (hle:(ds.length:Int)≤r) (d:Deed) (q1 q2:AV) (hf:deedFits d) (hk:d.key.length < 4611686018427387904)
 (hq1:∀ X,frz (H++X) 11 q1=some (roL valC d.bag.vals)) (hq2:∀ X,frz (H++X) 11 q2=some (roL intC d.ring.plan.targets)) (ho1:AV.one q1=true) (ho2:AV.one q2=true) :
 WCl envE 114 [.ptr (some (b,0)),.agg (deedM d q1 q2)] 0 H fun x H'=>x=I (writeE d ds r)∧H.length≤H'.length∧(∀ (k:Nat) (z:ABlk),H[k]?=some z→k ≠ b→Off v k→H'[k]?=some z) ∧
  (if writeE d ds r=0 then ∃ v',Led lo H' b v' (ds++[d]) s r∧∀ k,k < H.length→Off v' k else Led lo H' b v ds s r):=by
 have hr:reachBytes=140737488351232:=rfl
 obtain ⟨f1,f2⟩:=hf
 have hl1:d.bag.vals.length < 4611686018427387904:=by omega
 have hl2:d.ring.plan.targets.length < 4611686018427387904:=by omega
 refine cl_of e114 rfl ?_
 rw [fr_init (by simp [fd114])]
 obtain ⟨H1,hH1⟩:∃ H1,H1=H++[.cells false (deedM d q1 q2)]:=⟨_,rfl⟩
 have hc:=get_app (X:=[.cells false (deedM d q1 q2)]) h.at'
 have hone:(deedM d q1 q2).all AV.one=true:=deedM_one ho1 ho2
 have hlen:(deedM d q1 q2).length=56:=deedM_len
 have htake:(deedM d q1 q2).take 56=deedM d q1 q2:=List.take_of_length_le (by rw [deedM_len];omega)
 have hfd:∀ X,mapO (frz (H++X) 11) (deedM d q1 q2)=some (deedC d):=fun X=>by
  rw [show deedM d q1 q2=_ from rfl,deedM,deedV_frz (d:=10) (hq1 X) (hq2 X)]
  rfl
 have hmay:∀ H K,wPu envE 151 (some [.agg (deedC d)]) H K=K (.bool (deedMay d)) H:=fun H K=>(wPu_eq (c151 d hl1 hl2 hk)).trans (by simp)
 have hroom:∀ K,WCl envE 152 [.ptr (some (b,0))] 0 H1 K=K (I (IntKind.i64.wrap (r - ds.length))) H1:=fun K=>by rw [hH1];exact WCl_eq (c152 hc h.row.len 0 (by omega))
 have hw:IntKind.i64.wrap (r - ds.length)=r - ds.length:=by rw [wrap_i64] <;> omega
 rw [hw] at hroom
 rw [hH1] at hroom
 by_cases hm:deedMay d=true
 case neg =>
  simp [-deedC_eq,fd114,b114,hone,hlen,htake,hfd,hmay,hm,writeE]
  exact ⟨fun k z hz _ _=>get_app hz,h.app⟩
 by_cases hz:r - ds.length=0
 · simp [-deedC_eq,fd114,b114,hone,hlen,htake,hfd,hmay,hm,hroom,hz,writeE]
   exact ⟨fun k z hz _ _=>get_app hz,h.app⟩
 have e113:∀ H K,wPu envE 113 (some [.agg (deedC d)]) H K=K (thaw (.agg (deedO d)) H).1 (thaw (.agg (deedO d)) H).2:=fun H K=>wPu_eq (c113 d ⟨f1,f2⟩)
 obtain ⟨v1,X1,t1,r1⟩:=thaw_owL (H:=H1) (lim:=H1.length) (es:=3) val_still (Nat.le_refl _) d.bag.vals
 obtain ⟨v2,X2,t2,r2⟩:=thaw_owL (H:=H1++X1) (lim:=H1.length) (es:=1) int_still (by simp) d.ring.plan.targets
 have ht:thaw (.agg (deedO d)) H1=(.agg (deedM d v1 v2),H1++(X1++X2)):=by
  simp only [thaw_agg,deedO,deedV_thaws,t1,t2,List.append_assoc]
  rfl
 obtain ⟨H2,hH2⟩:∃ H2,H2=H1++(X1++X2)++[ABlk.cells true (deedM d v1 v2)]:=⟨_,rfl⟩
 have p1:Row H1.length H2 3 valC d.bag.vals v1:=by
  have:=(r1.app (X:=X2)).app (X:=[ABlk.cells true (deedM d v1 v2)])
  rw [hH2,← List.append_assoc H1]
  exact this
 have p2:Row H1.length H2 1 intC d.ring.plan.targets v2:=by
  have:=r2.app (X:=[ABlk.cells true (deedM d v1 v2)])
  rw [hH2,← List.append_assoc H1]
  exact this
 have hge:lo≤H1.length:=by rw [hH1];simp;omega
 have hrow:DRow lo H2 ds v:=by
  rw [hH2,hH1,List.append_assoc,List.append_assoc]
  exact h.row.app
 have hkk:H2[(H1++(X1++X2)).length]?=some (.cells true (deedM d v1 v2)):=by rw [hH2];exact get_new
 obtain ⟨v',H',ha,hd,hlen',hkeep,hoff,_⟩:=hrow.push (lim2:=0) hkk (p1.mono hge) (p2.mono hge) (fun c hc=>by
  have:c < H.length:=by
   rcases Nat.lt_or_ge c H.length with q | q
   · exact q
   · exact absurd (h.row.off_ge q) hc
  have:c < H1.length:=by rw [hH1];simp;omega
  exact ⟨p1.off this,p2.off this⟩) (by rw [hH2];simp;omega) (by have:=h.few;simp only [most];omega) (Nat.zero_le _)
 have hbl:=lt_of h.at'
 have hH:∀ (k:Nat) (z:ABlk),H[k]?=some z→Off v k→H'[k]?=some z:=fun k z hz ho=>hkeep k z (by rw [hH2,hH1,List.append_assoc,List.append_assoc];exact get_app hz) ho
 have hb':=hH b _ h.at' (h.row.off h.at')
 have hst:=store_of (lim:=0) (n:=1) (o:=0) (v:=v') hb' (by omega) (by rw [hd.cells];rfl) (by simp) (by rw [hd.cells];simp [hd.one])
 rw [hd.cells] at hst
 simp at hst
 have hone2:(deedM d v1 v2).all AV.one=true:=deedM_one r1.one r2.one
 have hone3:(∀ x:AV,x ∈ deedM d v1 v2→x.one=true)=True:=eq_true (List.all_eq_true.1 hone2)
 have hlen2:(deedM d v1 v2).length=56:=deedM_len
 have hover:∀ l:List AV,l.length=56→setFrom l 0 (deedM d v1 v2)=deedM d v1 v2:=fun l hl=>setFrom_all _ _ (by rw [hl,deedM_len])
 have hts:thaws (deedO d) (H++[.cells false (deedM d q1 q2)])=(deedM d v1 v2,H++.cells false (deedM d q1 q2) :: (X1++X2)):=by
  have:=ht
  rw [hH1] at this
  simp only [thaw_agg,Prod.mk.injEq,AV.agg.injEq] at this
  rw [Prod.ext_iff]
  exact ⟨this.1,by rw [this.2];simp⟩
 subst hH2
 subst hH1
 simp at ha hlen'
 have hwr:writeE d ds r=0:=by simp [writeE,hm,hz]
 simp [-deedC_eq,fd114,b114,hone,hlen,htake,hfd,hmay,hm,hroom,hz,cells_of hc,e113,hts,hone2,hone3,hlen2,hover,ha,hlen',hst,hwr]
 refine ⟨by omega,fun k z hkz hkb hko=>get_set (hH k z hkz hko) (Ne.symm hkb),v',⟨List.getElem?_set_self (lt_of hb'),hd.setF hb',?_⟩,fun k hk2=>hoff k (by simp;omega)⟩
 simp
 omega
theorem c65 {lo:Nat} {H:Heap} {b:Nat} {v:AV} {ds:List Deed} {s r:Int} (h:Led lo H b v ds s r) (hf:∀ d ∈ ds,deedFits d) (lim:Nat) (hlim:lim≤H.length) :
 WCl envE 65 [.ptr (some (b,0))] lim H fun x H'=>∃ X,H'=H++X∧DRow H.length (H++X) ds x:=by
 refine cl_of e65 rfl ?_
 rw [fr_init (by simp [fd65])]
 simp [fd65,b65,cells_of h.at',h.row.len]
 refine loop_go [3,11,12,13] rfl (fun m vs H'=>∃ i X w,m + i=ds.length∧H'=H++X∧DRow H.length (H++X) (ds.take i) w∧vs=[w,v,I ds.length,I i]) ?_ ds.length ⟨0,[],.nilsl,rfl,by simp,.nil,rfl⟩
 rintro J hJ m vs H' f ⟨i,X,w,hm,rfl,hw,rfl⟩
 have few:=h.few
 by_cases hi:i < ds.length
 · have hws:=wrap_succ (i:=i) (by omega)
   obtain ⟨q1,q2,hld,s1,s2⟩:=(h.row.app (X:=X)).load hi
   obtain ⟨d,hd⟩:∃ d,d=ds[i]:=⟨_,rfl⟩
   have hfd:=hf ds[i] (List.getElem_mem _)
   rw [← hd] at hld s1 s2 hfd
   have hone:(deedM d q1 q2).all AV.one=true:=deedM_one s1.one s2.one
   have hlen:(deedM d q1 q2).length=56:=deedM_len
   have htake:(deedM d q1 q2).take 56=deedM d q1 q2:=List.take_of_length_le (by rw [deedM_len];omega)
   have hover1:∀ l:List AV,l.length=56→setFrom l 0 (deedM d q1 q2)=deedM d q1 q2:=fun l hl=>setFrom_all _ _ (by rw [hl,deedM_len])
   have hfz:∀ Y,mapO (frz (H++(X++Y)) 11) (deedM d q1 q2)=some (deedC d):=fun Y=>by
    have a1:=(s1.app (X:=Y)).frz (d:=9) valC_len val_flat
    have a2:=(s2.app (X:=Y)).frz (d:=9) intC_len int_flat
    rw [List.append_assoc] at a1 a2
    rw [show deedM d q1 q2=_ from rfl,deedM,deedV_frz (d:=10) a1 a2]
    rfl
   have e113:∀ H K,wPu envE 113 (some [.agg (deedC d)]) H K=K (thaw (.agg (deedO d)) H).1 (thaw (.agg (deedO d)) H).2:=fun H K=>wPu_eq (c113 d hfd)
   obtain ⟨H1,hH1⟩:∃ H1,H1=H++X++[.cells false (deedM d q1 q2)]:=⟨_,rfl⟩
   obtain ⟨v1,X1,t1,r1⟩:=thaw_owL (H:=H1) (lim:=H1.length) (es:=3) val_still (Nat.le_refl _) d.bag.vals
   obtain ⟨v2,X2,t2,r2⟩:=thaw_owL (H:=H1++X1) (lim:=H1.length) (es:=1) int_still (by simp) d.ring.plan.targets
   obtain ⟨H2,hH2⟩:∃ H2,H2=H1++(X1++X2)++[ABlk.cells true (deedM d v1 v2)]:=⟨_,rfl⟩
   have p1:Row H1.length H2 3 valC d.bag.vals v1:=by
    have:=(r1.app (X:=X2)).app (X:=[ABlk.cells true (deedM d v1 v2)])
    rw [hH2,← List.append_assoc H1]
    exact this
   have p2:Row H1.length H2 1 intC d.ring.plan.targets v2:=by
    have:=r2.app (X:=[ABlk.cells true (deedM d v1 v2)])
    rw [hH2,← List.append_assoc H1]
    exact this
   have hge:H.length≤H1.length:=by rw [hH1];simp
   have hrow:DRow H.length H2 (ds.take i) w:=by
    rw [hH2,hH1,List.append_assoc,List.append_assoc]
    exact hw.app
   have hkk:H2[(H1++(X1++X2)).length]?=some (.cells true (deedM d v1 v2)):=by rw [hH2];exact get_new
   obtain ⟨v',H',ha,hd2,hlen',hkeep,hoff,hP⟩:=hrow.push hkk (p1.mono hge) (p2.mono hge) (fun c hc=>by
    have:c < (H++X).length:=by
     rcases Nat.lt_or_ge c (H++X).length with q | q
     · exact q
     · exact absurd (hw.off_ge q) hc
    have:c < H1.length:=by rw [hH1];simp at this ⊢;omega
    exact ⟨p1.off this,p2.off this⟩) (by rw [hH2];simp;omega) (by rw [List.length_take,Nat.min_eq_left (Nat.le_of_lt hi)];simp only [most];omega) hlim
   obtain ⟨Y',rfl⟩:=hP H (X++[.cells false (deedM d q1 q2)]++(X1++X2)++[ABlk.cells true (deedM d v1 v2)]) (by rw [hH2,hH1];simp) (fun c hc=>hw.off_lt hc)
   have hone2:(deedM d v1 v2).all AV.one=true:=deedM_one r1.one r2.one
   have hone3:(∀ x:AV,x ∈ deedM d v1 v2→x.one=true)=True:=eq_true (List.all_eq_true.1 hone2)
   have hlen2:(deedM d v1 v2).length=56:=deedM_len
   have hover:∀ l:List AV,l.length=56→setFrom l 0 (deedM d v1 v2)=deedM d v1 v2:=fun l hl=>setFrom_all _ _ (by rw [hl,deedM_len])
   have hts:thaws (deedO d) (H++(X++[.cells false (deedM d q1 q2)]))=(deedM d v1 v2,H++(X++.cells false (deedM d q1 q2) :: (X1++X2))):=by
    have:=hH1 ▸ t1
    have t2':=hH1 ▸ t2
    rw [← List.append_assoc,deedO,deedV_thaws,this]
    simp only [t2']
    rw [Prod.ext_iff]
    exact ⟨rfl,by simp⟩
   subst hH2
   subst hH1
   simp at ha hlen'
   have hstep:ds.take (i + 1)=ds.take i++[d]:=by rw [List.take_succ_eq_append_getElem hi,hd]
   simp [-deedC_eq,lp65_0,hlim,hi,hws,h.row.at hi,hld,hone,hlen,htake,hover1,hfz,e113,hts,hone2,hone3,hlen2,hover,ha]
   refine nxt hJ (m - 1) (by omega) ⟨i + 1,Y',v',by omega,rfl,?_,rfl⟩
   rw [hstep]
   exact hd2
 · have e:ds.take i=ds:=List.take_of_length_le (by omega)
   rw [e] at hw
   simp [lp65_0,hi]
   exact hw
end Go.Proofs.YtgbnbgkldeifkaaGreatA
namespace Go.Proofs.YtgbnbgkldeifkaaGreatA
open Go
set_option linter.unusedSimpArgs false
set_option linter.unusedVariables false
set_option maxRecDepth 1000000
theorem vecEq_refl {k:Nat→Int}:vecEq k k=true:=by rw [vecEq_iff];intro i _;rfl
theorem ringSame_refl {r:Ring}:ringSame r r=true:=by simp [ringSame,vecEq_refl,prtEq,planSame]
theorem bagSame_refl {b:Bag}:bagSameB b b=true:=by simp [bagSameB,bagSame,vecEq_refl]
theorem deedSame_refl {d:Deed}:deedSame d d=true:=by simp [deedSame,ringSame_refl,bagSame_refl]
def incD (n:Int):Deed:=⟨1,n,[],zBagS,zRingS,0⟩
end Go.Proofs.YtgbnbgkldeifkaaGreatA
namespace Go.Proofs.YtgbnbgkldeifkaaGreatA
open Go
set_option linter.unusedSimpArgs false
set_option linter.unusedVariables false
set_option maxRecDepth 1000000
attribute [local simp high] xor_eq mul_eq shr_eq
theorem c70 (s:List UInt8):Pu envE 70 [.str s] (.bool (keyOk s)):=by
 refine pu_is e70 rfl ?_
 rw [fr_init (by simp [fd70])]
 by_cases h1:(1:Int)≤s.length
 · have h1':1≤s.length:=by omega
   by_cases h2:(s.length:Int)≤32
   · have h2':s.length≤32:=by omega
     simp [fd70,b70,h1,h2,h1',h2',keyOk]
   · have h2':¬ s.length≤32:=by omega
     simp [fd70,b70,h1,h2,h1',h2',keyOk]
 · have h1':¬ 1≤s.length:=by omega
   simp [fd70,b70,h1,h1',keyOk]
@[simp] theorem k70 {s:List UInt8} {H:Heap} {K:AV→Heap→Prop}:wPu envE 70 (some [.str s]) H K=K (.bool (keyOk s)) H:=(wPu_eq (c70 s)).trans (by simp)
theorem c78 (s:List UInt8) (hl:s.length < 4611686018427387904):Pu envE 78 [.str s] (.int .u64 (hashF s)):=by
 refine pu_is e78 rfl ?_
 rw [fr_init (by simp [fd78])]
 simp [fd78,b78]
 refine loop_go [0,3,6,7] rfl (fun m vs H=>∃ i,m + i=s.length∧i≤s.length∧vs=[.str s,.int .u64 ((s.take i).foldl hstep 14695981039346656037),I s.length,I i]) ?_ s.length ⟨0,rfl,by omega,rfl⟩
 rintro J hJ m vs H f ⟨i,hm,hi0,rfl⟩
 by_cases hi:i < s.length
 · have hw:=wrap_succ (i:=i) (by omega)
   have e:=fold_take (h:=14695981039346656037) hi
   have hg:s.getD i 0=s[i]:=by rw [List.getD_eq_getElem?_getD,List.getElem?_eq_getElem hi];rfl
   simp [lp78_0,hi,idxs hi,hg,hw]
   refine nxt hJ (m - 1) (by omega) ⟨i + 1,by omega,by omega,?_⟩
   rw [e]
   rfl
 · have e:s.take i=s:=List.take_of_length_le (by omega)
   rw [e]
   simp [lp78_0,hi]
   rfl
@[simp] theorem k78 {s:List UInt8} {H:Heap} {K:AV→Heap→Prop} (hl:s.length < 4611686018427387904):wPu envE 78 (some [.str s]) H K=K (.int .u64 (hashF s)) H:=(wPu_eq (c78 s hl)).trans (by simp)
theorem c29 (s:List UInt8):Pu envE 29 [.str s] (I (spotF s)):=by
 refine pu_is e29 rfl ?_
 rw [fr_init (by simp [fd29])]
 cases h:keyOk s
 · simp [fd29,b29,h,spotF]
 · have hl:s.length < 4611686018427387904:=by simp [keyOk] at h;omega
   simp [fd29,b29,h,hl,spotF,spot_wrap]
@[simp] theorem k29 {s:List UInt8} {H:Heap} {K:AV→Heap→Prop}:wPu envE 29 (some [.str s]) H K=K (I (spotF s)) H:=(wPu_eq (c29 s)).trans (by simp)
end Go.Proofs.YtgbnbgkldeifkaaGreatA
namespace Go.Proofs.YtgbnbgkldeifkaaGreatA
open Go
set_option linter.unusedSimpArgs false
set_option linter.unusedVariables false
set_option maxRecDepth 1000000
attribute [local simp] ring_zero
theorem dot_refl (a c:Int):dotCmp a c a c=0:=dot_zero.2 ⟨rfl,rfl⟩
theorem c187 (a c a' c':Int):Pu envE 187 [.agg [I a,I c],.agg [I a',I c']] (I (dotCmp a c a' c')):=by
 refine pu_is e187 rfl ?_
 rw [fr_init (by simp [fd187])]
 have e:orL [cmpI a a',cmpI c c']=dotCmp a c a' c':=by
  simp only [orL,dotCmp]
  split
  · rfl
  · split
    · rfl
    · rename_i h;simp at h;exact h.symm
 simp [fd187,b187,frz_sl,e]
@[simp] theorem k187 {a c a' c':Int} {H:Heap} {K:AV→Heap→Prop}:wPu envE 187 (some [.agg [I a,I c],.agg [I a',I c']]) H K=K (I (dotCmp a c a' c')) H:=(wPu_eq (c187 a c a' c')).trans (by simp)
theorem c98s (a c:Int):Pu envE 149 [.agg [I a,I c],.agg [I a,I c]] (.agg [I a,I c]):=by
 refine pu_is e149 rfl ?_
 rw [fr_init (by simp [fd149])]
 simp [fd149,b149,dot_refl]
@[simp] theorem k98s {a c:Int} {H:Heap} {K:AV→Heap→Prop}:wPu envE 149 (some [.agg [I a,I c],.agg [I a,I c]]) H K=K (.agg [I a,I c]) H:=(wPu_eq (c98s a c)).trans (by simp)
theorem c186 (v b:Int) (t:List Int) (hf:t.length * 8≤reachBytes):Pu envE 186 [.agg (planV v b (roL intC t))] (.agg (planV v b (owL 1 intC t))):=by
 have hr:reachBytes=140737488351232:=rfl
 refine pu_is e186 rfl ?_
 rw [fr_init (by simp [fd186])]
 obtain ⟨v1,X1,q1,r1⟩:=clone_ro (lim:=0) (bytes:=8) (H:=[.cells false (planV v b (roL intC t)),.cells false [I 0,I 0,.nilsl]]) (l:=t) (es:=1) intC_len (by omega) intC_one (by simp only [most];omega) (by simp only [most];omega) (by simp)
 have hc1:∀ K,WCl envE 150 [roL intC t] 0 [.cells false (planV v b (roL intC t)),.cells false [I 0,I 0,.nilsl]] K=K v1 ([.cells false (planV v b (roL intC t)),.cells false [I 0,I 0,.nilsl]]++X1):=fun K=>WCl_eq (cl_prim e150 q1)
 have hset:(planV v b v1).all AV.one=true:=by simp [r1.one]
 have hover:setFrom [I 0,I 0,AV.nilsl] 0 (planV v b v1)=planV v b v1:=rfl
 obtain ⟨u1,o1,n1,m1⟩:=(r1.set (b:=0) (z:=.cells false (planV v b v1)) (r1.off (by simp))).own (d:=9) intC_len (by omega) int_plain
 obtain ⟨u2,o2,n2,m2⟩:=((r1.set (b:=0) (z:=.cells false (planV v b v1)) (r1.off (by simp))).set (b:=1) (z:=.cells false (planV v b v1)) (r1.off (by simp))).own (d:=9) intC_len (by omega) int_plain
 simp only [List.cons_append,List.nil_append] at hc1 o1 o2
 simp at o1 o2
 simp [fd186,b186,hc1,r1.cells,r1.one,hover,o1,o2,n1,n2]
theorem k186 {v b:Int} {t:List Int} {H:Heap} {K:AV→Heap→Prop} (hf:t.length * 8≤reachBytes):wPu envE 186 (some [.agg (planV v b (roL intC t))]) H K=K (.agg (planV v b (thaw (owL 1 intC t) H).1)) (thaw (owL 1 intC t) H).2:=(wPu_eq (c186 v b t hf)).trans (by simp)
theorem c97s (p:Plan) (hf:p.targets.length * 8≤reachBytes):Pu envE 148 [.agg (planC p),.agg (planC p)] (.agg (planV p.version p.by' (owL 1 intC p.targets))):=by
 have hr:reachBytes=140737488351232:=rfl
 refine pu_is e148 rfl ?_
 obtain ⟨n,h1,h2⟩:=c185 p p (by omega)
 have hn:n=0:=h2.2 (by simp [planSame])
 subst hn
 have hz:∀ H K,wPu envE 185 (some [.agg (planV p.version p.by' (roL intC p.targets)),.agg (planV p.version p.by' (roL intC p.targets))]) H K=K (I 0) H:=fun H K=>(wPu_eq h1).trans (by simp)
 obtain ⟨v1,X1,t1,r1⟩:=thaw_owL (H:=[.cells false (planV p.version p.by' (roL intC p.targets)),.cells false (planV p.version p.by' (roL intC p.targets)),.cells false [I 0,I 0,.nilsl]]) (lim:=3) (es:=1) int_still (by simp) p.targets
 have hk:=fun H K=>k186 (v:=p.version) (b:=p.by') (t:=p.targets) (H:=H) (K:=K) hf
 have hover:setFrom [I 0,I 0,AV.nilsl] 0 (planV p.version p.by' v1)=planV p.version p.by' v1:=rfl
 obtain ⟨u1,o1,n1,m1⟩:=(r1.set (b:=2) (z:=.cells false (planV p.version p.by' v1)) (r1.off (by simp))).own (d:=9) intC_len (by omega) int_plain
 simp at o1
 rw [fr_init (by simp [fd148])]
 simp [fd148,b148,hz,hk,t1,hover,r1.one,o1,n1]
theorem k97s {v b:Int} {t:List Int} {H:Heap} {K:AV→Heap→Prop} (hf:t.length * 8≤reachBytes):wPu envE 148 (some [.agg (planV v b (roL intC t)),.agg (planV v b (roL intC t))]) H K=K (.agg (planV v b (thaw (owL 1 intC t) H).1)) (thaw (owL 1 intC t) H).2:=by
 have:=c97s ⟨v,b,t⟩ hf
 simp only [planC_eq] at this
 exact (wPu_eq this).trans (by simp)
def ringO (r:Ring):List AV:=ringV r.status r.plan.version r.plan.by' (owL 1 intC r.plan.targets) r.epoch r.owner
def upTo (i:Nat) (f:Nat→Int):Nat→Int:=fun j=>if j < i then f j else 0
theorem upTo_step {i:Nat} {f:Nat→Int}:upd (upTo i f) i (f i)=upTo (i + 1) f:=by
 funext j
 simp only [upd,upTo]
 by_cases h:j=i
 · subst h;simp
 · by_cases h2:j < i
   · have:j < i + 1:=by omega
     simp [h,h2,this]
   · have:¬ j < i + 1:=by omega
     simp [h,h2,this]
theorem ringV_setS {st ep ow:Nat→Int} {ver by' x:Int} {r:AV} {i:Nat} (h:i < 8):(ringV st ver by' r ep ow).set i (I x)=ringV (upd st i x) ver by' r ep ow:=by
 unfold ringV
 rw [List.set_append_left _ _ (by simp;omega),vec_set h]
theorem ringV_getS {st ep ow:Nat→Int} {ver by':Int} {r:AV} {i:Nat} (h:i < 8):cut (ringV st ver by' r ep ow) i 1=some [I (st i)]:=by
 match i,h with
 | 0,_=>rfl | 1,_=>rfl | 2,_=>rfl | 3,_=>rfl | 4,_=>rfl | 5,_=>rfl | 6,_=>rfl | 7,_=>rfl
theorem ringV_setP {st ep ow:Nat→Int} {ver by' x y:Int} {r:AV} {i:Nat} (h:i < 16):setFrom (ringV st ver by' r ep ow) (11 + i * 2) [I x,I y]=ringV st ver by' r (upd ep i x) (upd ow i y):=by
 have:i=0∨i=1∨i=2∨i=3∨i=4∨i=5∨i=6∨i=7∨i=8∨i=9∨i=10∨i=11∨i=12∨i=13∨i=14∨i=15:=by omega
 rcases this with rfl | rfl | rfl | rfl | rfl | rfl | rfl | rfl | rfl | rfl | rfl | rfl | rfl | rfl | rfl | rfl <;> rfl
theorem upTo_ext {st st' ep ep' ow ow':Nat→Int} {ver by':Int} {r:AV} (h1:∀ i,i < 8→st i=st' i) (h2:∀ i,i < 16→ep i=ep' i∧ow i=ow' i):ringV st ver by' r ep ow=ringV st' ver by' r ep' ow':=by
 have e1:=vec_ext h1
 have e2:prtC ep ow=prtC ep' ow':=by
  simp only [prtC,h2 0 (by omega),h2 1 (by omega),h2 2 (by omega),h2 3 (by omega),h2 4 (by omega),h2 5 (by omega),h2 6 (by omega),h2 7 (by omega),h2 8 (by omega),h2 9 (by omega),h2 10 (by omega),h2 11 (by omega),h2 12 (by omega),h2 13 (by omega),h2 14 (by omega),h2 15 (by omega)]
 unfold ringV
 rw [e1,e2]
set_option maxHeartbeats 1000000 in
theorem c74s (r:Ring) (hf:r.plan.targets.length * 8≤reachBytes):Pu envE 110 [.agg (ringC r),.agg (ringC r)] (.agg (ringO r)):=by
 have hrb:reachBytes=140737488351232:=rfl
 refine pu_is e110 rfl ?_
 have hk:=fun H K=>k97s (v:=r.plan.version) (b:=r.plan.by') (t:=r.plan.targets) (H:=H) (K:=K) hf
 obtain ⟨v1,X1,t1,r1⟩:=thaw_owL (H:=[.cells false (ringV r.status r.plan.version r.plan.by' (roL intC r.plan.targets) r.epoch r.owner),.cells false (ringV r.status r.plan.version r.plan.by' (roL intC r.plan.targets) r.epoch r.owner),.cells false (ringV zeroV 0 0 .nilsl zeroV zeroV)]) (lim:=3) (es:=1) int_still (by simp) r.plan.targets
 have hb:∀ q,setFrom (ringV zeroV 0 0 .nilsl zeroV zeroV) 8 (planV r.plan.version r.plan.by' q)=ringV zeroV r.plan.version r.plan.by' q zeroV zeroV:=fun q=>rfl
 have hover:∀ {st ep ow:Nat→Int} {ver by':Int} {q:AV} (l:List AV),l.length=43→setFrom l 0 (ringV st ver by' q ep ow)=ringV st ver by' q ep ow:=fun l hl=>setFrom_all _ _ (by rw [hl,ringV_len])
 have u0:zeroV=upTo 0 r.status:=by funext j;simp [zeroV,upTo]
 have o1:=r1.one
 rw [fr_init (by simp [fd110])]
 simp [fd110,b110,hk,t1,hb,hover,o1]
 refine loop_go [2,3,4,5,14] rfl (fun m vs H=>∃ i,m + i=8∧i≤8∧H=.cells false (ringV r.status r.plan.version r.plan.by' (roL intC r.plan.targets) r.epoch r.owner) :: .cells false (ringV r.status r.plan.version r.plan.by' (roL intC r.plan.targets) r.epoch r.owner) :: .cells false (ringV zeroV 0 0 .nilsl zeroV zeroV) :: (X1++[.cells false (ringV (upTo i r.status) r.plan.version r.plan.by' v1 zeroV zeroV)])∧vs=[.ptr (some (0,0)),.ptr (some (1,0)),.ptr (some (2,0)),.ptr (some (X1.length + 3,0)),I i]) ?_ 8 ⟨0,rfl,by omega,by rw [← u0],rfl⟩
 rintro J hJ m vs H f ⟨i,hm,hi8,rfl,rfl⟩
 by_cases hi:i < 8
 · have hi':(i:Int) < 8:=by omega
   have hw:=wrap_succ (i:=i) (by omega)
   have hmx:max (r.status i) (r.status i)=r.status i:=by omega
   have h42:i≤42:=by omega
   have hg:∀ {st ep ow:Nat→Int} {ver by':Int} {q:AV},((ringV st ver by' q ep ow).drop i).take 1=[I (st i)]:=fun {st ep ow ver by' q}=>by
    have:=ringV_getS (st:=st) (ver:=ver) (by':=by') (r:=q) (ep:=ep) (ow:=ow) hi
    rw [cut_at (by rw [ringV_len];omega)] at this
    exact Option.some.inj this
   simp [lp110_0,hi,hi',hg,ringV_setS,hw,hmx,o1,h42]
   refine nxt hJ (m - 1) (by omega) ⟨i + 1,by omega,by omega,?_,rfl⟩
   rw [← upTo_step]
 have hi':¬ (i:Int) < 8:=by omega
 obtain rfl:i=8:=by omega
 have e1:zeroV=upTo 0 r.epoch:=by funext j;simp [zeroV,upTo]
 have e2:zeroV=upTo 0 r.owner:=by funext j;simp [zeroV,upTo]
 simp [lp110_0]
 refine loop_go [2,3,4,5,30] rfl (fun m vs H=>∃ i X,m + i=16∧i≤16∧H=.cells false (ringV r.status r.plan.version r.plan.by' (roL intC r.plan.targets) r.epoch r.owner) :: .cells false (ringV r.status r.plan.version r.plan.by' (roL intC r.plan.targets) r.epoch r.owner) :: .cells false (ringV zeroV 0 0 .nilsl zeroV zeroV) :: (X1++.cells false (ringV (upTo 8 r.status) r.plan.version r.plan.by' v1 (upTo i r.epoch) (upTo i r.owner)) :: X)∧vs=[.ptr (some (0,0)),.ptr (some (1,0)),.ptr (some (2,0)),.ptr (some (X1.length + 3,0)),I i]) ?_ 16 ⟨0,[],rfl,by omega,by rw [← e1,← e2],rfl⟩
 rintro J2 hJ2 m2 vs H f2 ⟨i,X,hm2,hi16,rfl,rfl⟩
 by_cases hi:i < 16
 · have hi':(i:Int) < 16:=by omega
   have hw:=wrap_succ (i:=i) (by omega)
   have hp:∀ {st ep ow:Nat→Int} {ver by':Int} {q:AV},((ringV st ver by' q ep ow).drop (11 + i * 2)).take 2=[I (ep i),I (ow i)]:=fun {st ep ow ver by' q}=>by
    have:=ringV_part (st:=st) (ver:=ver) (by':=by') (r:=q) (ep:=ep) (ow:=ow) hi
    rw [cut_at (by rw [ringV_len];omega)] at this
    exact Option.some.inj this
   have hs:=fun {st ep ow:Nat→Int} {ver by' x y:Int} {q:AV}=>ringV_setP (st:=st) (ver:=ver) (by':=by') (r:=q) (ep:=ep) (ow:=ow) (x:=x) (y:=y) hi
   have hle:11 + (i * 2 + 2)≤43:=by omega
   have hle2:11 + i * 2 + 2≤43:=by omega
   simp [lp110_1,hi,hi',hp,hs,hw,hle,hle2,o1]
   refine nxt hJ2 (m2 - 1) (by omega) ⟨i + 1,X,by omega,by omega,?_,rfl⟩
   rw [← upTo_step (f:=r.epoch),← upTo_step (f:=r.owner)]
 have hi':¬ (i:Int) < 16:=by omega
 obtain rfl:i=16:=by omega
 have ex:∀ q,ringV (upTo 8 r.status) r.plan.version r.plan.by' q (upTo 16 r.epoch) (upTo 16 r.owner)=ringV r.status r.plan.version r.plan.by' q r.epoch r.owner:=fun q=>upTo_ext (fun j hj=>by simp [upTo,hj]) (fun j hj=>by simp [upTo,hj])
 have r2:Row 3 (.cells false (ringV r.status r.plan.version r.plan.by' (roL intC r.plan.targets) r.epoch r.owner) :: .cells false (ringV r.status r.plan.version r.plan.by' (roL intC r.plan.targets) r.epoch r.owner) :: .cells false (ringV r.status r.plan.version r.plan.by' v1 r.epoch r.owner) :: (X1++.cells false (ringV r.status r.plan.version r.plan.by' v1 r.epoch r.owner) :: X)) 1 intC r.plan.targets v1:=by
  have:=(r1.set (b:=2) (z:=.cells false (ringV r.status r.plan.version r.plan.by' v1 r.epoch r.owner)) (r1.off (by simp))).app (X:=.cells false (ringV r.status r.plan.version r.plan.by' v1 r.epoch r.owner) :: X)
  simpa using this
 obtain ⟨u1,w1,n1,m1⟩:=r2.own (d:=9) intC_len (by omega) int_plain
 have hown:=ringV_own (st:=r.status) (ver:=r.plan.version) (by':=r.plan.by') (ep:=r.epoch) (ow:=r.owner) w1
 simp [lp110_1,ex,hover,o1,hown,n1,ringO]
theorem k74s {r:Ring} {H:Heap} {K:AV→Heap→Prop} (hf:r.plan.targets.length * 8≤reachBytes):wPu envE 110 (some [.agg (ringV r.status r.plan.version r.plan.by' (roL intC r.plan.targets) r.epoch r.owner),.agg (ringV r.status r.plan.version r.plan.by' (roL intC r.plan.targets) r.epoch r.owner)]) H K=K (.agg (ringV r.status r.plan.version r.plan.by' (thaw (owL 1 intC r.plan.targets) H).1 r.epoch r.owner)) (thaw (owL 1 intC r.plan.targets) H).2:=by
 have:=c74s r hf
 simp only [ringC_eq] at this
 exact (wPu_eq this).trans (by simp [ringO])
end Go.Proofs.YtgbnbgkldeifkaaGreatA

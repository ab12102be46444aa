/- Plans, rings and deeds as cells. What the functions of clock answer. What May and Same of bags answer. What the search for a dot answers. What Join, Below and Put of bags answer. What Below and Put of bags answer. Guards, what is always run, Texts. Bags in plain words: what Put and Join keep. No statement about the program is proved here. -/
import Derived.Test.YtgbnbgkldeifkaaGreatA32
import Derived.KernelRfl
import Derived.Test.YtgbnbgkldeifkaaGreatE1
namespace Go.Proofs.YtgbnbgkldeifkaaGreatA
open Go Go.RowKit
set_option linter.unusedVariables false
set_option linter.unusedSimpArgs false
set_option maxRecDepth 100000
def prtC (ep ow:Nat→Int):List AV :=
 [I (ep 0),I (ow 0),I (ep 1),I (ow 1),I (ep 2),I (ow 2),I (ep 3),I (ow 3),I (ep 4),I (ow 4),I (ep 5),I (ow 5),I (ep 6),I (ow 6),I (ep 7),I (ow 7),
  I (ep 8),I (ow 8),I (ep 9),I (ow 9),I (ep 10),I (ow 10),I (ep 11),I (ow 11),I (ep 12),I (ow 12),I (ep 13),I (ow 13),I (ep 14),I (ow 14),I (ep 15),I (ow 15)]
def planV (ver by':Int) (r:AV):List AV:=[I ver,I by',r]
def ringV (st:Nat→Int) (ver by':Int) (r:AV) (ep ow:Nat→Int):List AV:=vecC st++(planV ver by' r++prtC ep ow)
def deedV (kd n:Int) (key:List UInt8) (k:Nat→Int) (q:AV) (st:Nat→Int) (ver by':Int) (r:AV) (ep ow:Nat→Int) (part:Int):List AV :=
 [I kd,I n,.str key]++(bagV k q++(ringV st ver by' r ep ow++[I part]))
@[simp] theorem planC_eq (p:Plan):planC p=planV p.version p.by' (roL intC p.targets):=hard rfl
@[simp] theorem ringC_eq (r:Ring):ringC r=ringV r.status r.plan.version r.plan.by' (roL intC r.plan.targets) r.epoch r.owner:=hard rfl
@[simp] theorem deedC_eq (d:Deed):deedC d=deedV d.kind d.n d.key d.bag.known (roL valC d.bag.vals) d.ring.status d.ring.plan.version d.ring.plan.by' (roL intC d.ring.plan.targets) d.ring.epoch d.ring.owner d.part:=hard rfl
section
variable {st ep ow ep2 ow2:Nat→Int} {ver by':Int} {r q r2:AV} {H:Heap} {d:Nat}
@[simp] theorem prt_len:(prtC ep ow).length=32:=hard rfl
@[simp] theorem prt_one:(prtC ep ow).all AV.one=true:=hard rfl
@[simp] theorem prt_take:(prtC ep ow).take 32=prtC ep ow:=hard rfl
@[simp] theorem prt_frz:mapO (frz H (d + 1)) (prtC ep ow)=some (prtC ep ow):=hard rfl
@[simp] theorem prt_own:ownL (own H (d + 1)) (prtC ep ow)=some (prtC ep ow,[]):=hard rfl
@[simp] theorem prt_thaws:thaws (prtC ep ow) H=(prtC ep ow,H):=by simp [prtC]
theorem prt_get {i:Nat} (h:i < 16):((prtC ep ow).drop (i * 2)).take 2=[I (ep i),I (ow i)]:=by
 obtain rfl | rfl | rfl | rfl | rfl | rfl | rfl | rfl | rfl | rfl | rfl | rfl | rfl | rfl | rfl | rfl:i=0∨i=1∨i=2∨i=3∨i=4∨i=5∨i=6∨i=7∨i=8∨i=9∨i=10∨i=11∨i=12∨i=13∨i=14∨i=15:=by omega
 all_goals rfl
theorem eq_ints:∀ {ks:List CK} {a b:List Int},(∀ k ∈ ks,k=.i)→ks.length=a.length→a.length=b.length→eqRow ks (a.map I) (b.map I)=some (decide (a=b))
 | [],[],[],_,_,_=>rfl
 | k :: ks,x :: a,y :: b,h,h1,h2=>by
  have hk:k=.i:=h k (.head _)
  subst hk
  have ih:=eq_ints (ks:=ks) (a:=a) (b:=b) (fun k hk=>h k (.tail _ hk)) (by simpa using h1) (by simpa using h2)
  simp only [List.map_cons,eqRow,eqCell,if_true,Option.bind_some]
  by_cases e:x=y
  · subst e;simp [ih]
  · have h3:a.length=ks.length:=by simp at h1;omega
    have h4:b.length=ks.length:=by simp at h2;omega
    simp [e,h3,h4]
def prtL (ep ow:Nat→Int):List Int :=
 [ep 0,ow 0,ep 1,ow 1,ep 2,ow 2,ep 3,ow 3,ep 4,ow 4,ep 5,ow 5,ep 6,ow 6,ep 7,ow 7,ep 8,ow 8,ep 9,ow 9,ep 10,ow 10,ep 11,ow 11,ep 12,ow 12,ep 13,ow 13,ep 14,ow 14,ep 15,ow 15]
def prtEq (ep ow ep2 ow2:Nat→Int):Bool:=decide (prtL ep ow=prtL ep2 ow2)
@[simp] theorem prt_eq:eqRow [.i,.i,.i,.i,.i,.i,.i,.i,.i,.i,.i,.i,.i,.i,.i,.i,.i,.i,.i,.i,.i,.i,.i,.i,.i,.i,.i,.i,.i,.i,.i,.i] (prtC ep ow) (prtC ep2 ow2)=some (prtEq ep ow ep2 ow2) :=
 eq_ints (a:=prtL ep ow) (b:=prtL ep2 ow2) (by simp) rfl rfl
@[simp] theorem planV_len:(planV ver by' r).length=3:=hard rfl
@[simp] theorem planV_one:(planV ver by' r).all AV.one=AV.one r:=by simp [planV]
@[simp] theorem planV_take:(planV ver by' r).take 3=planV ver by' r:=hard rfl
@[simp] theorem planV_f0:(planV ver by' r).take 1=[I ver]:=hard rfl
@[simp] theorem planV_f1:((planV ver by' r).drop 1).take 1=[I by']:=hard rfl
@[simp] theorem planV_t1:((planV ver by' r).tail).take 1=[I by']:=hard rfl
@[simp] theorem planV_f2:((planV ver by' r).drop 2).take 1=[r]:=hard rfl
@[simp] theorem planV_frz:mapO (frz H (d + 1)) (planV ver by' r)=(frz H (d + 1) r).map (planV ver by'):=by
 cases e:frz H (d + 1) r <;> simp [planV,e]
@[simp] theorem planV_own:ownL (own H (d + 1)) (planV ver by' r)=(own H (d + 1) r).map fun p=>(planV ver by' p.1,p.2):=by
 cases e:own H (d + 1) r <;> simp [planV,e]
@[simp] theorem planV_thaws:thaws (planV ver by' r) H=(planV ver by' (thaw r H).1,(thaw r H).2):=by simp [planV]
@[simp] theorem planV_set2:(planV ver by' r).set 2 q=planV ver by' q:=hard rfl
@[simp] theorem ringV_len:(ringV st ver by' r ep ow).length=43:=hard rfl
@[simp] theorem ringV_one:(ringV st ver by' r ep ow).all AV.one=AV.one r:=by
 unfold ringV
 rw [List.all_append,List.all_append,vec_one,planV_one,prt_one]
 simp
@[simp] theorem ringV_take:(ringV st ver by' r ep ow).take 43=ringV st ver by' r ep ow:=hard rfl
@[simp] theorem ringV_f0:(ringV st ver by' r ep ow).take 8=vecC st:=hard rfl
@[simp] theorem ringV_f8:((ringV st ver by' r ep ow).drop 8).take 3=planV ver by' r:=hard rfl
@[simp] theorem ringV_f8a:((ringV st ver by' r ep ow).drop 8).take 1=[I ver]:=hard rfl
@[simp] theorem ringV_f9:((ringV st ver by' r ep ow).drop 9).take 1=[I by']:=hard rfl
@[simp] theorem ringV_f10:((ringV st ver by' r ep ow).drop 10).take 1=[r]:=hard rfl
@[simp] theorem ringV_f11:((ringV st ver by' r ep ow).drop 11).take 32=prtC ep ow:=hard rfl
@[simp] theorem ringV_set10:(ringV st ver by' r ep ow).set 10 q=ringV st ver by' q ep ow:=hard rfl
theorem ringV_part {i:Nat} (h:i < 16):cut (ringV st ver by' r ep ow) (11 + i * 2) 2=some [I (ep i),I (ow i)]:=by
 rw [cut_at (by simp;omega)]
 have:(ringV st ver by' r ep ow).drop (11 + i * 2)=(prtC ep ow).drop (i * 2):=by
  rw [← List.drop_drop]
  rfl
 rw [this,prt_get h]
@[simp] theorem ringV_frz:mapO (frz H (d + 1)) (ringV st ver by' r ep ow)=(frz H (d + 1) r).map fun r=>ringV st ver by' r ep ow:=by
 unfold ringV
 cases e:frz H (d + 1) r with
 | none=>simp [vecC,planV,e]
 | some r'=>simp only [Option.map_some];exact mapO_app (frz_vec st) (mapO_app (by simp [e]) prt_frz)
theorem ownL_app2 {g:AV→Option (AV × List Nat)}:∀ {a b a' b':List AV} {u w:List Nat},ownL g a=some (a',u)→ownL g b=some (b',w)→ownL g (a++b)=some (a'++b',u++w)
 | [],b,a',b',u,w,h,k=>by simp only [ownL,Option.some.injEq,Prod.mk.injEq] at h;obtain ⟨rfl,rfl⟩:=h;simpa using k
 | v :: vs,b,a',b',u,w,h,k=>by
  simp only [ownL,Option.bind_eq_some_iff,Option.map_eq_some_iff,Prod.mk.injEq] at h
  obtain ⟨⟨v',u1⟩,h1,⟨vs',u2⟩,h2,rfl,rfl⟩:=h
  simp only [List.cons_append,ownL,h1,Option.bind_some,ownL_app2 h2 k,Option.map_some,List.append_assoc]
theorem ringV_own {u:List Nat} {r':AV} (h:own H (d + 1) r=some (r',u)):ownL (own H (d + 1)) (ringV st ver by' r ep ow)=some (ringV st ver by' r' ep ow,u):=by
 have:=ownL_app2 (vec_own (H:=H) (d:=d) (k:=st)) (ownL_app2 (a:=planV ver by' r) (a':=planV ver by' r') (u:=u) (by simp [h]) (prt_own (H:=H) (d:=d) (ep:=ep) (ow:=ow)))
 simpa [ringV] using this
theorem thaws_app2:∀ {a b:List AV} {H:Heap},thaws (a++b) H=((thaws a H).1++(thaws b (thaws a H).2).1,(thaws b (thaws a H).2).2)
 | [],b,H=>by simp
 | v :: vs,b,H=>by simp [thaws_app2 (a:=vs)]
@[simp] theorem ringV_thaws:thaws (ringV st ver by' r ep ow) H=(ringV st ver by' (thaw r H).1 ep ow,(thaw r H).2):=by
 unfold ringV
 simp [thaws_app2]
end
section
variable {kd n:Int} {key:List UInt8} {k st ep ow:Nat→Int} {q r q' r':AV} {ver by' part:Int} {H:Heap} {d:Nat}
@[simp] theorem deedV_len:(deedV kd n key k q st ver by' r ep ow part).length=56:=hard rfl
@[simp] theorem deedV_one:(deedV kd n key k q st ver by' r ep ow part).all AV.one=(AV.one q && AV.one r):=by
 unfold deedV
 rw [List.all_append,List.all_append,List.all_append,bagV_one,ringV_one]
 simp
@[simp] theorem deedV_take:(deedV kd n key k q st ver by' r ep ow part).take 56=deedV kd n key k q st ver by' r ep ow part:=hard rfl
@[simp] theorem deedV_f0:(deedV kd n key k q st ver by' r ep ow part).take 1=[I kd]:=hard rfl
@[simp] theorem deedV_f1:((deedV kd n key k q st ver by' r ep ow part).drop 1).take 1=[I n]:=hard rfl
@[simp] theorem deedV_t1:((deedV kd n key k q st ver by' r ep ow part).tail).take 1=[I n]:=hard rfl
@[simp] theorem deedV_f2:((deedV kd n key k q st ver by' r ep ow part).drop 2).take 1=[.str key]:=hard rfl
@[simp] theorem deedV_f3:((deedV kd n key k q st ver by' r ep ow part).drop 3).take 9=bagV k q:=hard rfl
@[simp] theorem deedV_f11:((deedV kd n key k q st ver by' r ep ow part).drop 11).take 1=[q]:=hard rfl
@[simp] theorem deedV_f12:((deedV kd n key k q st ver by' r ep ow part).drop 12).take 43=ringV st ver by' r ep ow:=hard rfl
@[simp] theorem deedV_f22:((deedV kd n key k q st ver by' r ep ow part).drop 22).take 1=[r]:=hard rfl
@[simp] theorem deedV_f55:((deedV kd n key k q st ver by' r ep ow part).drop 55).take 1=[I part]:=hard rfl
@[simp] theorem deedV_s0 {x:Int}:(deedV kd n key k q st ver by' r ep ow part).set 0 (I x)=deedV x n key k q st ver by' r ep ow part:=hard rfl
@[simp] theorem deedV_s1 {x:Int}:(deedV kd n key k q st ver by' r ep ow part).set 1 (I x)=deedV kd x key k q st ver by' r ep ow part:=hard rfl
@[simp] theorem deedV_s2 {x:List UInt8}:(deedV kd n key k q st ver by' r ep ow part).set 2 (.str x)=deedV kd n x k q st ver by' r ep ow part:=hard rfl
@[simp] theorem deedV_s11:(deedV kd n key k q st ver by' r ep ow part).set 11 q'=deedV kd n key k q' st ver by' r ep ow part:=hard rfl
@[simp] theorem deedV_s22:(deedV kd n key k q st ver by' r ep ow part).set 22 r'=deedV kd n key k q st ver by' r' ep ow part:=hard rfl
@[simp] theorem deedV_s55 {x:Int}:(deedV kd n key k q st ver by' r ep ow part).set 55 (I x)=deedV kd n key k q st ver by' r ep ow x:=hard rfl
@[simp] theorem deedV_s3 {k':Nat→Int}:setFrom (deedV kd n key k q st ver by' r ep ow part) 3 (bagV k' q')=deedV kd n key k' q' st ver by' r ep ow part:=hard rfl
@[simp] theorem deedV_s12 {st' ep' ow':Nat→Int} {ver2 by2:Int}:setFrom (deedV kd n key k q st ver by' r ep ow part) 12 (ringV st' ver2 by2 r' ep' ow')=deedV kd n key k q st' ver2 by2 r' ep' ow' part:=by kernel_rfl
theorem deedV_frz {q2 r2:AV} (h1:frz H (d + 1) q=some q2) (h2:frz H (d + 1) r=some r2):mapO (frz H (d + 1)) (deedV kd n key k q st ver by' r ep ow part)=some (deedV kd n key k q2 st ver by' r2 ep ow part) :=
 mapO_app (a:=[I kd,I n,.str key]) (by simp) (mapO_app (by simp [h1]) (mapO_app (by simp [h2]) (by simp)))
theorem deedV_own {q2 r2:AV} {u w:List Nat} (h1:own H (d + 1) q=some (q2,u)) (h2:own H (d + 1) r=some (r2,w)):ownL (own H (d + 1)) (deedV kd n key k q st ver by' r ep ow part)=some (deedV kd n key k q2 st ver by' r2 ep ow part,u++w):=by
 have:=ownL_app2 (g:=own H (d + 1)) (a:=[I kd,I n,.str key]) (a':=[I kd,I n,.str key]) (u:=[]) (by simp) (ownL_app2 (a:=bagV k q) (a':=bagV k q2) (u:=u) (by simp [h1]) (ownL_app2 (ringV_own (st:=st) (ver:=ver) (by':=by') (ep:=ep) (ow:=ow) h2) (b:=[I part]) (b':=[I part]) (w:=[]) (by simp)))
 rw [List.append_nil,List.nil_append] at this
 exact this
@[simp] theorem deedV_thaws:thaws (deedV kd n key k q st ver by' r ep ow part) H=(deedV kd n key k (thaw q H).1 st ver by' (thaw r (thaw q H).2).1 ep ow part,(thaw r (thaw q H).2).2):=by
 unfold deedV
 simp [thaws_app2]
end
def zDeed:List AV:=deedV 0 0 [] zeroV .nilsl zeroV 0 0 .nilsl zeroV zeroV 0
theorem deed_zero {q r:AV}:[I 0,I 0,.str [],I 0,I 0,I 0,I 0,I 0,I 0,I 0,I 0,q,I 0,I 0,I 0,I 0,I 0,I 0,I 0,I 0,I 0,I 0,r,I 0,I 0,I 0,I 0,I 0,I 0,I 0,I 0,I 0,I 0,I 0,I 0,I 0,I 0,I 0,I 0,I 0,I 0,I 0,I 0,I 0,I 0,I 0,I 0,I 0,I 0,I 0,I 0,I 0,I 0,I 0,I 0,I 0]=deedV 0 0 [] zeroV q zeroV 0 0 r zeroV zeroV 0:=hard rfl
theorem ring_zero {r:AV}:[I 0,I 0,I 0,I 0,I 0,I 0,I 0,I 0,I 0,I 0,r,I 0,I 0,I 0,I 0,I 0,I 0,I 0,I 0,I 0,I 0,I 0,I 0,I 0,I 0,I 0,I 0,I 0,I 0,I 0,I 0,I 0,I 0,I 0,I 0,I 0,I 0,I 0,I 0,I 0,I 0,I 0,I 0]=ringV zeroV 0 0 r zeroV zeroV:=hard rfl
end Go.Proofs.YtgbnbgkldeifkaaGreatA
namespace Go.Proofs.YtgbnbgkldeifkaaGreatA
open Go
set_option linter.unusedSimpArgs false
set_option maxRecDepth 1000000
def vecMay (k:Nat→Int):Bool:=(List.range 8).all fun i=>decide (0≤k i) && decide (k i≤1000000)
def joinV (a b:Nat→Int):Nat→Int:=fun i=>max (a i) (b i)
def nodeOk (n:Int):Bool:=decide (0≤n) && decide (n < 8)
def has (k:Nat→Int) (a b:Int):Bool:=nodeOk a && (decide (1≤b) && decide (b≤k a.toNat))
def withV (k:Nat→Int) (a b:Int):Nat→Int:=if nodeOk a then upd k a.toNat (max (k a.toNat) b) else k
def belowV (a b:Nat→Int):Bool:=vecEq (joinV a b) b
def cmpI (a b:Int):Int:=if a < b then -1 else if b < a then 1 else 0
def dotCmp (a b c d:Int):Int:=if cmpI a c ≠ 0 then cmpI a c else cmpI b d
theorem nodeOk_iff {n:Int}:nodeOk n=true ↔ 0≤n∧n < 8:=by simp [nodeOk]
theorem c159 (n:Int):Pu envE 159 [I n] (.bool (nodeOk n)):=by
 refine pu_is e159 rfl ?_
 rw [fr_init (by simp [fd159])]
 by_cases h:0≤n <;> simp [fd159,b159,h,nodeOk]
@[simp] theorem k159 {n:Int} {H:Heap} {K:AV→Heap→Prop}:wPu envE 159 (some [I n]) H K=K (.bool (nodeOk n)) H:=(wPu_eq (c159 n)).trans (by simp)
theorem c116 (k:Nat→Int):Pu envE 116 [.agg (vecC k)] (.bool (vecMay k)):=by
 refine pu_is e116 rfl ?_
 rw [fr_init (by simp [fd116])]
 simp [fd116,b116]
 refine loop_fr (n:=16) [5,6] rfl (fun m vs H=>∃ i,m + i=8∧(∀ j,j < i→0≤k j∧k j≤1000000)∧vs=[.agg (vecC k),I i]) ?_ ⟨8,[.agg (vecC k),I 0],⟨0,rfl,by omega,rfl⟩,rfl,_,fr_pick [5,6]⟩
 rintro m vs H b - ⟨i,hm,hall,rfl⟩
 by_cases hi:i < 8
 · have hw:=wrap_succ (i:=i) (by omega)
   have hi':(i:Int) < 8:=by omega
   by_cases h1:k i < 0
   · simp [lp116_0,hi,hi',h1,vecMay]
     exact ⟨i,hi,fun q=>absurd h1 (by omega)⟩
   · by_cases h2:1000000 < k i
     · simp [lp116_0,hi,hi',h1,h2,vecMay]
       exact ⟨i,hi,fun q=>h2⟩
     · simp [lp116_0,hi,hi',h1,h2,hw]
       exact ⟨m - 1,by omega,[.agg (vecC k),I (i + 1:Nat)],⟨i + 1,by omega,fun j hj=>by
        rcases Nat.lt_or_ge j i with q | q
        · exact hall j q
        · obtain rfl:j=i:=by omega
          omega,rfl⟩,rfl,_,fr_pick [5,6]⟩
 · have hi':¬ (i:Int) < 8:=by omega
   simp [lp116_0,hi',vecMay]
   exact fun j hj=>hall j (by omega)
@[simp] theorem k116 {k:Nat→Int} {H:Heap} {K:AV→Heap→Prop}:wPu envE 116 (some [.agg (vecC k)]) H K=K (.bool (vecMay k)) H:=(wPu_eq (c116 k)).trans (by simp)
theorem c119 (a c:Nat→Int):Pu envE 119 [.agg (vecC a),.agg (vecC c)] (.agg (vecC (joinV a c))):=by
 refine pu_is e119 rfl ?_
 rw [fr_init (by simp [fd119])]
 simp [fd119,b119]
 refine loop_fr (n:=21) [2,4,7,8] rfl (fun m vs H=>∃ i,m + i=8∧H=[.cells false (vecC fun j=>if j < i then max (a j) (c j) else a j),.cells false (vecC c),.cells false [I 0,I 0,I 0,I 0,I 0,I 0,I 0,I 0]]∧vs=[.ptr (some (0,0)),.ptr (some (2,0)),.agg (vecC c),I i]) ?_ ⟨8,[.ptr (some (0,0)),.ptr (some (2,0)),.agg (vecC c),I 0],⟨0,rfl,by simp,rfl⟩,rfl,_,fr_pick [2,4,7,8]⟩
 rintro m vs H b - ⟨i,hm,rfl,rfl⟩
 by_cases hi:i < 8
 · have hw:=wrap_succ (i:=i) (by omega)
   have hi':(i:Int) < 8:=by omega
   have hi2:i≤7:=by omega
   simp [lp119_0,hi,hi',hi2,hw]
   refine ⟨m - 1,by omega,[.ptr (some (0,0)),.ptr (some (2,0)),.agg (vecC c),I (i + 1:Nat)],⟨i + 1,by omega,?_,rfl⟩,rfl,_,fr_pick [2,4,7,8]⟩
   refine vec_ext fun j hj=>?_
   simp only [upd]
   by_cases q:j=i
   · subst q;simp
   · by_cases q2:j < i
     · simp [q,q2,Nat.lt_succ_of_lt q2]
     · have q3:¬ j < i + 1:=by omega
       simp [q,q2,q3]
 · have hi':¬ (i:Int) < 8:=by omega
   have e:vecC (fun j=>if j < i then max (a j) (c j) else a j)=vecC (joinV a c):=vec_ext fun j hj=>by
    have:j < i:=by omega
    simp [this,joinV]
   simp [lp119_0,hi',e]
@[simp] theorem k119 {a c:Nat→Int} {H:Heap} {K:AV→Heap→Prop}:wPu envE 119 (some [.agg (vecC a),.agg (vecC c)]) H K=K (.agg (vecC (joinV a c))) H:=(wPu_eq (c119 a c)).trans (by simp)
theorem c124 (k:Nat→Int) (a c:Int):Pu envE 124 [.agg (vecC k),.agg [I a,I c]] (.bool (has k a c)):=by
 refine pu_is e124 rfl ?_
 rw [fr_init (by simp [fd124])]
 by_cases h:nodeOk a=true
 · obtain ⟨h1,h2⟩:=nodeOk_iff.1 h
   have h3:a.toNat < 8:=by omega
   by_cases h4:1≤c
   · simp [fd124,b124,h,h1,h2,h3,h4,has]
   · simp [fd124,b124,h,h4,has]
 · simp [fd124,b124,h,has]
@[simp] theorem k124 {k:Nat→Int} {a c:Int} {H:Heap} {K:AV→Heap→Prop}:wPu envE 124 (some [.agg (vecC k),.agg [I a,I c]]) H K=K (.bool (has k a c)) H:=(wPu_eq (c124 k a c)).trans (by simp)
theorem c125 (k:Nat→Int) (a c:Int):Pu envE 125 [.agg (vecC k),.agg [I a,I c]] (.agg (vecC (withV k a c))):=by
 refine pu_is e125 rfl ?_
 rw [fr_init (by simp [fd125])]
 by_cases h:nodeOk a=true
 · obtain ⟨h1,h2⟩:=nodeOk_iff.1 h
   have h3:a.toNat < 8:=by omega
   have h4:a.toNat≤7:=by omega
   simp [fd125,b125,h,h1,h2,h3,h4,withV]
 · simp [fd125,b125,h,withV]
@[simp] theorem k125 {k:Nat→Int} {a c:Int} {H:Heap} {K:AV→Heap→Prop}:wPu envE 125 (some [.agg (vecC k),.agg [I a,I c]]) H K=K (.agg (vecC (withV k a c))) H:=(wPu_eq (c125 k a c)).trans (by simp)
theorem c192 (n:Int):Pu envE 192 [I n] (.bool false):=by
 refine pu_is e192 rfl ?_
 rw [fr_init (by simp [fd192])]
 simp [fd192,b192]
@[simp] theorem k192 {n:Int} {H:Heap} {K:AV→Heap→Prop}:wPu envE 192 (some [I n]) H K=K (.bool false) H:=(wPu_eq (c192 n)).trans (by simp)
theorem c154 (a c:Int):Pu envE 154 [I a,I c] (I (cmpI a c)):=by
 refine pu_is e154 rfl ?_
 rw [fr_init (by simp [fd154])]
 by_cases h:a < c
 · simp [fd154,b154,h,cmpI]
 · by_cases h2:c < a
   · simp [fd154,b154,h,h2,cmpI]
   · simp [fd154,b154,h,h2,cmpI]
@[simp] theorem k154 {a c:Int} {H:Heap} {K:AV→Heap→Prop}:wPu envE 154 (some [I a,I c]) H K=K (I (cmpI a c)) H:=(wPu_eq (c154 a c)).trans (by simp)
def orL:List Int→Int
 | []=>0
 | a :: l=>if a ≠ 0 then a else orL l
theorem int_flat:Flat intC:=fun _ _ _=>hard rfl
theorem int_plain:Plain intC:=fun _ _ _=>hard rfl
theorem int_still:Still intC:=fun _ _=>by simp [intC]
theorem orL_skip:∀ (l:List Int) (i:Nat),(∀ j (hj:j < l.length),j < i→l[j]=0)→orL l=orL (l.drop i)
 | [],i,h=>by simp
 | a :: l,0,h=>by simp
 | a :: l,i + 1,h=>by
  have h0:a=0:=h 0 (by simp) (by omega)
  rw [List.drop_succ_cons,← orL_skip l i (fun j hj hji=>h (j + 1) (by simp;omega) (by omega))]
  simp [orL,h0]
theorem c153 (l:List Int) (hl:l.length < 4611686018427387904):Pu envE 153 [roL intC l] (I (orL l)):=by
 refine pu_is e153 rfl ?_
 rw [fr_init (by simp [fd153])]
 simp [fd153,b153]
 refine loop_fr (n:=18) [3,6,7,8] rfl (fun m vs H=>∃ i,m + i=l.length∧(∀ j (hj:j < l.length),j < i→l[j]=0)∧vs=[I 0,roL intC l,I l.length,I i]) ?_ ⟨l.length,[I 0,roL intC l,I l.length,I 0],⟨0,rfl,by omega,rfl⟩,rfl,_,fr_pick [3,6,7,8]⟩
 rintro m vs H b - ⟨i,hm,hall,rfl⟩
 by_cases hi:i < l.length
 · have hw:=wrap_succ (i:=i) (by omega)
   have hload:loadAt H none (.tp ((l.flatMap intC).drop (i * 1)))=some (I l[i]):=load_roL1 (fun _=>rfl) hi
   rw [Nat.mul_one] at hload
   have ho:orL l=orL (l[i] :: l.drop (i + 1)):=by rw [orL_skip l i hall,List.drop_eq_getElem_cons hi]
   by_cases h0:l[i]=0
   · simp [lp153_0,hi,hw,idxSl_roL hi,hload,h0,-load_tp]
     exact ⟨m - 1,by omega,[I 0,roL intC l,I l.length,I (i + 1:Nat)],⟨i + 1,by omega,fun j hj hji=>by
      rcases Nat.lt_or_ge j i with q | q
      · exact hall j hj q
      · obtain rfl:j=i:=by omega
        exact h0,rfl⟩,rfl,_,fr_pick [3,6,7,8]⟩
   · simp [lp153_0,hi,hw,idxSl_roL hi,hload,h0,-load_tp,ho,orL]
 · have e:orL l=0:=by rw [orL_skip l i hall,List.drop_of_length_le (by omega)];rfl
   simp [lp153_0,hi,e]
@[simp] theorem k153 {l:List Int} {H:Heap} {K:AV→Heap→Prop} (hl:l.length < 4611686018427387904):wPu envE 153 (some [roL intC l]) H K=K (I (orL l)) H:=(wPu_eq (c153 l hl)).trans (by simp)
@[simp] theorem ints2 {a c:Int}:AV.ro 2 [I a,I c]=roL intC [a,c]:=hard rfl
@[simp] theorem ints4 {a c d e:Int}:AV.ro 4 [I a,I c,I d,I e]=roL intC [a,c,d,e]:=hard rfl
theorem frz_sl {H:Heap} {d b n es:Nat} {cs:List AV} (h:H.cells? b=some cs) (hn:0 < n) (hl:n * es=cs.length):frz H (d + 1) (.sl b 0 n es)=(mapO (frz H d) cs).map (.ro n):=by
 unfold frz
 have e:n ≠ 0:=by omega
 simp only [e,if_false,h,Option.bind_some]
 rw [cut_all hl.symm]
 rfl
theorem c118 (a c a' c':Int):Pu envE 118 [.agg [I a,I c],.agg [I a',I c']] (I (dotCmp a c a' c')):=by
 refine pu_is e118 rfl ?_
 rw [fr_init (by simp [fd118])]
 have e:orL [cmpI a a',cmpI c c']=dotCmp a c a' c':=by
  simp only [orL,dotCmp]
  split
  · rfl
  · split
    · rfl
    · rename_i h;simp at h;exact h.symm
 simp [fd118,b118,frz_sl,e]
@[simp] theorem k118 {a c a' c':Int} {H:Heap} {K:AV→Heap→Prop}:wPu envE 118 (some [.agg [I a,I c],.agg [I a',I c']]) H K=K (I (dotCmp a c a' c')) H:=(wPu_eq (c118 a c a' c')).trans (by simp)
end Go.Proofs.YtgbnbgkldeifkaaGreatA
namespace Go.Proofs.YtgbnbgkldeifkaaGreatA
open Go
set_option linter.unusedSimpArgs false
set_option maxRecDepth 1000000
def valMay (v:Val) (k:Nat→Int):Bool:=has k v.node v.n && decide (v.data.length≤64)
def dlt (u v:Val):Bool:=decide (dotCmp u.node u.n v.node v.n < 0)
def goodL (l:List Val) (k:Nat→Int):Bool:=decide (∀ i:Fin l.length,valMay l[i] k=true∧(0 < i.1→dlt (l[i.1 - 1]'(by omega)) l[i]=true))
def bagMay (k:Nat→Int) (l:List Val):Bool:=vecMay k && (decide (l.length≤32) && goodL l k)
def bagSame (k:Nat→Int) (l:List Val) (k':Nat→Int) (l':List Val):Bool:=vecEq k k' && decide (l=l')
theorem valC_load {l:List Val} {i:Nat} (hi:i < l.length) {H:Heap}:loadAt H (some 3) (.tp ((l.flatMap valC).drop (i * 3)))=some (.agg (valC l[i])):=load_roL valC_len hi
theorem wrap_pred {i:Nat} (h:i < 4611686018427387904) (h0:0 < i):IntKind.i64.wrap ((i:Int) - 1)=((i - 1:Nat):Int):=by
 rw [wrap_i64] <;> omega
theorem c117 (v:Val) (k:Nat→Int):Pu envE 117 [.agg (valC v),.agg (vecC k)] (.bool (valMay v k)):=by
 refine pu_is e117 rfl ?_
 rw [fr_init (by simp [fd117])]
 cases h:has k v.node v.n
 · simp [fd117,b117,h,valMay]
 · have e:decide ((v.data.length:Int)≤64)=decide (v.data.length≤64):=decide_eq_decide.2 (by omega)
   simp [fd117,b117,h,valMay,e]
@[simp] theorem k117 {v:Val} {k:Nat→Int} {H:Heap} {K:AV→Heap→Prop}:wPu envE 117 (some [.agg (valC v),.agg (vecC k)]) H K=K (.bool (valMay v k)) H:=(wPu_eq (c117 v k)).trans (by simp)
theorem c71 (k:Nat→Int) (l:List Val) (hl:l.length < 4611686018427387904):Pu envE 71 [.agg (bagV k (roL valC l))] (.bool (bagMay k l)):=by
 refine pu_is e71 rfl ?_
 rw [fr_init (by simp [fd71])]
 by_cases hv:vecMay k=true
 case neg=>simp [fd71,b71,hv,bagMay]
 by_cases h32:(32:Int) < l.length
 case pos =>
  have:¬ l.length≤32:=by omega
  simp [fd71,b71,hv,h32,bagMay,this]
 have h32':l.length≤32:=by omega
 simp [fd71,b71,hv,h32]
 refine loop_go [1,16,17,18] rfl (fun m vs H=>∃ i X,m + i=l.length∧(∀ j (hj:j < l.length),j < i→valMay l[j] k=true∧(0 < j→dlt (l[j - 1]'(by omega)) l[j]=true))∧H=.cells false (bagV k (roL valC l)) :: X∧vs=[.ptr (some (0,0)),roL valC l,I l.length,I i]) ?_ l.length ⟨0,[],rfl,by omega,rfl,rfl⟩
 rintro J hJ m vs H b ⟨i,X,hm,hall,rfl,rfl⟩
 by_cases hi:i < l.length
 · have hw:=wrap_succ (i:=i) (by omega)
   have hld:=valC_load hi (H:=.cells false (bagV k (roL valC l)) :: X)
   have bad:¬ (valMay l[i] k=true∧(0 < i→dlt (l[i - 1]'(by omega)) l[i]=true))→bagMay k l=false:=fun q=>by
    have:goodL l k=false:=decide_eq_false fun hg=>q (hg ⟨i,hi⟩)
    simp [bagMay,this]
   have next:(valMay l[i] k=true∧(0 < i→dlt (l[i - 1]'(by omega)) l[i]=true))→∀ j (hj:j < l.length),j < i + 1→valMay l[j] k=true∧(0 < j→dlt (l[j - 1]'(by omega)) l[j]=true):=fun q j hj hji=>by
    rcases Nat.lt_or_ge j i with q1 | q1
    · exact hall j hj q1
    · obtain rfl:j=i:=by omega
      exact q
   by_cases hm1:valMay l[i] k=true
   · by_cases hi0:0 < i
     · have hw2:=wrap_pred (i:=i) (by omega) hi0
       have hi1:i - 1 < l.length:=by omega
       have hcut:cut ((l.flatMap valC).drop ((i - 1) * 3)) 0 2=some [I (l[i - 1]).node,I (l[i - 1]).n]:=by
        rw [flat_cut valC_len hi1 (by omega)]
        rfl
       have hld2:loadAt (.cells false (bagV k (roL valC l)) :: (X++[.cells false (valC l[i])])) (some 2) (.tp ((l.flatMap valC).drop ((i - 1) * 3)))=some (.agg [I (l[i - 1]).node,I (l[i - 1]).n]):=by
        simp only [load_tp,Option.getD_some,hcut,Option.bind_some,shape_some]
       by_cases hd:dlt l[i - 1] l[i]=true
       · have hd':¬ 0≤dotCmp l[i - 1].node l[i - 1].n l[i].node l[i].n:=by simpa [dlt] using hd
         simp [lp71_0,hi,hw,hw2,idxSl_roL hi,idxSl_roL hi1,hld,hld2,hm1,hi0,hd',-load_tp]
         exact nxt hJ (m - 1) (by omega) ⟨i + 1,X++[.cells false (valC l[i])],by omega,next ⟨hm1,fun _=>hd⟩,rfl,rfl⟩
       · have hd':0≤dotCmp l[i - 1].node l[i - 1].n l[i].node l[i].n:=by simpa [dlt] using hd
         have hb:=bad fun q=>hd (q.2 hi0)
         simp [lp71_0,hi,hw,hw2,idxSl_roL hi,idxSl_roL hi1,hld,hld2,hm1,hi0,hd',hb,-load_tp]
     · simp [lp71_0,hi,hw,idxSl_roL hi,hld,hm1,hi0,-load_tp]
       exact nxt hJ (m - 1) (by omega) ⟨i + 1,X++[.cells false (valC l[i])],by omega,next ⟨hm1,fun q=>absurd q hi0⟩,rfl,rfl⟩
   · have hb:=bad fun q=>hm1 q.1
     simp [lp71_0,hi,hw,idxSl_roL hi,hld,hm1,hb,-load_tp]
 · have e:bagMay k l=true:=by
    have:goodL l k=true:=decide_eq_true fun j=>hall j.1 j.2 (by omega)
    simp [bagMay,this,hv,h32']
   simp [lp71_0,hi,e]
@[simp] theorem k71 {k:Nat→Int} {l:List Val} {H:Heap} {K:AV→Heap→Prop} (hl:l.length < 4611686018427387904):wPu envE 71 (some [.agg (bagV k (roL valC l))]) H K=K (.bool (bagMay k l)) H:=(wPu_eq (c71 k l hl)).trans (by simp)
theorem c76 (l r:List Val) (hl:l.length < 4611686018427387904):Pu envE 76 [roL valC l,roL valC r] (.bool (decide (l=r))):=by
 refine pu_is e76 rfl ?_
 rw [fr_init (by simp [fd76])]
 by_cases h:l.length=r.length
 case neg =>
  have h':¬ (l.length:Int)=r.length:=by omega
  have h2:¬ l=r:=fun e=>h (by rw [e])
  simp [fd76,b76,h',h2]
 simp [fd76,b76,h]
 refine loop_go [0,1,12,13] rfl (fun m vs H=>∃ i,m + i=l.length∧(∀ j (hj:j < l.length),j < i→l[j]=r[j])∧vs=[roL valC l,roL valC r,I l.length,I i]) ?_ l.length ⟨0,rfl,by omega,by simp [h,look]⟩
 rintro J hJ m vs H b ⟨i,hm,hall,rfl⟩
 by_cases hi:i < l.length
 · have hw:=wrap_succ (i:=i) (by omega)
   have hi2:i < r.length:=by omega
   have h1:=valC_load hi (H:=H)
   have h2:=valC_load hi2 (H:=H)
   by_cases hq:l[i]=r[i]
   · simp [lp76_0,hi,hw,idxSl_roL hi,idxSl_roL hi2,h1,h2,hq,-load_tp]
     exact nxt hJ (m - 1) (by omega) ⟨i + 1,by omega,fun j hj hji=>by
      rcases Nat.lt_or_ge j i with q | q
      · exact hall j hj q
      · obtain rfl:j=i:=by omega
        exact hq,rfl⟩
   · have h3:¬ l=r:=fun e=>hq (by subst e;rfl)
     simp [lp76_0,hi,hw,idxSl_roL hi,idxSl_roL hi2,h1,h2,hq,h3,-load_tp]
 · have h3:l=r:=List.ext_getElem h fun j h1 h2=>hall j h1 (by omega)
   simp [lp76_0,hi,h3]
   simp [← h3,hi]
@[simp] theorem k76 {l r:List Val} {H:Heap} {K:AV→Heap→Prop} (hl:l.length < 4611686018427387904):wPu envE 76 (some [roL valC l,roL valC r]) H K=K (.bool (decide (l=r))) H:=(wPu_eq (c76 l r hl)).trans (by simp)
theorem c25 (k k':Nat→Int) (l l':List Val) (hl:l.length < 4611686018427387904):Pu envE 25 [.agg (bagV k (roL valC l)),.agg (bagV k' (roL valC l'))] (.bool (bagSame k l k' l')):=by
 refine pu_is e25 rfl ?_
 rw [fr_init (by simp [fd25])]
 cases h:vecEq k k' <;> simp [fd25,b25,h,hl,bagSame]
@[simp] theorem k25 {k k':Nat→Int} {l l':List Val} {H:Heap} {K:AV→Heap→Prop} (hl:l.length < 4611686018427387904):wPu envE 25 (some [.agg (bagV k (roL valC l)),.agg (bagV k' (roL valC l'))]) H K=K (.bool (bagSame k l k' l')) H:=(wPu_eq (c25 k k' l l' hl)).trans (by simp)
end Go.Proofs.YtgbnbgkldeifkaaGreatA
namespace Go.Proofs.YtgbnbgkldeifkaaGreatA
open Go
set_option linter.unusedSimpArgs false
set_option maxRecDepth 1000000
theorem cmpI_neg {a b:Int}:cmpI a b < 0 ↔ a < b:=by unfold cmpI;split <;> (try split) <;> omega
theorem cmpI_zero {a b:Int}:cmpI a b=0 ↔ a=b:=by unfold cmpI;split <;> (try split) <;> omega
theorem dot_neg {a b c d:Int}:dotCmp a b c d < 0 ↔ a < c∨a=c∧b < d:=by
 unfold dotCmp
 have h1:=cmpI_neg (a:=a) (b:=c)
 have h2:=cmpI_zero (a:=a) (b:=c)
 have h3:=cmpI_neg (a:=b) (b:=d)
 split <;> omega
theorem dot_zero {a b c d:Int}:dotCmp a b c d=0 ↔ a=c∧b=d:=by
 unfold dotCmp
 have h1:=cmpI_neg (a:=a) (b:=c)
 have h2:=cmpI_zero (a:=a) (b:=c)
 have h3:=cmpI_zero (a:=b) (b:=d)
 split <;> omega
theorem dlt_iff {u v:Val}:dlt u v=true ↔ u.node < v.node∨u.node=v.node∧u.n < v.n:=by simp only [dlt,decide_eq_true_eq,dot_neg]
theorem dlt_trans {u v w:Val} (h:dlt u v=true) (k:dlt v w=true):dlt u w=true:=by
 rw [dlt_iff] at *
 omega
def Asc (l:List Val):Prop:=l.Pairwise fun u v=>dlt u v=true
theorem asc_of {l:List Val} {k:Nat→Int} (h:goodL l k=true):Asc l:=by
 have h:=of_decide_eq_true h
 unfold Asc
 rw [List.pairwise_iff_getElem]
 intro i j hi hj hij
 induction j with
 | zero=>omega
 | succ j ih =>
  have h1:=(h ⟨j + 1,hj⟩).2 (by simp)
  rcases Nat.lt_or_ge i j with q | q
  · exact dlt_trans (ih (by omega) q) h1
  · obtain rfl:i=j:=by omega
    exact h1
theorem may_asc {k:Nat→Int} {l:List Val} (h:bagMay k l=true):Asc l:=by
 simp only [bagMay,Bool.and_eq_true] at h
 exact asc_of h.2.2
theorem may_len {k:Nat→Int} {l:List Val} (h:bagMay k l=true):l.length≤32:=by
 simp only [bagMay,Bool.and_eq_true,decide_eq_true_eq] at h
 exact h.2.1
def below (a c:Int) (v:Val):Bool:=decide (dotCmp v.node v.n a c < 0)
def pos (l:List Val) (a c:Int):Nat:=(l.takeWhile (below a c)).length
def isAt (l:List Val) (a c:Int):Bool:=l.any fun v=>decide (v.node=a∧v.n=c)
theorem pos_eq:∀ {l:List Val} {a c:Int} {i:Nat},i≤l.length→(∀ j (hj:j < l.length),j < i→below a c l[j]=true)→(∀ (hi:i < l.length),below a c l[i]=false)→pos l a c=i
 | [],a,c,i,h,_,_=>by simp at h;subst h;rfl
 | v :: l,a,c,0,h,_,h2=>by
  have:=h2 (by simp)
  simp only [List.getElem_cons_zero] at this
  simp [pos,List.takeWhile_cons,this]
 | v :: l,a,c,i + 1,h,h1,h2=>by
  have h3:=h1 0 (by simp) (by omega)
  simp only [List.getElem_cons_zero] at h3
  have ih:=pos_eq (l:=l) (a:=a) (c:=c) (i:=i) (by simpa using h) (fun j hj hji=>h1 (j + 1) (by simpa using hj) (by omega)) (fun hi=>h2 (by simpa using hi))
  simp only [pos] at ih
  simp [pos,List.takeWhile_cons,h3,ih]
theorem isAt_eq {l:List Val} {a c:Int} {i:Nat} (hs:Asc l) (hi:i < l.length) (h1:∀ j (hj:j < l.length),j < i→below a c l[j]=true) (h2:below a c l[i]=false):isAt l a c=decide (dotCmp l[i].node l[i].n a c=0):=by
 unfold Asc at hs
 rw [List.pairwise_iff_getElem] at hs
 rw [Bool.eq_iff_iff]
 simp only [isAt,List.any_eq_true,decide_eq_true_eq,dot_zero]
 constructor
 · rintro ⟨v,hv,q1,q2⟩
   obtain ⟨j,hj,rfl⟩:=List.mem_iff_getElem.1 hv
   rcases Nat.lt_trichotomy j i with q | q | q
   · have:=h1 j hj q
     simp only [below,decide_eq_true_eq,dot_neg] at this
     omega
   · subst q;exact ⟨q1,q2⟩
   · have:=hs i j hi hj q
     rw [dlt_iff] at this
     simp only [below,decide_eq_false_iff_not,dot_neg] at h2
     omega
 · exact fun q=>⟨l[i],List.getElem_mem _,q⟩
theorem isAt_end {l:List Val} {a c:Int} (h1:∀ j (hj:j < l.length),below a c l[j]=true):isAt l a c=false:=by
 rw [Bool.eq_false_iff]
 simp only [isAt,Ne,List.any_eq_true,decide_eq_true_eq]
 rintro ⟨v,hv,q1,q2⟩
 obtain ⟨j,hj,rfl⟩:=List.mem_iff_getElem.1 hv
 have:=h1 j hj
 simp only [below,decide_eq_true_eq,dot_neg] at this
 omega
theorem c156 (v:Val) (a c:Int) (lim:Nat) (H:Heap):Cl envE 156 [.agg (valC v),.agg [I a,I c]] lim H (I (dotCmp v.node v.n a c)) (H++[.cells false (valC v),.cells false [I a,I c]]):=by
 refine cl_is e156 rfl ?_
 rw [fr_init (by simp [fd156])]
 simp [fd156,b156]
@[simp] theorem k156 {v:Val} {a c:Int} {lim:Nat} {H:Heap} {K:AV→Heap→Prop}:WCl envE 156 [.agg (valC v),.agg [I a,I c]] lim H K=K (I (dotCmp v.node v.n a c)) (H++[.cells false (valC v),.cells false [I a,I c]]):=WCl_eq (c156 v a c lim H)
theorem c155 (l:List Val) (a c:Int) (hs:Asc l) (hl:l.length < 4611686018427387904) (lim:Nat) (H:Heap) (hlim:lim≤H.length):WCl envE 155 [roL valC l,.agg [I a,I c],.fn (.func 156) [] []] lim H fun r H'=>r=.tup [I (pos l a c),.bool (isAt l a c)]∧∃ X,H'=H++X:=by
 refine cl_of e155 rfl ?_
 rw [fr_init (by simp [fd155])]
 simp [fd155,b155]
 refine loop_go [0,2,4,8,9,10] rfl (fun m vs H'=>∃ (i j:Nat) (X:Heap),i + m=j∧j≤l.length∧(∀ t (ht:t < l.length),t < i→below a c l[t]=true)∧(∀ t (ht:t < l.length),j≤t→below a c l[t]=false)∧H'=H++.cells false [I a,I c] :: X∧vs=[roL valC l,.fn (.func 156) [] [],.ptr (some (H.length,0)),I l.length,I i,I j]) ?_ l.length ⟨0,l.length,[],by omega,by omega,by omega,by omega,rfl,rfl⟩
 rintro J hJ m vs H' b ⟨i,j,X,hm,hj,h1,h2,rfl,rfl⟩
 by_cases hij:i < j
 · obtain ⟨s,hs1⟩:∃ s,s=i + j:=⟨_,rfl⟩
   obtain ⟨h,hh⟩:∃ h,h=s / 2:=⟨_,rfl⟩
   have hw1:IntKind.i64.wrap ((i:Int) + j)=(s:Int):=by rw [wrap_i64] <;> omega
   have hw2:IntKind.u64.wrap (s:Int)=(s:Int):=by simp [IntKind.wrap,IntKind.signed,IntKind.bits];omega
   have hw3:(s:Int).fdiv (2 ^ min 1 IntKind.u64.bits)=(h:Int):=by
    have e:(2:Int) ^ min 1 IntKind.u64.bits=2:=rfl
    rw [e,Int.fdiv_eq_ediv_of_nonneg _ (by omega)];omega
   have hw4:IntKind.i64.wrap (h:Int)=(h:Int):=by rw [wrap_i64] <;> omega
   have hw5:=wrap_succ (i:=h) (by omega)
   have hi:h < l.length:=by omega
   have hld:=valC_load hi (H:=H++.cells false [I a,I c] :: X)
   have asc:=hs
   unfold Asc at asc
   rw [List.pairwise_iff_getElem] at asc
   have hlim2:lim≤H.length + (X.length + 1):=by omega
   by_cases hb:dotCmp l[h].node l[h].n a c < 0
   · simp [lp155_0,hij,hw1,hw2,hw3,hw4,hw5,idxSl_roL hi,hld,hb,hlim2,-load_tp]
     exact nxt hJ (j - (h + 1)) (by omega) ⟨h + 1,j,X++[.cells false (valC l[h]),.cells false [I a,I c]],by omega,hj,fun t ht hti=>by
      rcases Nat.lt_or_ge t h with q | q
      · have:=asc t h ht hi q
        rw [dlt_iff] at this
        rw [dot_neg] at hb
        simp only [below,decide_eq_true_eq,dot_neg]
        omega
      · obtain rfl:t=h:=by omega
        simpa [below] using hb,h2,by simp,rfl⟩
   · simp [lp155_0,hij,hw1,hw2,hw3,hw4,hw5,idxSl_roL hi,hld,hb,hlim2,-load_tp]
     exact nxt hJ (h - i) (by omega) ⟨i,h,X++[.cells false (valC l[h]),.cells false [I a,I c]],by omega,by omega,h1,fun t ht hti=>by
      rcases Nat.lt_or_ge h t with q | q
      · have:=asc h t hi ht q
        rw [dlt_iff] at this
        rw [dot_neg] at hb
        simp only [below,decide_eq_false_iff_not,dot_neg]
        omega
      · obtain rfl:t=h:=by omega
        simpa [below] using hb,by simp,rfl⟩
 · obtain rfl:i=j:=by omega
   have hlim2:lim≤H.length + (X.length + 1):=by omega
   have hp:pos l a c=i:=pos_eq hj h1 fun hi=>h2 i hi (Nat.le_refl i)
   by_cases hi:i < l.length
   · have hld:=valC_load hi (H:=H++.cells false [I a,I c] :: X)
     have hat:=isAt_eq hs hi h1 (h2 i hi (Nat.le_refl _))
     have e:(dotCmp l[i].node l[i].n a c == 0)=isAt l a c:=by rw [hat];rfl
     simp [lp155_0,hi,idxSl_roL hi,hld,hlim2,hp,e,-load_tp]
   · have hat:isAt l a c=false:=isAt_end fun t ht=>h1 t ht (by omega)
     simp [lp155_0,hi,hlim2,hp,hat]
theorem c121 (l:List Val) (a c:Int) (hs:Asc l) (hl:l.length < 4611686018427387904):Pu envE 121 [roL valC l,.agg [I a,I c]] (.tup [I (pos l a c),.bool (isAt l a c)]):=by
 refine pu_is e121 rfl ?_
 rw [fr_init (by simp [fd121])]
 simp [fd121,b121]
 refine WCl.mono (c155 l a c hs hl _ _ (by simp)) ?_
 rintro _ _ ⟨rfl,X,rfl⟩
 simp
@[simp] theorem k121 {l:List Val} {a c:Int} {H:Heap} {K:AV→Heap→Prop} (hs:Asc l) (hl:l.length < 4611686018427387904):wPu envE 121 (some [roL valC l,.agg [I a,I c]]) H K=K (.tup [I (pos l a c),.bool (isAt l a c)]) H:=(wPu_eq (c121 l a c hs hl)).trans (by simp)
end Go.Proofs.YtgbnbgkldeifkaaGreatA
namespace Go.Proofs.YtgbnbgkldeifkaaGreatA
open Go
set_option linter.unusedSimpArgs false
set_option maxRecDepth 1000000
def keeps (k:Nat→Int) (r:List Val) (v:Val):Bool:=isAt r v.node v.n || !has k v.node v.n
def staysL (l:List Val) (k:Nat→Int) (r:List Val):List Val:=l.filter (keeps k r)
theorem filter_take_succ {α:Type} {p:α→Bool} {l:List α} {i:Nat} (hi:i < l.length):(l.take (i + 1)).filter p=(l.take i).filter p++(if p l[i] then [l[i]] else []):=by
 rw [List.take_succ_eq_append_getElem hi,List.filter_append]
 cases h:p l[i] <;> simp [h]
theorem filter_len_le {α:Type} {p:α→Bool} {l:List α} {i:Nat}:((l.take i).filter p).length≤l.length:=by
 have h1:=List.length_filter_le p (l.take i)
 have h2:=List.length_take_le' i l
 omega
def insV (l:List Val) (v:Val):List Val:=l.take (pos l v.node v.n)++v :: l.drop (pos l v.node v.n)
def putIn (l:List Val) (v:Val):List Val:=if isAt l v.node v.n then l else insV l v
theorem takeWhile_len {α:Type} {p:α→Bool}:∀ {l:List α},l.take (l.takeWhile p).length=l.takeWhile p∧l.drop (l.takeWhile p).length=l.dropWhile p
 | []=>by simp
 | a :: l=>by
  cases h:p a
  · simp [List.takeWhile_cons,List.dropWhile_cons,h]
  · simp [List.takeWhile_cons,List.dropWhile_cons,h,takeWhile_len (l:=l)]
theorem insV_eq {l:List Val} {v:Val}:insV l v=l.takeWhile (below v.node v.n)++v :: l.dropWhile (below v.node v.n):=by
 unfold insV pos
 rw [takeWhile_len.1,takeWhile_len.2]
theorem mem_insV {l:List Val} {v u:Val}:u ∈ insV l v ↔ u=v∨u ∈ l:=by
 have e:l.takeWhile (below v.node v.n)++l.dropWhile (below v.node v.n)=l:=List.takeWhile_append_dropWhile
 rw [insV_eq]
 constructor
 · intro h
   rcases List.mem_append.1 h with h | h
   · exact .inr (by rw [← e];exact List.mem_append_left _ h)
   · rcases List.mem_cons.1 h with h | h
     · exact .inl h
     · exact .inr (by rw [← e];exact List.mem_append_right _ h)
 · rintro (rfl | h)
   · simp
   · rw [← e] at h
     rcases List.mem_append.1 h with h | h
     · exact List.mem_append_left _ h
     · exact List.mem_append_right _ (.tail _ h)
theorem insV_len {l:List Val} {v:Val}:(insV l v).length=l.length + 1:=by
 have e:l.takeWhile (below v.node v.n)++l.dropWhile (below v.node v.n)=l:=List.takeWhile_append_dropWhile
 have:=congrArg List.length e
 rw [List.length_append] at this
 rw [insV_eq]
 simp
 omega
theorem pos_le {l:List Val} {a c:Int}:pos l a c≤l.length:=by
 have e:l.takeWhile (below a c)++l.dropWhile (below a c)=l:=List.takeWhile_append_dropWhile
 have:=congrArg List.length e
 rw [List.length_append] at this
 unfold pos
 omega
theorem takeWhile_all {α:Type} {p:α→Bool}:∀ {l:List α} {x:α},x ∈ l.takeWhile p→p x=true
 | a :: l,x,h=>by
  cases e:p a
  · simp [List.takeWhile_cons,e] at h
  · simp [List.takeWhile_cons,e] at h
    rcases h with rfl | h
    · exact e
    · exact takeWhile_all h
theorem dropWhile_first {α:Type} {p:α→Bool}:∀ {l:List α} {x:α} {r:List α},l.dropWhile p=x :: r→p x=false
 | a :: l,x,r,h=>by
  cases e:p a
  · simp [List.dropWhile_cons,e] at h
    rw [← h.1];exact e
  · simp [List.dropWhile_cons,e] at h
    exact dropWhile_first h
theorem insV_asc {l:List Val} {v:Val} (h:Asc l) (ha:isAt l v.node v.n=false):Asc (insV l v):=by
 have e:l.takeWhile (below v.node v.n)++l.dropWhile (below v.node v.n)=l:=List.takeWhile_append_dropWhile
 have h':=h
 rw [← e] at h'
 unfold Asc at h' ⊢
 rw [List.pairwise_append] at h'
 obtain ⟨h1,h2,h3⟩:=h'
 have lo:∀ u ∈ l.takeWhile (below v.node v.n),dlt u v=true:=fun u hu=>by
  have:=takeWhile_all hu
  simpa [below,dlt] using this
 have hi:∀ u ∈ l.dropWhile (below v.node v.n),dlt v u=true:=fun u hu=>by
  cases hd:l.dropWhile (below v.node v.n) with
  | nil=>rw [hd] at hu;cases hu
  | cons x r =>
   have hx:=dropWhile_first hd
   have hxl:x ∈ l:=by rw [← e,hd];simp
   have hne:¬ (x.node=v.node∧x.n=v.n):=fun q=>by
    have:isAt l v.node v.n=true:=by simp only [isAt,List.any_eq_true,decide_eq_true_eq];exact ⟨x,hxl,q⟩
    rw [ha] at this;cases this
   have hvx:dlt v x=true:=by
    simp only [below,decide_eq_false_iff_not,dot_neg] at hx
    rw [dlt_iff]
    omega
   rw [hd] at hu h2
   rcases List.mem_cons.1 hu with rfl | hu
   · exact hvx
   · exact dlt_trans hvx (List.rel_of_pairwise_cons h2 hu)
 rw [insV_eq,List.pairwise_append,List.pairwise_cons]
 exact ⟨h1,⟨hi,h2⟩,fun u hu w hw=>by
  rcases List.mem_cons.1 hw with rfl | hw
  · exact lo u hu
  · exact dlt_trans (lo u hu) (hi w hw)⟩
def joinL (ka:Nat→Int) (la:List Val) (kb:Nat→Int) (lb:List Val):List Val:=(staysL lb ka la).foldl putIn (staysL la kb lb)
def joinE (ka:Nat→Int) (la:List Val) (kb:Nat→Int) (lb:List Val):Int:=if bagMay ka la && bagMay kb lb then (if 32 < (joinL ka la kb lb).length then 5 else 0) else 1
def joinK (ka:Nat→Int) (la:List Val) (kb:Nat→Int) (lb:List Val):Nat→Int:=if joinE ka la kb lb=0 then joinV ka kb else zeroV
def joinR (ka:Nat→Int) (la:List Val) (kb:Nat→Int) (lb:List Val):List Val:=if joinE ka la kb lb=0 then joinL ka la kb lb else []
attribute [local simp] bagV_zero
theorem e122:envE.fn 122=some (.prim (insertG 3 32)):=rfl
end Go.Proofs.YtgbnbgkldeifkaaGreatA
namespace Go.Proofs.YtgbnbgkldeifkaaGreatA
open Go
set_option linter.unusedSimpArgs false
set_option maxRecDepth 1000000
attribute [local simp] bagV_zero
def belowB (ka:Nat→Int) (la:List Val) (kb:Nat→Int) (lb:List Val):Bool:=decide (joinE ka la kb lb=0) && bagSame (joinK ka la kb lb) (joinR ka la kb lb) kb lb
def keptL (known:Nat→Int) (l:List Val):List Val:=l.filter fun v=>!has known v.node v.n
def putL (l:List Val) (known:Nat→Int) (a c:Int) (data:List UInt8):List Val:=insV (keptL known l) ⟨a,c,data⟩
def dotOk (a c:Int):Bool:=nodeOk a && (decide (1≤c) && decide (c≤1000000))
def putMay (k:Nat→Int) (l:List Val) (known:Nat→Int) (a c:Int) (data:List UInt8):Bool:=bagMay k l && (vecMay known && (dotOk a c && (!has k a c && decide (data.length≤64))))
def putE (k:Nat→Int) (l:List Val) (known:Nat→Int) (a c:Int) (data:List UInt8):Int:=if putMay k l known a c data then (if 32 < (putL l known a c data).length then 5 else 0) else 1
def putK (k:Nat→Int) (l:List Val) (known:Nat→Int) (a c:Int) (data:List UInt8):Nat→Int:=if putE k l known a c data=0 then withV (joinV k known) a c else zeroV
def putR (k:Nat→Int) (l:List Val) (known:Nat→Int) (a c:Int) (data:List UInt8):List Val:=if putE k l known a c data=0 then putL l known a c data else []
set_option maxHeartbeats 4000000 in
theorem c75 (k:Nat→Int) (l:List Val) (known:Nat→Int) (a c:Int) (data:List UInt8) (hl:l.length < 4611686018427387904):Pu envE 75 [.agg (bagV k (roL valC l)),.agg (vecC known),.agg [I a,I c],.str data] (.tup [.agg (bagV (putK k l known a c data) (owL 3 valC (putR k l known a c data))),I (putE k l known a c data)]):=by
 refine pu_is e75 rfl ?_
 rw [fr_init (by simp [fd75])]
 by_cases hm:putMay k l known a c data=true
 case neg =>
  have hE:putE k l known a c data=1:=by simp [putE,hm]
  have hK:putK k l known a c data=zeroV:=by simp [putK,hE]
  have hR:putR k l known a c data=[]:=by simp [putR,hE]
  rw [hE,hK,hR]
  have h64:data.length≤64 ↔ ¬ (64:Int) < data.length:=by omega
  by_cases m1:bagMay k l=true
  case neg =>
   by_cases d0:0≤a
   · by_cases d1:a < 8
     · by_cases d2:1≤c
       · by_cases d3:c≤1000000 <;> simp [fd75,b75,hl,d0,d1,d2,d3,m1,owL]
       · simp [fd75,b75,hl,d0,d1,d2,m1,owL]
     · simp [fd75,b75,hl,d0,d1,m1,owL]
   · simp [fd75,b75,hl,d0,m1,owL]
  by_cases m2:vecMay known=true
  case neg =>
   by_cases d0:0≤a
   · by_cases d1:a < 8
     · by_cases d2:1≤c
       · by_cases d3:c≤1000000 <;> simp [fd75,b75,hl,d0,d1,d2,d3,m1,m2,owL]
       · simp [fd75,b75,hl,d0,d1,d2,m1,m2,owL]
     · simp [fd75,b75,hl,d0,d1,m1,m2,owL]
   · simp [fd75,b75,hl,d0,m1,m2,owL]
  by_cases d0:0≤a
  case neg=>simp [fd75,b75,hl,d0,m1,m2,owL]
  by_cases d1:a < 8
  case neg=>simp [fd75,b75,hl,d0,d1,m1,m2,owL]
  by_cases d2:1≤c
  case neg=>simp [fd75,b75,hl,d0,d1,d2,m1,m2,owL]
  by_cases d3:c≤1000000
  case neg=>simp [fd75,b75,hl,d0,d1,d2,d3,m1,m2,owL]
  by_cases m3:has k a c=true
  case pos=>simp [fd75,b75,hl,d0,d1,d2,d3,m1,m2,m3,owL]
  have m4:(64:Int) < data.length:=by
   simp [putMay,dotOk,nodeOk,m1,m2,d0,d1,d2,d3,m3,h64] at hm
   omega
  simp [fd75,b75,hl,d0,d1,d2,d3,m1,m2,m3,m4,owL]
 have hm':=hm
 simp only [putMay,Bool.and_eq_true,dotOk,nodeOk,decide_eq_true_eq,Bool.not_eq_true'] at hm'
 obtain ⟨m1,m2,⟨⟨d0,d1⟩,d2,d3⟩,m3,m4⟩:=hm'
 have m5:¬ (64:Int) < data.length:=by omega
 have hll:l.length≤32:=may_len m1
 have hasc:=may_asc m1
 simp [fd75,b75,hl,d0,d1,d2,d3,m1,m2,m3,m5]
 refine loop_go [3,5,6,8,11,66,67,68] rfl (fun m vs H=>∃ i X v,m + i=l.length∧H=.cells false (bagV k (roL valC l)) :: .cells false (vecC known) :: .cells false [I a,I c] :: .cells false (bagV zeroV .nilsl) :: .cells false (bagV (withV (joinV k known) a c) v) :: X∧Row 5 H 3 valC (keptL known (l.take i)) v∧vs=[.str data,.ptr (some (1,0)),.ptr (some (2,0)),.ptr (some (3,0)),.ptr (some (4,0)),roL valC l,I l.length,I i]) ?_ l.length ⟨0,[],.nilsl,rfl,rfl,.nil,rfl⟩
 rintro J hJ m vs H b ⟨i,X,v,hm2,rfl,hr,rfl⟩
 by_cases hi:i < l.length
 · have hw:=wrap_succ (i:=i) (by omega)
   have hld:=valC_load hi (H:=.cells false (bagV k (roL valC l)) :: .cells false (vecC known) :: .cells false [I a,I c] :: .cells false (bagV zeroV .nilsl) :: .cells false (bagV (withV (joinV k known) a c) v) :: X)
   have hstep:keptL known (l.take (i + 1))=keptL known (l.take i)++if (!has known l[i].node l[i].n)=true then [l[i]] else []:=filter_take_succ hi
   cases hh:has known l[i].node l[i].n
   · have hlen:(keptL known (l.take i)).length≤l.length:=filter_len_le
     obtain ⟨v',X',e,hr'⟩:=Row.push (bytes:=32) (P:=[_,_,_,_,_]) (Z:=[.cells false (valC l[i])]) valC_len (by omega) valC_one hr l[i] (by simp only [most];omega) (by simp only [most];omega)
     simp at e
     simp [lp75_0,hi,hw,idxSl_roL hi,hld,hh,e,hr'.cells,hr'.one,-load_tp]
     refine nxt hJ (m - 1) (by omega) ⟨i + 1,X',v',by omega,rfl,?_,rfl⟩
     rw [hstep,hh]
     exact hr'.set (b:=4) (z:=.cells false (bagV (withV (joinV k known) a c) v')) (hr'.off (by simp))
   · simp [lp75_0,hi,hw,idxSl_roL hi,hld,hh,-load_tp]
     refine nxt hJ (m - 1) (by omega) ⟨i + 1,_,v,by omega,rfl,?_,rfl⟩
     rw [hstep,hh]
     simpa using hr.app (X:=[.cells false (valC l[i])])
 · have hT:keptL known (l.take i)=keptL known l:=by rw [List.take_of_length_le (by omega)]
   rw [hT] at hr
   have hlen:(keptL known l).length≤l.length:=List.length_filter_le _ _
   have ka:Asc (keptL known l):=List.Pairwise.filter _ hasc
   have kl:(keptL known l).length < 4611686018427387904:=by omega
   have fz:=hr.frz (d:=10) valC_len val_flat
   obtain ⟨H0,hH0⟩:∃ H0,H0=.cells false (bagV k (roL valC l)) :: .cells false (vecC known) :: .cells false [I a,I c] :: .cells false (bagV zeroV .nilsl) :: .cells false (bagV (withV (joinV k known) a c) v) :: X:=⟨_,rfl⟩
   have hel:elems (H0++[.cells true (valC ⟨a,c,data⟩)]) 3 (.sl H0.length 0 1 3)=some (1,valC ⟨a,c,data⟩):=by simp [elems,Heap.cells?]
   rw [← hH0] at hr
   obtain ⟨v',H',e,hr',hlen2,hkeep,hoff⟩:=((hr.mono (Nat.zero_le _)).app (X:=[.cells true (valC ⟨a,c,data⟩)])).insert2 (bytes:=32) valC_len (by omega) valC_one ⟨a,c,data⟩ (pos (keptL known l) a c) pos_le hel (hr.off_ge (by omega)) (by simp only [most];omega) (by simp only [most];omega) (by simp)
   have hcall:∀ K,WCl envE 122 [v,I (pos (keptL known l) a c),.sl H0.length 0 1 3] 0 (H0++[.cells true (valC ⟨a,c,data⟩)]) K=K v' H':=fun K=>WCl_eq (cl_prim e122 e)
   have g3:=hkeep 3 _ (get_app (by rw [hH0];rfl)) (hr.off (by omega))
   have g4:=hkeep 4 _ (get_app (by rw [hH0];rfl)) (hr.off (by omega))
   rw [hH0] at hcall
   simp [valC] at hcall
   have hput:insV (keptL known l) ⟨a,c,data⟩=putL l known a c data:=rfl
   have hr2:Row 0 H' 3 valC (putL l known a c data) v':=hr'
   have hst:=store_of (lim:=0) (n:=1) (o:=8) (v:=v') g4 (by omega) (by simp [hr'.cells]) (by simp) (by simp [hr'.cells,hr'.one])
   rw [hr'.cells] at hst
   simp at hst
   have hO:(H'.set 4 (.cells false (bagV (withV (joinV k known) a c) v')))[4]?=some (.cells false (bagV (withV (joinV k known) a c) v')):=List.getElem?_set_self (lt_of g4)
   have cO:=cells_of hO
   have h3:=get_set (c:=4) (y:=.cells false (bagV (withV (joinV k known) a c) v')) g3 (by omega)
   have hl5:5≤(H0++[ABlk.cells true (valC ⟨a,c,data⟩)]).length:=by rw [hH0];simp
   have hr3:=hr2.set (z:=.cells false (bagV (withV (joinV k known) a c) v')) (hoff 4 (by omega))
   by_cases h32:32 < (putL l known a c data).length
   · have h32':(32:Int) < (putL l known a c data).length:=by omega
     have hst2:=store_of (lim:=0) (n:=9) (o:=0) (v:=.agg (bagV zeroV .nilsl)) h3 (by omega) (by simp) (by simp) (by simp)
     simp at hst2
     have c2:Heap.cells? ((H'.set 4 (.cells false (bagV (withV (joinV k known) a c) v'))).set 3 (.cells false (bagV zeroV .nilsl))) 3=some (bagV zeroV .nilsl):=cells_of (List.getElem?_set_self (lt_of h3))
     simp [lp75_0,hi,fz,ka,kl,hcall,hst,cO,hr2.len,h32,h32',hst2,c2,putE,putK,putR,hm,owL]
   · have h32':¬ (32:Int) < (putL l known a c data).length:=by omega
     have hst2:=store_of (lim:=0) (n:=9) (o:=0) (v:=.agg (bagV (withV (joinV k known) a c) v')) h3 (by omega) (by simp) (by simp) (by simp [hr2.one])
     simp at hst2
     have c2:Heap.cells? ((H'.set 4 (.cells false (bagV (withV (joinV k known) a c) v'))).set 3 (.cells false (bagV (withV (joinV k known) a c) v'))) 3=some (bagV (withV (joinV k known) a c) v'):=cells_of (List.getElem?_set_self (lt_of h3))
     obtain ⟨u,hu,hn,_⟩:=(hr3.set (z:=.cells false (bagV (withV (joinV k known) a c) v')) (hoff 3 (by omega))).own (d:=8) valC_len (by omega) val_plain
     simp [lp75_0,hi,fz,ka,kl,hcall,hst,cO,hr2.len,h32,h32',hst2,c2,putE,putK,putR,hm,hu,hn]
theorem k75 {k known:Nat→Int} {l:List Val} {a c:Int} {data:List UInt8} {H:Heap} {K:AV→Heap→Prop} (hl:l.length < 4611686018427387904):wPu envE 75 (some [.agg (bagV k (roL valC l)),.agg (vecC known),.agg [I a,I c],.str data]) H K=K (.tup [.agg (bagV (putK k l known a c data) (thaw (owL 3 valC (putR k l known a c data)) H).1),I (putE k l known a c data)]) (thaw (owL 3 valC (putR k l known a c data)) H).2:=(wPu_eq (c75 k l known a c data hl)).trans (by simp)
end Go.Proofs.YtgbnbgkldeifkaaGreatA
namespace Go.Proofs.YtgbnbgkldeifkaaGreatA
open Go
set_option linter.unusedSimpArgs false
set_option maxRecDepth 1000000
theorem law_of {E:AEnv} {f:Nat} {xs ds:List AV} (h:Pu E f ds (.bool true)) (hd:mapO (frz [] deep) xs=some ds):∃ n H',callF E (exec E n) f xs 0 []=some (.bool true,H'):=by
 have h2:Cl E f xs 0 [] (.bool true) []:=by
  have:=h.cl (H:=[]) (lim:=0) hd
  rwa [thaw_bool] at this
 obtain ⟨n,h3⟩:=h2
 exact ⟨n,_,h3⟩
theorem fa_one {s:Sh} {ps:List (Bool × Sh)} {cs:List AV} (h:FitsArgs ((false,s) :: ps) cs):∃ a rest,cs=a :: rest∧Fits s [a]∧FitsArgs ps rest:=by
 cases h with
 | cons h t=>cases h with
  | one h=>exact ⟨_,_,rfl,h,t⟩
theorem fa_nil {cs:List AV} (h:FitsArgs [] cs):cs=[]:=by cases h;rfl
theorem str_load {l:List (List UInt8)} {i:Nat} (hi:i < l.length) {H:Heap}:loadAt H none (.tp ((l.flatMap strC).drop i))=some (.str l[i]):=by
 have:=load_roL1 (f:=strC) (g:=AV.str) (fun _=>rfl) hi (H:=H)
 rwa [Nat.mul_one] at this
theorem str_flat:Flat strC:=fun _ _ _=>hard rfl
def addText (l:List (List UInt8)) (v:Val):List (List UInt8):=if v.data ∈ l then l else l++[v.data]
def textsL (l:List Val):List (List UInt8):=l.foldl addText []
end Go.Proofs.YtgbnbgkldeifkaaGreatA
namespace Go.Proofs.YtgbnbgkldeifkaaGreatA
open Go
set_option linter.unusedSimpArgs false
theorem vecMay_iff {k:Nat→Int}:vecMay k=true ↔ ∀ i,i < 8→0≤k i∧k i≤1000000:=by
 simp only [vecMay,List.all_eq_true,List.mem_range,Bool.and_eq_true,decide_eq_true_eq]
theorem vecEq_iff {a b:Nat→Int}:vecEq a b=true ↔ ∀ i,i < 8→a i=b i:=by
 simp only [vecEq,List.all_eq_true,List.mem_range,beq_iff_eq]
theorem has_iff {k:Nat→Int} {a c:Int}:has k a c=true ↔ 0≤a∧a < 8∧1≤c∧c≤k a.toNat:=by
 simp only [has,nodeOk,Bool.and_eq_true,decide_eq_true_eq]
 constructor
 · rintro ⟨⟨h1,h2⟩,h3,h4⟩;exact ⟨h1,h2,h3,h4⟩
 · rintro ⟨h1,h2,h3,h4⟩;exact ⟨⟨h1,h2⟩,h3,h4⟩
theorem has_mono {k k':Nat→Int} (h:∀ i,i < 8→k i≤k' i) {a c:Int} (q:has k a c=true):has k' a c=true:=by
 rw [has_iff] at q ⊢
 obtain ⟨q1,q2,q3,q4⟩:=q
 exact ⟨q1,q2,q3,Int.le_trans q4 (h _ (by omega))⟩
theorem goodL_iff {l:List Val} {k:Nat→Int}:goodL l k=true ↔ (∀ v ∈ l,valMay v k=true)∧Asc l:=by
 constructor
 · intro h
   refine ⟨fun v hv=>?_,asc_of h⟩
   obtain ⟨i,hi,rfl⟩:=List.mem_iff_getElem.1 hv
   exact ((of_decide_eq_true h) ⟨i,hi⟩).1
 · rintro ⟨h1,h2⟩
   refine decide_eq_true fun i=>⟨h1 _ (List.getElem_mem _),fun h0=>?_⟩
   unfold Asc at h2
   rw [List.pairwise_iff_getElem] at h2
   exact h2 (i.1 - 1) i.1 (by omega) i.2 (by omega)
theorem bagMay_iff {k:Nat→Int} {l:List Val}:bagMay k l=true ↔ vecMay k=true∧l.length≤32∧(∀ v ∈ l,valMay v k=true)∧Asc l:=by
 simp only [bagMay,Bool.and_eq_true,decide_eq_true_eq,goodL_iff]
theorem valMay_iff {v:Val} {k:Nat→Int}:valMay v k=true ↔ has k v.node v.n=true∧v.data.length≤64:=by
 simp only [valMay,Bool.and_eq_true,decide_eq_true_eq]
theorem isAt_iff {l:List Val} {a c:Int}:isAt l a c=true ↔ ∃ v ∈ l,v.node=a∧v.n=c:=by
 simp only [isAt,List.any_eq_true,decide_eq_true_eq]
theorem joinV_le {a b:Nat→Int} {i:Nat}:a i≤joinV a b i∧b i≤joinV a b i:=by
 simp only [joinV]
 omega
theorem withV_le {k:Nat→Int} {a c:Int} {i:Nat}:k i≤withV k a c i:=by
 unfold withV
 split
 · unfold upd
   split
   · rename_i h;subst h;omega
   · omega
 · omega
theorem withV_may {k:Nat→Int} {a c:Int} (h:vecMay k=true) (hc:c≤1000000):vecMay (withV k a c)=true:=by
 rw [vecMay_iff] at h ⊢
 intro i hi
 have:=h i hi
 unfold withV
 split
 · unfold upd
   split
   · rename_i h2;subst h2;omega
   · exact this
 · exact this
theorem joinV_may {a b:Nat→Int} (h:vecMay a=true) (h2:vecMay b=true):vecMay (joinV a b)=true:=by
 rw [vecMay_iff] at h h2 ⊢
 intro i hi
 have:=h i hi
 have:=h2 i hi
 simp only [joinV]
 omega
theorem withV_has {k:Nat→Int} {a c:Int} (h:dotOk a c=true):has (withV k a c) a c=true:=by
 simp only [dotOk,nodeOk,Bool.and_eq_true,decide_eq_true_eq] at h
 rw [has_iff]
 refine ⟨h.1.1,h.1.2,h.2.1,?_⟩
 simp only [withV,nodeOk,h.1.1,h.1.2,decide_true,Bool.and_self,if_true,upd]
 omega
theorem putE_cases {k known:Nat→Int} {l:List Val} {a c:Int} {data:List UInt8}:(putMay k l known a c data=false∧putE k l known a c data=1)∨(putMay k l known a c data=true∧32 < (putL l known a c data).length∧putE k l known a c data=5)∨(putMay k l known a c data=true∧(putL l known a c data).length≤32∧putE k l known a c data=0):=by
 unfold putE
 cases h:putMay k l known a c data
 · simp
 · by_cases q:32 < (putL l known a c data).length
   · simp [q]
   · simp [q];omega
theorem putMay_iff {k known:Nat→Int} {l:List Val} {a c:Int} {data:List UInt8}:putMay k l known a c data=true ↔ bagMay k l=true∧vecMay known=true∧dotOk a c=true∧has k a c=false∧data.length≤64:=by
 simp only [putMay,Bool.and_eq_true,Bool.not_eq_true',decide_eq_true_eq]
theorem dotOk_iff {a c:Int}:dotOk a c=true ↔ 0≤a∧a < 8∧1≤c∧c≤1000000:=by
 simp only [dotOk,nodeOk,Bool.and_eq_true,decide_eq_true_eq]
 constructor
 · rintro ⟨⟨h1,h2⟩,h3,h4⟩;exact ⟨h1,h2,h3,h4⟩
 · rintro ⟨h1,h2,h3,h4⟩;exact ⟨⟨h1,h2⟩,h3,h4⟩
theorem mem_kept {known:Nat→Int} {l:List Val} {v:Val}:v ∈ keptL known l ↔ v ∈ l∧has known v.node v.n=false:=by
 simp [keptL,List.mem_filter]
theorem put_ok {k known:Nat→Int} {l:List Val} {a c:Int} {data:List UInt8} (h:putE k l known a c data=0) :
 putMay k l known a c data=true∧putK k l known a c data=withV (joinV k known) a c∧putR k l known a c data=putL l known a c data∧bagMay (putK k l known a c data) (putR k l known a c data)=true:=by
 rcases putE_cases (k:=k) (known:=known) (l:=l) (a:=a) (c:=c) (data:=data) with ⟨_,q⟩ | ⟨_,_,q⟩ | ⟨h1,h2,_⟩
 · rw [h] at q;cases q
 · rw [h] at q;cases q
 · have e1:putK k l known a c data=withV (joinV k known) a c:=by simp [putK,h]
   have e2:putR k l known a c data=putL l known a c data:=by simp [putR,h]
   refine ⟨h1,e1,e2,?_⟩
   rw [e1,e2,bagMay_iff]
   obtain ⟨m1,m2,m3,m4,m5⟩:=putMay_iff.1 h1
   obtain ⟨b1,b2,b3,b4⟩:=bagMay_iff.1 m1
   have hc:=(dotOk_iff.1 m3).2.2.2
   refine ⟨withV_may (joinV_may b1 m2) hc,h2,fun v hv=>?_,?_⟩
   · rw [valMay_iff]
     rcases mem_insV.1 hv with rfl | hv
     · exact ⟨withV_has m3,m5⟩
     · obtain ⟨q1,q2⟩:=valMay_iff.1 (b3 v (mem_kept.1 hv).1)
       exact ⟨has_mono (fun i hi=>Int.le_trans joinV_le.1 withV_le) q1,q2⟩
   · refine insV_asc (List.Pairwise.filter _ b4) ?_
     rw [Bool.eq_false_iff]
     intro q
     obtain ⟨v,hv,q1,q2⟩:=isAt_iff.1 q
     have:=(valMay_iff.1 (b3 v (mem_kept.1 hv).1)).1
     rw [q1,q2,m4] at this
     cases this
end Go.Proofs.YtgbnbgkldeifkaaGreatA

/- Vaults in memory. What a vault's functions do: a deed counts, and is written. What a vault's functions do: write, Ring, Bag, full, SetRing, Sync, Open. What a vault's functions do: Put, Merge. Open of an empty ledger. No statement about the program is proved here. -/
import Derived.Test.YtgbnbgkldeifkaaGreatLL
import Derived.KernelRfl
namespace Go.Proofs.YtgbnbgkldeifkaaGreatA
open Go
set_option linter.unusedSimpArgs false
set_option linter.unusedVariables false
set_option maxRecDepth 1000000
structure VSt where
 ds:List Deed
 sure:Nat
 room:Int
 inc:Int
 ring:Ring
 rings:Nat
 dots:Int
 bags:List (List UInt8 × Bag)
def lookB:List (List UInt8 × Bag)→List UInt8→Option Bag
 | [],_=>none
 | (k,b) :: l,key=>if key == k then some b else lookB l key
def setB:List (List UInt8 × Bag)→List UInt8→Bag→List (List UInt8 × Bag)
 | [],key,x=>[(key,x)]
 | (k,b) :: l,key,x=>if key == k then (key,x) :: l else (k,b) :: setB l key x
theorem lookB_set:∀ {l:List (List UInt8 × Bag)} {key key':List UInt8} {x:Bag},lookB (setB l key x) key'=if key' == key then some x else lookB l key'
 | [],key,key',x=>by simp [setB,lookB]
 | (k,b) :: l,key,key',x=>by
  unfold setB
  by_cases h:key=k
  · subst h
    simp only [beq_self_eq_true,if_true]
    unfold lookB
    split <;> simp_all
  · have h':(key == k)=false:=by simpa using h
    rw [h']
    simp only [Bool.false_eq_true,if_false]
    unfold lookB
    by_cases h2:key'=k
    · subst h2
      have:(key' == key)=false:=by simpa using fun e=>h e.symm
      simp [this]
    · have h2':(key' == k)=false:=by simpa using h2
      rw [h2']
      simp only [Bool.false_eq_true,if_false]
      exact lookB_set
def countS (s:VSt) (d:Deed):VSt :=
 if d.kind=1 then { s with inc:=d.n }
 else if d.kind=2 then { s with ring:=d.ring,rings:=s.rings + 1 }
 else if d.kind=3 then { s with bags:=setB s.bags d.key d.bag,dots:=max s.dots d.n }
 else s
def vltC (lb mi:Nat) (s:VSt) (q:AV):List AV:=.ptr (some (lb,0)) :: I s.inc :: (ringV s.ring.status s.ring.plan.version s.ring.plan.by' q s.ring.epoch s.ring.owner++[I s.rings,I s.dots,.mapv (some mi)])
def Ents (H:Heap):List (List UInt8 × Bag)→List (AV × AV × Nat)→Prop
 | [],[]=>True
 | (k,b) :: l,e :: es=>(∃ r n,e=(.str k,.agg (bagV b.known r),n)∧Row 0 H 3 valC b.vals r)∧Ents H l es
 | _,_=>False
def isD (y:List AV):Bool:=match y[11]? with | some (AV.sl _ _ _ _)=>true | some AV.nilsl=>true | _=>false
theorem isD_val (l:List Val):isD (l.flatMap valC)=false:=by
 unfold isD
 match l with
 | []=>rfl
 | [_]=>rfl
 | [_,_]=>rfl
 | [_,_,_]=>rfl
 | _ :: _ :: _ :: x :: l =>
  have e:∀ (a b c d:Val) (l:List Val),((a :: b :: c :: d :: l).flatMap valC)[11]?=some (.str d.data):=fun a b c d l=>rfl
  rw [e]
theorem isD_int (l:List Int):isD (l.flatMap intC)=false:=by
 unfold isD
 have:l.flatMap intC=l.map I:=by
  induction l with
  | nil=>rfl
  | cons a l ih=>rw [List.flatMap_cons,ih];rfl
 rw [this,List.getElem?_map]
 cases l[11]? <;> rfl
theorem isD_take {cs:List AV}:isD (cs.take 56)=isD cs:=by
 unfold isD
 rw [List.getElem?_take]
 rfl
theorem DRow.isD {lim:Nat} {H:Heap} {ds:List Deed} {v:AV} {b:Nat} {y:List AV} (h:DRow lim H ds v) (hv:ds=[]→v=.nilsl) (hb:H[b]?=some (.cells true y)) (hno:¬ Off v b):Go.Proofs.YtgbnbgkldeifkaaGreatA.isD y=true:=by
 rcases h with ⟨rfl,rfl⟩ | ⟨c,cs,h0,rfl,h2,h3,h4⟩
 · exact absurd Off.nil hno
 · have e:b=c:=Classical.byContradiction fun q=>hno (Off.sl (Ne.symm q))
   subst e
   rw [h2] at hb
   have e3:cs=y:=by have:=Option.some.inj hb;injection this
   subst e3
   have ne:ds ≠ []:=fun e=>by have:=hv e;cases this
   obtain ⟨v1,v2,h5,r1,_⟩:=h4 0 (List.length_pos_iff.2 ne)
   rw [Nat.zero_mul,List.drop_zero] at h5
   rw [← isD_take,h5]
   have e7:(deedM (ds[0]'(List.length_pos_iff.2 ne)) v1 v2)[11]?=some v1:=rfl
   unfold Go.Proofs.YtgbnbgkldeifkaaGreatA.isD
   rw [e7]
   rcases r1 with ⟨_,rfl⟩ | ⟨_,_,_,rfl,_⟩ <;> rfl
section
variable {H H':Heap} {l:List (List UInt8 × Bag)} {es:List (AV × AV × Nat)}
theorem Ents.keep:∀ {l:List (List UInt8 × Bag)} {es:List (AV × AV × Nat)},Ents H l es→(∀ (b:Nat) (y:List AV),H[b]?=some (.cells true y)→isD y=false→H'[b]?=some (.cells true y))→Ents H' l es
 | [],[],_,_=>trivial
 | (k,b) :: l,e :: es,h,hk=>by
  obtain ⟨⟨r,n,h1,h2⟩,h3⟩:=h
  refine ⟨⟨r,n,h1,?_⟩,h3.keep hk⟩
  rcases h2 with h2 | ⟨ne,c,g1,g2,g3⟩
  · exact .inl h2
  · exact .inr ⟨ne,c,g1,g2,hk c _ g3 (isD_val _)⟩
 | [],_ :: _,h,_=>h.elim
 | _ :: _,[],h,_=>h.elim
theorem Ents.len:∀ {l:List (List UInt8 × Bag)} {es:List (AV × AV × Nat)},Ents H l es→es.length=l.length
 | [],[],_=>rfl
 | (k,b) :: l,e :: es,h=>by simp [h.2.len]
 | [],_ :: _,h=>h.elim
 | _ :: _,[],h=>h.elim
theorem Ents.find {key:List UInt8}:∀ {l:List (List UInt8 × Bag)} {es:List (AV × AV × Nat)} (i:Nat),Ents H l es →
 (lookB l key=none∧findKey .s (.str key) es i=some none)∨(∃ j r b,lookB l key=some b∧findKey .s (.str key) es i=some (some (j,.agg (bagV b.known r)))∧Row 0 H 3 valC b.vals r)
 | [],[],i,_=>.inl ⟨rfl,rfl⟩
 | (k,b) :: l,e :: es,i,h=>by
  obtain ⟨⟨r,n,rfl,h2⟩,h3⟩:=h
  cases hk:key == k
  · rcases h3.find (key:=key) (i + 1) with ⟨g1,g2⟩ | ⟨j,r2,b2,g1,g2,g3⟩
    · exact .inl ⟨by simp only [lookB,hk,Bool.false_eq_true,if_false,g1],by simp only [findKey,eqCell,hk,Option.bind_some,Bool.false_eq_true,if_false,g2]⟩
    · exact .inr ⟨j,r2,b2,by simp only [lookB,hk,Bool.false_eq_true,if_false,g1],by simp only [findKey,eqCell,hk,Option.bind_some,Bool.false_eq_true,if_false,g2],g3⟩
  · exact .inr ⟨i,r,b,by simp only [lookB,hk,if_true],by simp only [findKey,eqCell,hk,Option.bind_some,if_true],h2⟩
 | [],_ :: _,_,h=>h.elim
 | _ :: _,[],_,h=>h.elim
theorem Ents.put {key:List UInt8} {x:Bag} {r:AV} (hr:Row 0 H 3 valC x.vals r):∀ {l:List (List UInt8 × Bag)} {es:List (AV × AV × Nat)},Ents H l es→lookB l key=none→∀ ck,Ents H (setB l key x) (es++[(.str key,.agg (bagV x.known r),ck)])
 | [],[],_,_,ck=>⟨⟨r,ck,rfl,hr⟩,trivial⟩
 | (k,b) :: l,e :: es,h,hn,ck=>by
  unfold lookB at hn
  split at hn
  · cases hn
  · rename_i q
    unfold setB
    rw [if_neg q]
    exact ⟨h.1,h.2.put hr hn ck⟩
 | [],_ :: _,h,_,_=>h.elim
 | _ :: _,[],h,_,_=>h.elim
theorem find_ge {key:List UInt8}:∀ {es:List (AV × AV × Nat)} {i j:Nat} {v:AV},findKey .s (.str key) es i=some (some (j,v))→i≤j
 | [],i,j,v,h=>by simp [findKey] at h
 | (k',v',n) :: es,i,j,v,h=>by
  simp only [findKey,Option.bind_eq_some_iff] at h
  obtain ⟨b,_,h⟩:=h
  split at h
  · simp only [Option.some.injEq,Prod.mk.injEq] at h;omega
  · have:=find_ge h;omega
theorem Ents.over {key:List UInt8} {x:Bag} {r:AV} (hr:Row 0 H 3 valC x.vals r):∀ {l:List (List UInt8 × Bag)} {es:List (AV × AV × Nat)} {i j:Nat} {v:AV},Ents H l es→findKey .s (.str key) es i=some (some (j,v))→Ents H (setB l key x) (es.modify (j - i) fun e=>(.str key,.agg (bagV x.known r),e.2.2))
 | [],[],i,j,v,_,h=>by simp [findKey] at h
 | (k,b) :: l,e :: es,i,j,v,h,hf=>by
  obtain ⟨⟨r2,n,rfl,h2⟩,h3⟩:=h
  simp only [findKey,eqCell,Option.bind_some] at hf
  unfold setB
  split at hf
  · rename_i q
    simp only [Option.some.injEq,Prod.mk.injEq] at hf
    obtain ⟨rfl,_⟩:=hf
    rw [if_pos q,Nat.sub_self]
    exact ⟨⟨r,n,rfl,hr⟩,h3⟩
  · rename_i q
    rw [if_neg q]
    have hge:=find_ge hf
    obtain ⟨m,rfl⟩:∃ m,j=i + 1 + m:=⟨j - (i + 1),by omega⟩
    have e1:i + 1 + m - i=m + 1:=by omega
    have e2:i + 1 + m - (i + 1)=m:=by omega
    have:=h3.over hr hf
    rw [e2] at this
    rw [e1,List.modify_succ_cons]
    exact ⟨⟨r2,n,rfl,h2⟩,this⟩
 | [],_ :: _,_,_,_,h,_=>h.elim
 | _ :: _,[],_,_,_,h,_=>h.elim
theorem lookB_mem {key:List UInt8}:∀ {l:List (List UInt8 × Bag)},lookB l key=none ↔ key ∉ l.map Prod.fst
 | []=>by simp [lookB]
 | (k,b) :: l=>by
  unfold lookB
  by_cases h:key=k
  · subst h;simp
  · have h':(key == k)=false:=by simpa using h
    rw [h']
    simp only [Bool.false_eq_true,if_false,List.map_cons,List.mem_cons,h,false_or]
    exact lookB_mem
theorem setB_fst {key:List UInt8} {x:Bag}:∀ {l:List (List UInt8 × Bag)},(setB l key x).map Prod.fst=if key ∈ l.map Prod.fst then l.map Prod.fst else l.map Prod.fst++[key]
 | []=>by simp [setB]
 | (k,b) :: l=>by
  unfold setB
  by_cases h:key=k
  · subst h;simp
  · have h':(key == k)=false:=by simpa using h
    rw [h']
    simp only [Bool.false_eq_true,if_false,List.map_cons,List.mem_cons,h,false_or]
    rw [setB_fst (l:=l)]
    split <;> simp
theorem setB_nd {key:List UInt8} {x:Bag} {l:List (List UInt8 × Bag)} (h:(l.map Prod.fst).Nodup):((setB l key x).map Prod.fst).Nodup:=by
 rw [setB_fst]
 split
 · exact h
 · rename_i q
   exact List.nodup_append.2 ⟨h,by simp,fun a ha b hb e=>q (by rw [List.mem_singleton] at hb;rw [← hb,← e];exact ha)⟩
structure EntK (H:Heap) (l:List (List UInt8 × Bag)) (es:List (AV × AV × Nat)) (ck:Nat):Prop where
 ents:Ents H l es
 lt:∀ e ∈ es,e.2.2 < ck
 nd:(es.map fun e=>e.2.2).Nodup
 uniq:(l.map Prod.fst).Nodup
theorem EntK.nil:EntK H [] [] 0:=⟨trivial,by simp,.nil,.nil⟩
theorem EntK.keep {l:List (List UInt8 × Bag)} {es:List (AV × AV × Nat)} {ck:Nat} (h:EntK H l es ck) (hk:∀ (b:Nat) (y:List AV),H[b]?=some (.cells true y)→isD y=false→H'[b]?=some (.cells true y)):EntK H' l es ck:=⟨h.ents.keep hk,h.lt,h.nd,h.uniq⟩
theorem EntK.len {l:List (List UInt8 × Bag)} {es:List (AV × AV × Nat)} {ck:Nat} (h:EntK H l es ck):es.length=l.length:=h.ents.len
theorem EntK.find {key:List UInt8} {l:List (List UInt8 × Bag)} {es:List (AV × AV × Nat)} {ck:Nat} (i:Nat) (h:EntK H l es ck) :
 (lookB l key=none∧findKey .s (.str key) es i=some none)∨(∃ j r b,lookB l key=some b∧findKey .s (.str key) es i=some (some (j,.agg (bagV b.known r)))∧Row 0 H 3 valC b.vals r):=h.ents.find i
theorem EntK.put {key:List UInt8} {x:Bag} {r:AV} (hr:Row 0 H 3 valC x.vals r) {l:List (List UInt8 × Bag)} {es:List (AV × AV × Nat)} {ck:Nat} (h:EntK H l es ck) (hn:lookB l key=none) (_ck:Nat):EntK H (setB l key x) (es++[(.str key,.agg (bagV x.known r),ck)]) (ck + 1):=by
 refine ⟨h.ents.put hr hn ck,fun e he=>?_,?_,setB_nd h.uniq⟩
 · rcases List.mem_append.1 he with q | q
   · have:=h.lt e q;omega
   · rw [List.mem_singleton.1 q];simp
 · rw [List.map_append]
   refine List.nodup_append.2 ⟨h.nd,by simp,fun a ha b hb e=>?_⟩
   obtain ⟨y,hy,rfl⟩:=List.mem_map.1 ha
   have:=h.lt y hy
   simp only [List.map_cons,List.map_nil,List.mem_singleton] at hb
   omega
theorem modify_stamps {k v:AV}:∀ {es:List (AV × AV × Nat)} {j:Nat},((es.modify j fun e=>(k,v,e.2.2)).map fun e=>e.2.2)=es.map fun e=>e.2.2
 | [],j=>by simp
 | e :: es,0=>by simp
 | e :: es,j + 1=>by simp [modify_stamps (es:=es) (j:=j)]
theorem EntK.over {key:List UInt8} {x:Bag} {r:AV} (hr:Row 0 H 3 valC x.vals r) {l:List (List UInt8 × Bag)} {es:List (AV × AV × Nat)} {ck:Nat} {i j:Nat} {v:AV} (h:EntK H l es ck) (hf:findKey .s (.str key) es i=some (some (j,v))):EntK H (setB l key x) (es.modify (j - i) fun e=>(.str key,.agg (bagV x.known r),e.2.2)) ck:=by
 refine ⟨h.ents.over hr hf,fun e he=>?_,by rw [modify_stamps];exact h.nd,setB_nd h.uniq⟩
 have h2:e.2.2 ∈ (es.modify (j - i) fun e=>(.str key,.agg (bagV x.known r),e.2.2)).map fun e=>e.2.2:=List.mem_map.2 ⟨e,he,rfl⟩
 rw [modify_stamps] at h2
 obtain ⟨y,hy,e2⟩:=List.mem_map.1 h2
 rw [← e2]
 exact h.lt y hy
end
structure Vlt (H:Heap) (p lb mi:Nat) (s:VSt) (v q:AV) (es:List (AV × AV × Nat)) (ck:Nat):Prop where
 box:H[p]?=some (.cells false (vltC lb mi s q))
 led:Led 0 H lb v s.ds (s.sure:Nat) s.room
 tgt:Row 0 H 1 intC s.ring.plan.targets q
 map:H[mi]?=some (.map es ck)
 ents:EntK H s.bags es ck
 vn:s.ds=[]→v=.nilsl
structure VOk (s:VSt):Prop where
 r0:0≤s.room
 r1:s.room≤3000
 le:(s.ds.length:Int)≤s.room
 fit:∀ d ∈ s.ds,deedFits d
 rfit:s.ring.plan.targets.length * 8≤reachBytes
 bfit:∀ key b,lookB s.bags key=some b→b.vals.length * 32≤reachBytes
 ringsN:s.rings≤s.ds.length
 d0:0≤s.dots
 d1:s.dots≤1000000
 sureN:s.sure≤s.ds.length
def offL (H:Heap) (lb b:Nat):Prop:=∃ v s r,H[lb]?=some (.cells false [v,s,r])∧Off v b
structure Kp (H H':Heap) (p lb mi:Nat):Prop where
 len:H.length≤H'.length
 keep:∀ (b:Nat) (z:ABlk),H[b]?=some z→b ≠ p→b ≠ lb→b ≠ mi→(∀ y,z=.cells true y→isD y=false)→H'[b]?=some z
 keep2:∀ (b:Nat) (z:ABlk),H[b]?=some z→b ≠ p→b ≠ lb→b ≠ mi→offL H lb b→H'[b]?=some z
 offs:∀ b,b < H.length→offL H lb b→offL H' lb b
theorem Kp.app {H X:Heap} {p lb mi:Nat}:Kp H (H++X) p lb mi:=⟨by simp,fun b z h _ _ _ _=>get_app h,fun b z h _ _ _ _=>get_app h,fun b _ ⟨v,s,r,h,o⟩=>⟨v,s,r,get_app h,o⟩⟩
theorem Kp.refl {H:Heap} {p lb mi:Nat}:Kp H H p lb mi:=⟨Nat.le_refl _,fun b z h _ _ _ _=>h,fun b z h _ _ _ _=>h,fun _ _ h=>h⟩
theorem Kp.trans {H H1 H2:Heap} {p lb mi:Nat} (h:Kp H H1 p lb mi) (k:Kp H1 H2 p lb mi):Kp H H2 p lb mi:=⟨Nat.le_trans h.1 k.1,fun b z q a c d e=>k.2 b z (h.2 b z q a c d e) a c d e,fun b z q a c d e=>k.keep2 b z (h.keep2 b z q a c d e) a c d (h.offs b (lt_of q) e),fun b q e=>k.offs b (Nat.lt_of_lt_of_le q h.1) (h.offs b q e)⟩
section
variable {H H' X:Heap} {p lb mi:Nat} {s:VSt} {v q:AV} {es:List (AV × AV × Nat)} {ck:Nat}
theorem Row.keepD {α:Type} {lim e:Nat} {f:α→List AV} {l:List α} {w:AV} (h:Row lim H e f l w) (hf:isD (l.flatMap f)=false) (hk:∀ (b:Nat) (y:List AV),H[b]?=some (.cells true y)→isD y=false→H'[b]?=some (.cells true y)):Row lim H' e f l w:=by
 rcases h with h | ⟨ne,c,g1,g2,g3⟩
 · exact .inl h
 · exact .inr ⟨ne,c,g1,g2,hk c _ g3 hf⟩
theorem Vlt.app (h:Vlt H p lb mi s v q es ck):Vlt (H++X) p lb mi s v q es ck:=⟨get_app h.box,h.led.app,h.tgt.app,get_app h.map,h.ents.keep fun _ _ q _=>get_app q,h.vn⟩
theorem Vlt.plb (h:Vlt H p lb mi s v q es ck):p ≠ lb:=by
 rintro rfl
 have:=h.box
 rw [h.led.at'] at this
 have e:([v,I s.sure,I s.room]:List AV)=vltC p mi s q:=by
  have:=Option.some.inj this
  injection this
 have:=congrArg List.length e
 have e143:(vltC p mi s q).length=48:=rfl
 rw [e143] at this
 simp at this
theorem Vlt.pmi (h:Vlt H p lb mi s v q es ck):p ≠ mi:=by
 rintro rfl
 have:=h.box
 rw [h.map] at this
 cases this
theorem Vlt.lbmi (h:Vlt H p lb mi s v q es ck):lb ≠ mi:=by
 rintro rfl
 have:=h.led.at'
 rw [h.map] at this
 cases this
theorem Vlt.cells (h:Vlt H p lb mi s v q es ck) (Z:Heap):Heap.cells? (H++Z) p=some (vltC lb mi s q):=cells_of (get_app h.box)
theorem Vlt.cells0 (h:Vlt H p lb mi s v q es ck):Heap.cells? H p=some (vltC lb mi s q):=cells_of h.box
theorem Vlt.mapZ (h:Vlt H p lb mi s v q es ck) (Z:Heap):(H++Z)[mi]?=some (.map es ck):=get_app h.map
end
section
variable {lb mi:Nat} {s:VSt} {q q':AV}
@[simp] theorem vlt_len:(vltC lb mi s q).length=48:=hard rfl
@[simp] theorem vlt_one:(vltC lb mi s q).all AV.one=AV.one q:=by
 show (true && (true && _))=_
 rw [Bool.true_and,Bool.true_and]
 simp
@[simp] theorem vlt_f0:(vltC lb mi s q).take 1=[.ptr (some (lb,0))]:=hard rfl
@[simp] theorem vlt_t1:((vltC lb mi s q).tail).take 1=[I s.inc]:=hard rfl
@[simp] theorem vlt_f1:((vltC lb mi s q).drop 1).take 1=[I s.inc]:=hard rfl
@[simp] theorem vlt_f2:((vltC lb mi s q).drop 2).take 43=ringV s.ring.status s.ring.plan.version s.ring.plan.by' q s.ring.epoch s.ring.owner:=hard rfl
@[simp] theorem vlt_f45:((vltC lb mi s q).drop 45).take 1=[I s.rings]:=hard rfl
@[simp] theorem vlt_f46:((vltC lb mi s q).drop 46).take 1=[I s.dots]:=hard rfl
@[simp] theorem vlt_f47:((vltC lb mi s q).drop 47).take 1=[.mapv (some mi)]:=hard rfl
@[simp] theorem vlt_s1 {x:Int}:(vltC lb mi s q).set 1 (I x)=vltC lb mi { s with inc:=x } q:=by kernel_rfl
theorem vlt_s2 {r:Ring}:setFrom (vltC lb mi s q) 2 (ringV r.status r.plan.version r.plan.by' q' r.epoch r.owner)=vltC lb mi { s with ring:=r } q':=by kernel_rfl
@[simp] theorem vlt_s45 {x:Nat}:(vltC lb mi s q).set 45 (I (x:Int))=vltC lb mi { s with rings:=x } q:=by kernel_rfl
@[simp] theorem vlt_s46 {x:Int}:(vltC lb mi s q).set 46 (I x)=vltC lb mi { s with dots:=x } q:=by kernel_rfl
end
end Go.Proofs.YtgbnbgkldeifkaaGreatA
namespace Go.Proofs.YtgbnbgkldeifkaaGreatA
open Go
set_option linter.unusedSimpArgs false
set_option linter.unusedVariables false
set_option maxRecDepth 1000000
attribute [local simp] deed_zero
theorem off_falseR {α:Type} {lim es b:Nat} {H:Heap} {f:α→List AV} {l:List α} {v:AV} {z:ABlk} (h:Row lim H es f l v) (hb:H[b]?=some z) (hz:∀ y,z ≠ .cells true y:=by intro y e;cases e):Off v b:=by
 rintro o n s rfl
 rcases h with ⟨_,q⟩ | ⟨_,b',_,q,q2⟩
 · cases q
 · cases q
   rw [hb] at q2
   exact hz _ (Option.some.inj q2)
def Rd {α:Type} (H:Heap) (es:Nat) (f:α→List AV) (l:List α) (q:AV):Prop:=Row 0 H es f l q∨q=roL f l
section
variable {α:Type} {H H':Heap} {es:Nat} {f:α→List AV} {l:List α} {q:AV}
theorem Rd.app {X:Heap} (h:Rd H es f l q):Rd (H++X) es f l q:=h.imp (fun h=>h.app) id
theorem Rd.one (h:Rd H es f l q):AV.one q=true:=by
 rcases h with h | rfl
 · exact h.one
 · rfl
theorem Rd.frz {d:Nat} (hl:∀ x,(f x).length=es) (hf:Flat f) (h:Rd H es f l q):frz H (d + 2) q=some (roL f l):=by
 rcases h with h | rfl
 · exact h.frz hl hf
 · exact frz_roL
theorem Rd.keepD (h:Rd H es f l q) (hf:isD (l.flatMap f)=false) (hk:∀ (b:Nat) (y:List AV),H[b]?=some (.cells true y)→isD y=false→H'[b]?=some (.cells true y)):Rd H' es f l q:=h.imp (fun h=>h.keepD hf hk) id
end
theorem Kp.rows {H H':Heap} {p lb mi:Nat} {s:VSt} {v q:AV} {es:List (AV × AV × Nat)} {ck:Nat} (h:Kp H H' p lb mi) (hv:Vlt H p lb mi s v q es ck):∀ (b:Nat) (y:List AV),H[b]?=some (.cells true y)→isD y=false→H'[b]?=some (.cells true y):=fun b y hb hy=>h.2 b _ hb
 (fun e=>by subst e;rw [hv.box] at hb;cases hb) (fun e=>by subst e;rw [hv.led.at'] at hb;cases hb) (fun e=>by subst e;rw [hv.map] at hb;cases hb) (fun y' e=>by cases e;exact hy)
theorem copied_pu (k:Nat→Int) (l:List Val) (hf:l.length * 32≤reachBytes):Pu envE 74 [.agg (bagV k (roL valC l))] (.agg (bagV k (owL 3 valC l))):=by
 have hr:reachBytes=140737488351232:=rfl
 refine pu_is e74 rfl ?_
 obtain ⟨v1,X1,q1,r1⟩:=clone_ro (lim:=0) (bytes:=32) (H:=[.cells false (bagV k (roL valC l)),.cells false (bagV zeroV .nilsl)]) (l:=l) (es:=3) valC_len (by omega) valC_one (by simp only [most];omega) (by simp only [most];omega) (by simp)
 have hc1:∀ K,WCl envE 123 [roL valC l] 0 [.cells false (bagV k (roL valC l)),.cells false (bagV zeroV .nilsl)] K=K v1 ([.cells false (bagV k (roL valC l)),.cells false (bagV zeroV .nilsl)]++X1):=fun K=>WCl_eq (cl_prim e123 q1)
 obtain ⟨u2,o2,n2,m2⟩:=((r1.set (b:=0) (z:=.cells false (bagV k v1)) (r1.off (by simp))).set (b:=1) (z:=.cells false (bagV k v1)) (r1.off (by simp))).own (d:=9) valC_len (by omega) val_plain
 have hone:(bagV k v1).all AV.one=true:=by simp [r1.one]
 simp only [List.cons_append,List.nil_append] at hc1 o2
 simp at o2
 rw [fr_init (by simp [fd74])]
 simp [fd74,b74,bagV_zero,hc1,r1.cells,r1.one,hone,o2,n2]
theorem k74 {k:Nat→Int} {l:List Val} {H:Heap} {K:AV→Heap→Prop} (hf:l.length * 32≤reachBytes):wPu envE 74 (some [.agg (bagV k (roL valC l))]) H K=K (.agg (bagV k (thaw (owL 3 valC l) H).1)) (thaw (owL 3 valC l) H).2:=(wPu_eq (copied_pu k l hf)).trans (by simp)
def VStep (H H':Heap) (p lb mi:Nat) (s':VSt):Prop:=Kp H H' p lb mi∧∃ v q es ck,Vlt H' p lb mi s' v q es ck
set_option maxHeartbeats 1000000 in
theorem c64 {H:Heap} {p lb mi:Nat} {s:VSt} {v q:AV} {es:List (AV × AV × Nat)} {ck:Nat} (h:Vlt H p lb mi s v q es ck) (d:Deed) (q1 q2:AV) (hk:d.kind=1∨d.kind=2∨d.kind=3) (h1:Rd H 3 valC d.bag.vals q1) (h2:Rd H 1 intC d.ring.plan.targets q2) (hf:deedFits d) (hr:s.rings≤4611686018427387903) :
 WCl envE 64 [.ptr (some (p,0)),.agg (deedM d q1 q2)] 0 H fun r H'=>VStep H H' p lb mi (countS s d):=by
 have hrb:reachBytes=140737488351232:=rfl
 obtain ⟨f1,f2⟩:=hf
 refine cl_of e64 rfl ?_
 have hone:(deedM d q1 q2).all AV.one=true:=deedM_one h1.one h2.one
 have hlen:(deedM d q1 q2).length=56:=deedM_len
 have hd:deedM d q1 q2=deedV d.kind d.n d.key d.bag.known q1 d.ring.status d.ring.plan.version d.ring.plan.by' q2 d.ring.epoch d.ring.owner d.part:=rfl
 obtain ⟨H1,hH1⟩:∃ H1,H1=H++[.cells false (deedM d q1 q2)]:=⟨_,rfl⟩
 have hv1:Vlt H1 p lb mi s v q es ck:=by rw [hH1];exact h.app
 have kp1:Kp H H1 p lb mi:=by rw [hH1];exact .app
 have co:∀ Z,Heap.cells? (H1++Z) H.length=some (deedV d.kind d.n d.key d.bag.known q1 d.ring.status d.ring.plan.version d.ring.plan.by' q2 d.ring.epoch d.ring.owner d.part):=fun Z=>by rw [hH1,← hd];simp [Heap.cells?]
 have co0:Heap.cells? H1 H.length=some (deedV d.kind d.n d.key d.bag.known q1 d.ring.status d.ring.plan.version d.ring.plan.by' q2 d.ring.epoch d.ring.owner d.part):=by simpa using co []
 have cp:=hv1.cells
 have cp0:=hv1.cells0
 have kpset:∀ (X:Heap) (z:ABlk),Kp H ((H1++X).set p z) p lb mi:=fun X z=>⟨by rw [hH1];simp,fun b y hb n1 _ _ _=>get_set (get_app (by rw [hH1];exact get_app hb)) (Ne.symm n1),fun b y hb n1 _ _ _=>get_set (get_app (by rw [hH1];exact get_app hb)) (Ne.symm n1),fun b _ ⟨v,s,r,hb,o⟩=>⟨v,s,r,get_set (get_app (by rw [hH1];exact get_app hb)) h.plb,o⟩⟩
 have boxX:∀ X:Heap,(H1++X)[p]?=some (.cells false (vltC lb mi s q)):=fun X=>get_app hv1.box
 have fin:∀ (X:Heap) (s':VSt) (q':AV),s'.ds=s.ds→s'.sure=s.sure→s'.room=s.room→s'.bags=s.bags→Row 0 (H1++X) 1 intC s'.ring.plan.targets q'→VStep H ((H1++X).set p (.cells false (vltC lb mi s' q'))) p lb mi s':=fun X s' q' e1 e2 e3 e4 hq=>by
  have hvX:=hv1.app (X:=X)
  refine ⟨kpset X _,v,q',es,ck,?_,?_,hq.set (off_falseR hq hvX.box),?_,?_,?_⟩
  · rw [List.getElem?_set_self (lt_of hvX.box)]
  · rw [e1,e2,e3]
    exact ⟨get_set hvX.led.at' hv1.plb,hvX.led.row.setF hvX.box,hvX.led.few⟩
  · exact get_set hvX.map hv1.pmi
  · rw [e4]
    exact hvX.ents.keep fun b y hb _=>get_set hb (fun e=>by subst e;rw [hvX.box] at hb;cases hb)
  · rw [e1];exact h.vn
 rcases hk with hk | hk | hk
 · have hst:=store_of (lim:=0) (n:=1) (o:=1) (v:=I d.n) hv1.box (by omega) (by simp) (by simp) (by simp)
   simp at hst
   have hc:countS s d={ s with inc:=d.n }:=by simp [countS,hk]
   rw [hc]
   rw [hd]
   rw [hd] at hone hlen hH1
   rw [hk] at hone hlen hH1 co co0
   rw [fr_init (by simp [fd64])]
   simp [fd64,b64,hk,h1.one,h2.one,← hH1,co0,cp0,hst]
   have:=fin [] { s with inc:=d.n } q rfl rfl rfl rfl (by simpa using hv1.tgt)
   simpa using this
 · have hkj:=fun H K=>k74s (r:=d.ring) (H:=H) (K:=K) f2
   obtain ⟨v1,X1,t1,r1⟩:=thaw_owL (H:=H1) (lim:=H1.length) (es:=1) int_still (Nat.le_refl _) d.ring.plan.targets
   have fq:frz H1 11 q2=some (roL intC d.ring.plan.targets):=by rw [hH1];exact (h2.app).frz (d:=9) intC_len int_flat
   have hst:=store_of (lim:=0) (n:=43) (o:=2) (v:=.agg (ringV d.ring.status d.ring.plan.version d.ring.plan.by' v1 d.ring.epoch d.ring.owner)) (boxX X1) (by omega) (by simp [AV.cells]) (by simp) (by simp [AV.cells,r1.one])
   simp only [AV.cells,vlt_s2] at hst
   have hbox2:((H1++X1).set p (.cells false (vltC lb mi { s with ring:=d.ring } v1)))[p]?=some (.cells false (vltC lb mi { s with ring:=d.ring } v1)):=List.getElem?_set_self (lt_of (boxX X1))
   have hw:IntKind.i64.wrap ((s.rings:Int) + 1)=((s.rings + 1:Nat):Int):=by rw [wrap_i64] <;> omega
   have hst2:=store_of (lim:=0) (n:=1) (o:=45) (v:=I ((s.rings + 1:Nat):Int)) hbox2 (by omega) (by simp) (by simp) (by simp)
   simp only [AV.cells,setFrom,vlt_s45,List.set_set] at hst2
   have hc:countS s d={ s with ring:=d.ring,rings:=s.rings + 1 }:=by simp [countS,hk]
   have cb2:=cells_of hbox2
   rw [hc]
   rw [hd]
   rw [hd] at hone hlen hH1
   rw [hk] at hone hlen hH1 co co0
   have r1':=r1.mono (Nat.zero_le _)
   have res:=fin X1 { s with ring:=d.ring,rings:=s.rings + 1 } v1 rfl rfl rfl rfl r1'
   rw [Int.natCast_add,Int.natCast_one] at hw hst2
   rw [fr_init (by simp [fd64])]
   simp [fd64,b64,hk,h1.one,h2.one,← hH1,co0,cp0,fq,hkj,t1,r1.one,cp,hst,cb2,hw,hst2]
   exact res
 · have hkj:=fun H K=>k74 (k:=d.bag.known) (l:=d.bag.vals) (H:=H) (K:=K) f1
   obtain ⟨v1,X1,t1,r1⟩:=thaw_owL (H:=H1) (lim:=H1.length) (es:=3) val_still (Nat.le_refl _) d.bag.vals
   have fq:frz H1 11 q1=some (roL valC d.bag.vals):=by rw [hH1];exact (h1.app).frz (d:=9) valC_len val_flat
   have r1':=r1.mono (Nat.zero_le _)
   have hvX:=hv1.app (X:=X1)
   have hc:countS s d={ s with bags:=setB s.bags d.key d.bag,dots:=max s.dots d.n }:=by simp [countS,hk]
   rw [hc]
   rw [hd]
   rw [hd] at hone hlen hH1
   rw [hk] at hone hlen hH1 co co0
   have hmx:max d.n s.dots=max s.dots d.n:=Int.max_comm _ _
   have main:∀ es' ck',EntK (H1++X1) (setB s.bags d.key d.bag) es' ck'→∀ H2,H2=(H1++X1).set mi (.map es' ck')→H2[p]?=some (.cells false (vltC lb mi s q))∧Heap.cells? H2 H.length=some (deedV 3 d.n d.key d.bag.known q1 d.ring.status d.ring.plan.version d.ring.plan.by' q2 d.ring.epoch d.ring.owner d.part)∧storeAt 0 H2 1 (.ptr (some (p,46))) (I (max s.dots d.n))=some (H2.set p (.cells false (vltC lb mi { s with dots:=max s.dots d.n } q)))∧VStep H (H2.set p (.cells false (vltC lb mi { s with dots:=max s.dots d.n } q))) p lb mi { s with bags:=setB s.bags d.key d.bag,dots:=max s.dots d.n }:=by
    intro es' ck' hE H2 hH2
    have b2:H2[p]?=some (.cells false (vltC lb mi s q)):=by rw [hH2];exact get_set hvX.box hv1.pmi.symm
    have mk:∀ (b:Nat) (y:List AV) (g:Bool),(H1++X1)[b]?=some (.cells g y)→H2[b]?=some (.cells g y):=fun b y g hb=>by rw [hH2];exact get_set hb (fun e=>by subst e;rw [hvX.map] at hb;cases hb)
    have mk2:∀ (b:Nat) (y:List AV) z,(H1++X1)[b]?=some (.cells true y)→(H2.set p z)[b]?=some (.cells true y):=fun b y z hb=>get_set (mk b y true hb) (fun e=>by subst e;rw [hvX.box] at hb;cases hb)
    have hst:=store_of (lim:=0) (n:=1) (o:=46) (v:=I (max s.dots d.n)) b2 (by omega) (by simp) (by simp) (by simp)
    simp only [AV.cells,setFrom,vlt_s46] at hst
    refine ⟨b2,?_,hst,⟨?_,?_,?_,?_⟩,v,q,es',ck',?_,?_,?_,?_,?_,h.vn⟩
    · refine cells_of (mk _ _ false ?_)
      rw [hH1]
      simp
    · rw [hH2,hH1];simp
    · intro b z hb n1 n2 n3 n4
      refine get_set ?_ (Ne.symm n1)
      rw [hH2]
      refine get_set ?_ (Ne.symm n3)
      rw [hH1]
      exact get_app (get_app hb)
    · intro b z hb n1 n2 n3 n4
      refine get_set ?_ (Ne.symm n1)
      rw [hH2]
      refine get_set ?_ (Ne.symm n3)
      rw [hH1]
      exact get_app (get_app hb)
    · rintro b _ ⟨v,s,r,hb,o⟩
      refine ⟨v,s,r,get_set ?_ h.plb,o⟩
      rw [hH2]
      refine get_set ?_ h.lbmi.symm
      rw [hH1]
      exact get_app (get_app hb)
    · rw [List.getElem?_set_self (lt_of b2)];rfl
    · refine ⟨get_set (mk _ _ false hvX.led.at') hv1.plb,hvX.led.row.keep fun b y _ hb=>mk2 b y _ hb,hvX.led.few⟩
    · exact hvX.tgt.keep fun b y hb _=>mk2 b y _ hb
    · refine get_set ?_ hv1.pmi
      rw [hH2]
      exact List.getElem?_set_self (lt_of hvX.map)
    · exact hE.keep fun b y hb _=>mk2 b y _ hb
   have hmapX:=hvX.map
   rcases hvX.ents.find (key:=d.key) 0 with ⟨g1,g2⟩ | ⟨j,r,b,g1,g2,g3⟩
   · have hE:=hvX.ents.put (x:=d.bag) r1' g1 ck
     obtain ⟨H2,hH2⟩:∃ H2,H2=(H1++X1).set mi (.map (es++[(.str d.key,.agg (bagV d.bag.known v1),ck)]) (ck + 1)):=⟨_,rfl⟩
     obtain ⟨m1,m2,m3,m4⟩:=main _ _ hE H2 hH2
     have m5:H1.length + X1.length≤H2.length:=by rw [hH2];simp
     rw [fr_init (by simp [fd64])]
     simp [fd64,b64,hk,h1.one,h2.one,← hH1,co0,cp0,fq,hkj,t1,r1.one,cp,hmapX,g2,isKey,← hH2,cells_of m1,m2,hmx,m3,m5]
     exact m4
   · have hE:=hvX.ents.over (x:=d.bag) r1' g2
     rw [Nat.sub_zero] at hE
     obtain ⟨H2,hH2⟩:∃ H2,H2=(H1++X1).set mi (.map (es.modify j fun e=>(.str d.key,.agg (bagV d.bag.known v1),e.2.2)) ck):=⟨_,rfl⟩
     obtain ⟨m1,m2,m3,m4⟩:=main _ _ hE H2 hH2
     have m5:H1.length + X1.length≤H2.length:=by rw [hH2];simp
     rw [fr_init (by simp [fd64])]
     simp [fd64,b64,hk,h1.one,h2.one,← hH1,co0,cp0,fq,hkj,t1,r1.one,cp,hmapX,g2,isKey,← hH2,cells_of m1,m2,hmx,m3,m5]
     exact m4
end Go.Proofs.YtgbnbgkldeifkaaGreatA
namespace Go.Proofs.YtgbnbgkldeifkaaGreatA
open Go
set_option linter.unusedSimpArgs false
set_option linter.unusedVariables false
set_option maxRecDepth 1000000
attribute [local simp] deed_zero ring_zero
section
variable {H H':Heap} {p lb mi:Nat} {s:VSt} {v q:AV} {es:List (AV × AV × Nat)} {ck:Nat}
theorem Vlt.off (h:Vlt H p lb mi s v q es ck) {b:Nat} {z:ABlk} (hb:H[b]?=some z) (hz:∀ y,z=.cells true y→isD y=false):Off v b:=by
 apply Classical.byContradiction
 intro hno
 rcases h.led.row with ⟨_,rfl⟩ | ⟨c,cs,h0,e,h2,h3,h4⟩
 · exact hno Off.nil
 · have e2:b=c:=Classical.byContradiction fun q=>hno (by rw [e];exact Off.sl (Ne.symm q))
   subst e2
   have hD:=h.led.row.isD h.vn h2 hno
   rw [h2] at hb
   rw [hz cs (Option.some.inj hb).symm] at hD
   cases hD
theorem Vlt.offL (h:Vlt H p lb mi s v q es ck) {b:Nat} (k:Go.Proofs.YtgbnbgkldeifkaaGreatA.offL H lb b):Off v b:=by
 obtain ⟨v',s',r',h1,h2⟩:=k
 rw [h.led.at'] at h1
 have:=Option.some.inj h1
 injection this with _ e
 injection e with e _
 rw [e]
 exact h2
theorem VStep.refl (h:Vlt H p lb mi s v q es ck):VStep H H p lb mi s:=⟨.refl,_,_,_,_,h⟩
theorem VStep.app {X:Heap} (h:Vlt H p lb mi s v q es ck):VStep H (H++X) p lb mi s:=⟨.app,_,_,_,_,h.app⟩
theorem VStep.after {s1:VSt} {H1:Heap} (h:Kp H H1 p lb mi) (k:VStep H1 H' p lb mi s1):VStep H H' p lb mi s1:=⟨h.trans k.1,k.2⟩
end
def wroteS (s:VSt) (d:Deed):VSt:=if writeE d s.ds s.room=0 then countS { s with ds:=s.ds++[d] } d else s
theorem c66 {H:Heap} {p lb mi:Nat} {s:VSt} {v q:AV} {es:List (AV × AV × Nat)} {ck:Nat} (h:Vlt H p lb mi s v q es ck) (ok:VOk s) (d:Deed) (q1 q2:AV) (hk:d.kind=1∨d.kind=2∨d.kind=3) (h1:Rd H 3 valC d.bag.vals q1) (h2:Rd H 1 intC d.ring.plan.targets q2) (hf:deedFits d) (hkey:d.key.length < 4611686018427387904) :
 WCl envE 66 [.ptr (some (p,0)),.agg (deedM d q1 q2)] 0 H fun r H'=>r=I (writeE d s.ds s.room)∧VStep H H' p lb mi (wroteS s d):=by
 refine cl_of e66 rfl ?_
 have hone:(deedM d q1 q2).all AV.one=true:=deedM_one h1.one h2.one
 have hlen:(deedM d q1 q2).length=56:=deedM_len
 have htake:(deedM d q1 q2).take 56=deedM d q1 q2:=List.take_of_length_le (by rw [deedM_len];omega)
 obtain ⟨H1,hH1⟩:∃ H1,H1=H++[.cells false (deedM d q1 q2)]:=⟨_,rfl⟩
 have hv1:Vlt H1 p lb mi s v q es ck:=by rw [hH1];exact h.app
 have kp1:Kp H H1 p lb mi:=by rw [hH1];exact .app
 have co:H1[H.length]?=some (.cells false (deedM d q1 q2)):=by rw [hH1];simp
 have cp0:=hv1.cells0
 have r1:Rd H1 3 valC d.bag.vals q1:=by rw [hH1];exact h1.app
 have r2:Rd H1 1 intC d.ring.plan.targets q2:=by rw [hH1];exact h2.app
 have hwr:=c114 hv1.led (Nat.zero_le _) ok.r0 ok.r1 ok.le d q1 q2 hf hkey (fun X=>(r1.app (X:=X)).frz (d:=9) valC_len val_flat) (fun X=>(r2.app (X:=X)).frz (d:=9) intC_len int_flat) r1.one r2.one
 rw [fr_init (by simp [fd66])]
 simp [fd66,b66,hone,hlen,htake,← hH1,cp0,cells_of co]
 refine WCl.mono hwr ?_
 rintro _ H2 ⟨rfl,len2,keep2,hif⟩
 have kp2:Kp H1 H2 p lb mi:=⟨len2,fun b z hb n1 n2 n3 n4=>keep2 b z hb n2 (hv1.off hb n4),fun b z hb n1 n2 n3 n4=>keep2 b z hb n2 (hv1.offL n4),fun b hb ho=>by
  by_cases hz:writeE d s.ds s.room=0
  · rw [if_pos hz] at hif
    obtain ⟨v',hL,hoff⟩:=hif
    exact ⟨_,_,_,hL.at',hoff b hb⟩
  · rw [if_neg hz] at hif
    exact ⟨_,_,_,hif.at',hv1.offL ho⟩⟩
 have co2:H2[H.length]?=some (.cells false (deedM d q1 q2)):=keep2 _ _ co (fun e=>by rw [e] at co;have:=hv1.led.at';rw [co] at this;have:=congrArg (fun x=>match x with | some (ABlk.cells _ l)=>l.length | _=>0) this;simp [hlen] at this) (hv1.off co (by intro y e;cases e))
 have hlt:H1.length≤H2.length:=len2
 by_cases hz:writeE d s.ds s.room=0
 · rw [if_pos hz] at hif
   obtain ⟨v',hL,hoff⟩:=hif
   have rows:=kp2.rows hv1
   have hv2:Vlt H2 p lb mi { s with ds:=s.ds++[d] } v' q es ck:=⟨keep2 _ _ hv1.box hv1.plb (hv1.off hv1.box (by intro y e;cases e)),hL,hv1.tgt.keepD (isD_int _) rows,keep2 _ _ hv1.map hv1.lbmi.symm (hv1.off hv1.map (by intro y e;cases e)),hv1.ents.keep rows,by simp⟩
   have hct:=c64 hv2 d q1 q2 hk (r1.keepD (isD_val _) rows) (r2.keepD (isD_int _) rows) hf (by have:=ok.ringsN;have:=ok.le;have:=ok.r1;simp only;omega)
   simp [hlt,hz,cells_of co2,htake,hlen]
   refine WCl.mono hct ?_
   rintro r H3 h3
   simp [wroteS,hz]
   exact (h3.after kp2).after kp1
 · rw [if_neg hz] at hif
   have rows:=kp2.rows hv1
   have hv2:Vlt H2 p lb mi s v q es ck:=⟨keep2 _ _ hv1.box hv1.plb (hv1.off hv1.box (by intro y e;cases e)),hif,hv1.tgt.keepD (isD_int _) rows,keep2 _ _ hv1.map hv1.lbmi.symm (hv1.off hv1.map (by intro y e;cases e)),hv1.ents.keep rows,hv1.vn⟩
   simp [hlt,hz,wroteS]
   exact ⟨kp1.trans kp2,_,_,_,_,hv2⟩
def bagOf (s:VSt) (key:List UInt8):Bag:=(lookB s.bags key).getD zBagS
theorem bag_fit {s:VSt} (ok:VOk s) {key:List UInt8}:(bagOf s key).vals.length * 32≤reachBytes:=by
 unfold bagOf
 cases h:lookB s.bags key with
 | none=>exact Nat.zero_le _
 | some b=>exact ok.bfit _ _ h
theorem Vlt.look {H:Heap} {p lb mi:Nat} {s:VSt} {v q:AV} {es:List (AV × AV × Nat)} {ck:Nat} (h:Vlt H p lb mi s v q es ck) (key:List UInt8):∃ x r,findKey .s (.str key) es 0=some x∧(match x with | some (_,v)=>v | none=>.agg (bagV zeroV .nilsl))=.agg (bagV (bagOf s key).known r)∧x.isSome=(lookB s.bags key).isSome∧Row 0 H 3 valC (bagOf s key).vals r:=by
 rcases h.ents.find (key:=key) 0 with ⟨g1,g2⟩ | ⟨j,r,b,g1,g2,g3⟩
 · refine ⟨none,.nilsl,g2,?_,by rw [g1];rfl,?_⟩
   · simp [bagOf,g1,zBagS]
   · simp only [bagOf,g1,Option.getD_none]
     exact .nil
 · refine ⟨some (j,.agg (bagV b.known r)),r,g2,?_,by rw [g1];rfl,?_⟩
   · simp [bagOf,g1]
   · simp only [bagOf,g1,Option.getD_some]
     exact g3
theorem c23 {H:Heap} {p lb mi:Nat} {s:VSt} {v q:AV} {es:List (AV × AV × Nat)} {ck:Nat} (h:Vlt H p lb mi s v q es ck) (ok:VOk s) (key:List UInt8) (lim:Nat) (hlim:lim≤H.length) :
 WCl envE 23 [.ptr (some (p,0)),.str key] lim H fun r H'=>∃ X q',H'=H++X∧r=.agg (bagV (bagOf s key).known q')∧Row H.length (H++X) 3 valC (bagOf s key).vals q':=by
 refine cl_of e23 rfl ?_
 have cp:=h.cells
 obtain ⟨x,r,g1,g2,g3,g4⟩:=h.look key
 have hm:=h.mapZ
 obtain ⟨v1,X1,t1,r1⟩:=thaw_owL (H:=H++[.cells false (bagV zeroV .nilsl)]) (lim:=(H++[ABlk.cells false (bagV zeroV .nilsl)]).length) (es:=3) val_still (Nat.le_refl _) (bagOf s key).vals
 have fq:∀ X,frz (H++X) 11 r=some (roL valC (bagOf s key).vals):=fun X=>(g4.app (X:=X)).frz (d:=9) valC_len val_flat
 have hkj:=fun H K=>k74 (k:=(bagOf s key).known) (l:=(bagOf s key).vals) (H:=H) (K:=K) (bag_fit ok)
 have o1:=r1.one
 simp only [List.append_assoc,List.cons_append,List.nil_append] at t1
 have r2:=r1.set (b:=H.length) (z:=.cells false (bagV (bagOf s key).known v1)) (r1.off (by simp))
 have r3:=r2.mono (lim':=H.length) (by simp)
 simp at r3
 rw [fr_init (by simp [fd23])]
 cases x with
 | none =>
  simp only at g2
  simp [fd23,b23,bagV_zero,cp,hm,g1,g2,isKey,fq,hkj,t1,o1,hlim]
  exact ⟨v1,rfl,r3⟩
 | some y =>
  obtain ⟨j,w⟩:=y
  simp only at g2
  subst g2
  simp [fd23,b23,bagV_zero,cp,hm,g1,isKey,fq,hkj,t1,o1,hlim]
  exact ⟨v1,rfl,r3⟩
def fullS (s:VSt) (key:List UInt8):Bool:=!(lookB s.bags key).isSome && decide (200≤s.bags.length)
theorem c72 {H:Heap} {p lb mi:Nat} {s:VSt} {v q:AV} {es:List (AV × AV × Nat)} {ck:Nat} (h:Vlt H p lb mi s v q es ck) (key:List UInt8) (lim:Nat) (hlim:lim≤H.length) :
 WCl envE 72 [.ptr (some (p,0)),.str key] lim H fun r H'=>r=.bool (fullS s key)∧∃ X,H'=H++X:=by
 refine cl_of e72 rfl ?_
 have cp:=h.cells
 have cp0:=h.cells0
 have hm0:=h.map
 obtain ⟨x,r,g1,g2,g3,g4⟩:=h.look key
 have hm:=h.mapZ
 have o1:=g4.one
 have hl:=h.ents.len
 rw [fr_init (by simp [fd72])]
 cases x with
 | none =>
  simp only at g2
  have g3':(lookB s.bags key).isSome=false:=by rw [← g3];rfl
  have el:(200≤(s.bags.length:Int))=(200≤s.bags.length):=by apply propext;omega
  simp [fd72,b72,bagV_zero,cp,cp0,hm,hm0,g1,g2,isKey,o1,hlim,hl,fullS,g3',el]
 | some y =>
  obtain ⟨j,w⟩:=y
  simp only at g2
  subst g2
  have g3':(lookB s.bags key).isSome=true:=by rw [← g3];rfl
  simp [fd72,b72,bagV_zero,cp,cp0,hm,hm0,g1,isKey,o1,hlim,hl,fullS,g3']
def ringD (r:Ring):Deed:=⟨2,0,[],zBagS,r,0⟩
end Go.Proofs.YtgbnbgkldeifkaaGreatA
namespace Go.Proofs.YtgbnbgkldeifkaaGreatA
open Go
set_option linter.unusedSimpArgs false
set_option linter.unusedVariables false
set_option maxRecDepth 1000000
attribute [local simp] deed_zero
def bagD (n:Int) (key:List UInt8) (b:Bag):Deed:=⟨3,n,key,b,zRingS,0⟩
theorem VOk.wrote {s:VSt} (ok:VOk s) {d:Deed} (hf:deedFits d):VOk (wroteS s d):=by
 unfold wroteS
 split
 case isFalse=>exact ok
 rename_i hz
 have hm:deedMay d=true∧(s.ds.length:Int) < s.room:=by
  unfold writeE at hz
  split at hz
  · rename_i q
    refine ⟨q,?_⟩
    split at hz
    · omega
    · have:=ok.le;omega
  · omega
 have hle:(((s.ds++[d]).length:Nat):Int)≤s.room:=by have:=hm.2;simp;omega
 have hfit:∀ x ∈ s.ds++[d],deedFits x:=fun x hx=>by
  rcases List.mem_append.1 hx with q | q
  · exact ok.fit x q
  · rw [List.mem_singleton.1 q];exact hf
 have hs:s.sure≤(s.ds++[d]).length:=by have:=ok.sureN;simp;omega
 have hrn:s.rings≤(s.ds++[d]).length:=by have:=ok.ringsN;simp;omega
 unfold countS
 split
 · exact ⟨ok.r0,ok.r1,hle,hfit,ok.rfit,ok.bfit,hrn,ok.d0,ok.d1,hs⟩
 · split
   · exact ⟨ok.r0,ok.r1,hle,hfit,hf.2,ok.bfit,by have:=ok.ringsN;simp only [List.length_append,List.length_singleton];omega,ok.d0,ok.d1,hs⟩
   · split
     · rename_i h1 h2 h3
       have hn:0≤d.n∧d.n≤1000000:=by
        have:=hm.1
        simp [deedMay,h3,withinB] at this
        exact this.2.2.2
       refine ⟨ok.r0,ok.r1,hle,hfit,ok.rfit,fun key b hb=>?_,hrn,?_,?_,hs⟩
       · simp only [lookB_set] at hb
         split at hb
         · cases hb;exact hf.1
         · exact ok.bfit _ _ hb
       · have:=ok.d0;simp only;omega
       · have:=ok.d1;simp only;omega
     · exact ⟨ok.r0,ok.r1,hle,hfit,ok.rfit,ok.bfit,hrn,ok.d0,ok.d1,hs⟩
theorem VStep.setF {H H4:Heap} {p lb mi b:Nat} {s':VSt} {y:List AV} {z:ABlk} (h:VStep H H4 p lb mi s') (hb:H4[b]?=some (.cells false y)) (h1:b ≠ p) (h2:b ≠ lb) (h3:b ≠ mi) (h4:H.length≤b):VStep H (H4.set b z) p lb mi s':=by
 obtain ⟨k,v,q,es,ck,hv⟩:=h
 refine ⟨⟨by rw [List.length_set];exact k.1,fun c w hc n1 n2 n3 n4=>get_set (k.2 c w hc n1 n2 n3 n4) (by have:=lt_of hc;omega),fun c w hc n1 n2 n3 n4=>get_set (k.keep2 c w hc n1 n2 n3 n4) (by have:=lt_of hc;omega),fun c hc ho=>by obtain ⟨v1,s1,r1,g1,g2⟩:=k.offs c hc ho;exact ⟨v1,s1,r1,get_set g1 h2,g2⟩⟩,v,q,es,ck,get_set hv.box h1,⟨get_set hv.led.at' h2,hv.led.row.setF hb,hv.led.few⟩,hv.tgt.set (off_falseR hv.tgt hb),get_set hv.map h3,hv.ents.keep fun c w hc _=>get_set hc (fun e=>by subst e;rw [hb] at hc;cases hc),hv.vn⟩
structure PutR where
 a:Int
 c:Int
 e:Int
 s:VSt
def putO (s:VSt) (node:Int) (key:List UInt8) (known:Nat→Int) (data:List UInt8):PutR :=
 if node < 0∨8≤node∨keyOk key=false then ⟨0,0,1,s⟩
 else if s.dots=1000000 then ⟨0,0,6,s⟩
 else if fullS s key=true then ⟨0,0,5,s⟩
 else if putE (bagOf s key).known (bagOf s key).vals known node (s.dots + 1) data=0 then
  (if writeE (bagD (s.dots + 1) key ⟨putK (bagOf s key).known (bagOf s key).vals known node (s.dots + 1) data,putR (bagOf s key).known (bagOf s key).vals known node (s.dots + 1) data⟩) s.ds s.room=0 then
   ⟨node,s.dots + 1,0,wroteS s (bagD (s.dots + 1) key ⟨putK (bagOf s key).known (bagOf s key).vals known node (s.dots + 1) data,putR (bagOf s key).known (bagOf s key).vals known node (s.dots + 1) data⟩)⟩
  else ⟨0,0,writeE (bagD (s.dots + 1) key ⟨putK (bagOf s key).known (bagOf s key).vals known node (s.dots + 1) data,putR (bagOf s key).known (bagOf s key).vals known node (s.dots + 1) data⟩) s.ds s.room,s⟩)
 else ⟨0,0,putE (bagOf s key).known (bagOf s key).vals known node (s.dots + 1) data,s⟩
theorem putR_len {k known:Nat→Int} {l:List Val} {a c:Int} {data:List UInt8}:(putR k l known a c data).length≤32:=by
 rcases putE_cases (k:=k) (known:=known) (l:=l) (a:=a) (c:=c) (data:=data) with ⟨_,e⟩ | ⟨_,_,e⟩ | ⟨_,hl,e⟩
 · simp [putR,e]
 · simp [putR,e]
 · simp [putR,e,hl]
theorem putR_fit {k known:Nat→Int} {l:List Val} {a c:Int} {data:List UInt8}:(putR k l known a c data).length * 32≤reachBytes:=by
 have hr:reachBytes=140737488351232:=rfl
 have:=putR_len (k:=k) (known:=known) (l:=l) (a:=a) (c:=c) (data:=data)
 omega
theorem bag_len {s:VSt} (ok:VOk s) {key:List UInt8}:(bagOf s key).vals.length < 4611686018427387904:=by
 have hr:reachBytes=140737488351232:=rfl
 have:=bag_fit ok (key:=key)
 omega
theorem zr_nil {H:Heap} {n:Int} {key:List UInt8} {b:Bag}:Rd H 1 intC (bagD n key b).ring.plan.targets .nilsl:=.inl .nil
set_option maxHeartbeats 2000000 in
theorem c24 {H:Heap} {p lb mi:Nat} {s:VSt} {v q:AV} {es:List (AV × AV × Nat)} {ck:Nat} (h:Vlt H p lb mi s v q es ck) (ok:VOk s) (node:Int) (key:List UInt8) (known:Nat→Int) (data:List UInt8) :
 WCl envE 24 [.ptr (some (p,0)),I node,.str key,.agg (vecC known),.str data] 0 H fun r H'=>r=.tup [.agg [I (putO s node key known data).a,I (putO s node key known data).c],I (putO s node key known data).e]∧VStep H H' p lb mi (putO s node key known data).s:=by
 obtain ⟨R,hR⟩:∃ R,R=putO s node key known data:=⟨_,rfl⟩
 rw [← hR]
 obtain ⟨H1,hH1⟩:∃ H1,H1=H++[.cells false (vecC known),.cells false [I 0,I 0]]:=⟨_,rfl⟩
 have hv1:Vlt H1 p lb mi s v q es ck:=by rw [hH1];exact h.app
 have kp1:Kp H H1 p lb mi:=by rw [hH1];exact .app
 have ck0:H1[H.length]?=some (.cells false (vecC known)):=by rw [hH1];simp
 have cr0:H1[H.length + 1]?=some (.cells false [I 0,I 0]):=by rw [hH1];simp
 have cp0:=hv1.cells0
 have hst0:∀ (H9:Heap) (x y:Int),H9[H.length + 1]?=some (.cells false [I 0,I 0])→storeAt 0 H9 2 (.ptr (some (H.length + 1,0))) (.agg [I x,I y])=some (H9.set (H.length + 1) (.cells false [I x,I y])):=fun H9 x y hc=>by
  have:=store_of (lim:=0) (n:=2) (o:=0) (v:=.agg [I x,I y]) hc (by omega) (by simp [AV.cells]) (by simp) (by simp [AV.cells])
  simpa [AV.cells] using this
 have np:H.length + 1 ≠ p:=by have:=lt_of h.box;omega
 have nl:H.length + 1 ≠ lb:=by have:=lt_of h.led.at';omega
 have nm:H.length + 1 ≠ mi:=by have:=lt_of h.map;omega
 by_cases n1:node < 0
 · have e:R=⟨0,0,1,s⟩:=by rw [hR];simp [putO,n1]
   rw [e]
   refine cl_of e24 rfl ?_
   rw [fr_init (by simp [fd24])]
   simp [fd24,b24,n1]
   exact VStep.app h
 by_cases n2:8≤node
 · have e:R=⟨0,0,1,s⟩:=by rw [hR];simp [putO,n2]
   rw [e]
   refine cl_of e24 rfl ?_
   rw [fr_init (by simp [fd24])]
   simp [fd24,b24,n1,n2]
   exact VStep.app h
 cases hk:keyOk key
 · have e:R=⟨0,0,1,s⟩:=by rw [hR];simp [putO,hk]
   rw [e]
   refine cl_of e24 rfl ?_
   rw [fr_init (by simp [fd24])]
   simp [fd24,b24,n1,n2,hk]
   exact VStep.app h
 by_cases hd:s.dots=1000000
 · have e:R=⟨0,0,6,s⟩:=by rw [hR];simp [putO,n1,n2,hk,hd]
   rw [e]
   refine cl_of e24 rfl ?_
   rw [fr_init (by simp [fd24])]
   simp [fd24,b24,n1,n2,hk,← hH1,cp0,hd,hst0 _ 0 0 cr0,cells_of (List.getElem?_set_self (lt_of cr0))]
   exact ((VStep.refl hv1).after kp1).setF cr0 np nl nm (by omega)
 have hfull:=c72 hv1 key 0 (Nat.zero_le _)
 have hw:IntKind.i64.wrap (s.dots + 1)=s.dots + 1:=by have:=ok.d0;have:=ok.d1;rw [wrap_i64] <;> omega
 obtain ⟨m,hm⟩:∃ m,m=s.dots + 1:=⟨_,rfl⟩
 rw [← hm] at hw
 refine cl_of e24 rfl ?_
 rw [fr_init (by simp [fd24])]
 simp [fd24,b24,n1,n2,hk,← hH1,cp0,hd]
 refine WCl.mono hfull ?_
 rintro _ _ ⟨rfl,X,rfl⟩
 have crX:(H1++X)[H.length + 1]?=some (.cells false [I 0,I 0]):=get_app cr0
 have fresh:∀ z,VStep H ((H1++X).set (H.length + 1) z) p lb mi s:=fun z=>((VStep.app hv1).after kp1).setF crX np nl nm (by omega)
 cases hfl:fullS s key
 case true =>
  have e:R=⟨0,0,5,s⟩:=by rw [hR];simp [putO,n1,n2,hk,hd,hfl]
  rw [e]
  simp [hst0 _ 0 0 crX,cells_of (List.getElem?_set_self (lt_of crX))]
  exact fresh _
 obtain ⟨K',hK'⟩:∃ K',K'=putK (bagOf s key).known (bagOf s key).vals known node m data:=⟨_,rfl⟩
 obtain ⟨L',hL'⟩:∃ L',L'=putR (bagOf s key).known (bagOf s key).vals known node m data:=⟨_,rfl⟩
 obtain ⟨E1,hE1⟩:∃ E1,E1=putE (bagOf s key).known (bagOf s key).vals known node m data:=⟨_,rfl⟩
 have k71i:∀ H Q,wPu envE 75 (some [.agg (bagV (bagOf s key).known (roL valC (bagOf s key).vals)),.agg (vecC known),.agg [I node,I m],.str data]) H Q=Q (.tup [.agg (bagV K' (thaw (owL 3 valC L') H).1),I E1]) (thaw (owL 3 valC L') H).2:=fun H Q=>by
  rw [hK',hL',hE1]
  exact k75 (bag_len ok)
 obtain ⟨H2,hH2⟩:∃ H2,H2=H1++(X++[ABlk.cells false [I node,I m]]):=⟨_,rfl⟩
 have kp2:Kp H H2 p lb mi:=by rw [hH2];exact kp1.trans .app
 have hv2:Vlt H2 p lb mi s v q es ck:=by rw [hH2];exact hv1.app
 have c8:∀ Z,Heap.cells? (H2++Z) H.length=some (vecC known):=fun Z=>by rw [hH2];exact cells_of (get_app (get_app ck0))
 have c118:Heap.cells? H2 H.length=some (vecC known):=by simpa using c8 []
 have b12:∀ Z,(H2++Z)[H1.length + X.length]?=some (.cells false [I node,I m]):=fun Z=>by
  refine get_app ?_
  rw [hH2,← List.append_assoc]
  have:H1.length + X.length=(H1++X).length:=by simp
  rw [this]
  exact get_new
 have c12:=fun Z=>cells_of (b12 Z)
 have c120:Heap.cells? H2 (H1.length + X.length)=some [I node,I m]:=by simpa using c12 []
 have b10:H2[H.length + 1]?=some (.cells false [I 0,I 0]):=by rw [hH2];exact get_app cr0
 have cp2:=hv2.cells0
 have cm2:=hv2.map
 obtain ⟨x,rr,g1,g2,g3,g4⟩:=hv2.look key
 have fq:∀ X,frz (H2++X) 11 rr=some (roL valC (bagOf s key).vals):=fun X=>(g4.app (X:=X)).frz (d:=9) valC_len val_flat
 have fq0:frz H2 11 rr=some (roL valC (bagOf s key).vals):=g4.frz (d:=9) valC_len val_flat
 obtain ⟨v1,X1,t1,r1⟩:=thaw_owL (H:=H2) (lim:=0) (es:=3) val_still (Nat.zero_le _) L'
 obtain ⟨H3,hH3⟩:∃ H3,H3=H2++(X1++[ABlk.cells false (bagV K' v1)]):=⟨_,rfl⟩
 have o1:=r1.one
 have kp3:Kp H H3 p lb mi:=by rw [hH3];exact kp2.trans .app
 have hv3:Vlt H3 p lb mi s v q es ck:=by rw [hH3];exact hv2.app
 have c13:Heap.cells? H3 (H2.length + X1.length)=some (bagV K' v1):=by rw [hH3];simp
 have b185:H3[H1.length + X.length]?=some (.cells false [I node,I m]):=by rw [hH3];exact b12 _
 have c185:=cells_of b185
 have b156:H3[H.length + 1]?=some (.cells false [I 0,I 0]):=by rw [hH3];exact get_app b10
 have rd3:Rd H3 3 valC L' v1:=.inl (by
  have:=r1.app (X:=[ABlk.cells false (bagV K' v1)])
  rw [List.append_assoc] at this
  rw [hH3]
  exact this)
 have lenX:H.length + 1 < H1.length + X.length:=by rw [hH1];simp;omega
 have np2:H1.length + X.length ≠ p:=by have:=lt_of h.box;omega
 have nl2:H1.length + X.length ≠ lb:=by have:=lt_of h.led.at';omega
 have nm2:H1.length + X.length ≠ mi:=by have:=lt_of h.map;omega
 have hfitD:deedFits (bagD m key ⟨K',L'⟩):=⟨by rw [hL'];exact putR_fit,Nat.zero_le _⟩
 have hkl:(bagD m key ⟨K',L'⟩).key.length < 4611686018427387904:=by
  simp [keyOk] at hk
  simp only [bagD]
  omega
 have hwr:=c66 hv3 ok (bagD m key ⟨K',L'⟩) v1 .nilsl (.inr (.inr rfl)) rd3 zr_nil hfitD hkl
 have hdm:deedV 3 m key K' v1 zeroV 0 0 .nilsl zeroV zeroV 0=deedM (bagD m key ⟨K',L'⟩) v1 .nilsl:=rfl
 rw [← hdm] at hwr
 have hm':¬ s.dots + 1=s.dots:=by omega
 have hR2:R=if E1=0 then (if writeE (bagD m key ⟨K',L'⟩) s.ds s.room=0 then ⟨node,m,0,wroteS s (bagD m key ⟨K',L'⟩)⟩ else ⟨0,0,writeE (bagD m key ⟨K',L'⟩) s.ds s.room,s⟩) else ⟨0,0,E1,s⟩:=by
  rw [hR,hE1,hK',hL',hm]
  simp [putO,n1,n2,hk,hd,hfl]
 have hlen3:H2.length + (X1.length + 1)≤H3.length:=by rw [hH3];simp
 have done3:VStep H H3 p lb mi s:=⟨kp3,_,_,_,_,hv3⟩
 have s0:=hst0 H3 0 0 b156
 have cset0:=cells_of (List.getElem?_set_self (lt_of b156) (a:=ABlk.cells false [I 0,I 0]))
 have key2:∀ (K:Prop),K→K:=fun _ h=>h
 by_cases hE0:E1=0
 · rw [if_pos hE0] at hR2
   cases x with
   | none =>
    simp only at g2
    simp [bagV_zero,hv1.cells,cp2,cm2,hw,← hm,hm',← hH2,c8,c118,c12,c120,g1,g2,isKey,fq,fq0,k71i,t1,o1,← hH3,c13,c185,hlen3,hE0]
    refine WCl.mono hwr ?_
    rintro _ H4 ⟨rfl,hs4⟩
    have b157:=hs4.1.2 _ _ b156 np nl nm (by intro y e;cases e)
    have b186:=hs4.1.2 _ _ b185 np2 nl2 nm2 (by intro y e;cases e)
    by_cases hE2:writeE (bagD m key ⟨K',L'⟩) s.ds s.room=0
    · rw [if_pos hE2] at hR2
      rw [hR2]
      simp [hE2,cells_of b186,hst0 H4 node m b157,cells_of (List.getElem?_set_self (lt_of b157))]
      exact (hs4.after kp3).setF b157 np nl nm (by omega)
    · rw [if_neg hE2] at hR2
      rw [hR2]
      simp [hE2,hst0 H4 0 0 b157,cells_of (List.getElem?_set_self (lt_of b157))]
      have hs5:=hs4.after kp3
      rw [wroteS,if_neg hE2] at hs5
      exact hs5.setF b157 np nl nm (by omega)
   | some y =>
    obtain ⟨j,w⟩:=y
    simp only at g2
    subst g2
    simp [bagV_zero,hv1.cells,cp2,cm2,hw,← hm,hm',← hH2,c8,c118,c12,c120,g1,isKey,fq,fq0,k71i,t1,o1,← hH3,c13,c185,hlen3,hE0]
    refine WCl.mono hwr ?_
    rintro _ H4 ⟨rfl,hs4⟩
    have b157:=hs4.1.2 _ _ b156 np nl nm (by intro y e;cases e)
    have b186:=hs4.1.2 _ _ b185 np2 nl2 nm2 (by intro y e;cases e)
    by_cases hE2:writeE (bagD m key ⟨K',L'⟩) s.ds s.room=0
    · rw [if_pos hE2] at hR2
      rw [hR2]
      simp [hE2,cells_of b186,hst0 H4 node m b157,cells_of (List.getElem?_set_self (lt_of b157))]
      exact (hs4.after kp3).setF b157 np nl nm (by omega)
    · rw [if_neg hE2] at hR2
      rw [hR2]
      simp [hE2,hst0 H4 0 0 b157,cells_of (List.getElem?_set_self (lt_of b157))]
      have hs5:=hs4.after kp3
      rw [wroteS,if_neg hE2] at hs5
      exact hs5.setF b157 np nl nm (by omega)
 · rw [if_neg hE0] at hR2
   rw [hR2]
   cases x with
   | none =>
    simp only at g2
    simp [bagV_zero,hv1.cells,cp2,cm2,hw,← hm,hm',← hH2,c8,c118,c12,c120,g1,g2,isKey,fq,fq0,k71i,t1,o1,← hH3,c13,c185,hlen3,hE0,s0,cset0]
    exact done3.setF b156 np nl nm (by omega)
   | some y =>
    obtain ⟨j,w⟩:=y
    simp only at g2
    subst g2
    simp [bagV_zero,hv1.cells,cp2,cm2,hw,← hm,hm',← hH2,c8,c118,c12,c120,g1,isKey,fq,fq0,k71i,t1,o1,← hH3,c13,c185,hlen3,hE0,s0,cset0]
    exact done3.setF b156 np nl nm (by omega)
structure MergeR where
 e:Int
 s:VSt
def mergeD (s:VSt) (key:List UInt8) (b:Bag):Deed:=bagD s.dots key ⟨joinK (bagOf s key).known (bagOf s key).vals b.known b.vals,joinR (bagOf s key).known (bagOf s key).vals b.known b.vals⟩
def mergeO (s:VSt) (key:List UInt8) (b:Bag):MergeR :=
 if keyOk key=false∨bagMay b.known b.vals=false then ⟨1,s⟩
 else if fullS s key=true then ⟨5,s⟩
 else if joinE (bagOf s key).known (bagOf s key).vals b.known b.vals ≠ 0∨belowB b.known b.vals (bagOf s key).known (bagOf s key).vals=true then ⟨joinE (bagOf s key).known (bagOf s key).vals b.known b.vals,s⟩
 else ⟨writeE (mergeD s key b) s.ds s.room,wroteS s (mergeD s key b)⟩
end Go.Proofs.YtgbnbgkldeifkaaGreatA
namespace Go.Proofs.YtgbnbgkldeifkaaGreatA
open Go
set_option linter.unusedSimpArgs false
set_option linter.unusedVariables false
set_option maxRecDepth 1000000
attribute [local simp] deed_zero ring_zero
def emptyS (room:Int):VSt:=⟨[],0,room,0,zRingS,0,0,[]⟩
theorem empty_ok {room:Int} (h0:0≤room) (h1:room≤3000):VOk (emptyS room):=⟨h0,h1,by simp [emptyS];omega,by simp [emptyS],Nat.zero_le _,by simp [emptyS,lookB],Nat.zero_le _,by simp [emptyS],by simp [emptyS],by simp [emptyS]⟩
def vltE (lb mi:Nat):List AV:=vltC lb mi (emptyS 0) .nilsl
theorem vlt_zero {lb mi:Nat}:[AV.ptr (some (lb,0)),I 0,I 0,I 0,I 0,I 0,I 0,I 0,I 0,I 0,I 0,I 0,AV.nilsl,I 0,I 0,I 0,I 0,I 0,I 0,I 0,I 0,I 0,I 0,I 0,I 0,I 0,I 0,I 0,I 0,I 0,I 0,I 0,I 0,I 0,I 0,I 0,I 0,I 0,I 0,I 0,I 0,I 0,I 0,I 0,I 0,I 0,I 0,AV.mapv (some mi)]=vltE lb mi:=hard rfl
theorem vltE_eq {lb mi:Nat} {room:Int}:vltC lb mi (emptyS room) .nilsl=vltE lb mi:=rfl
theorem c14e {H:Heap} {lb:Nat} {room:Int} (h:H[lb]?=some (.cells false [.nilsl,I 0,I room])) :
 WCl envE 16 [.ptr (some (lb,0))] 0 H fun r H'=>r=.ptr (some (H.length + 1,0))∧∃ X,H'=H++X∧Vlt H' (H.length + 1) lb H.length (emptyS room) .nilsl .nilsl [] 0:=by
 refine cl_of e16 rfl ?_
 obtain ⟨B,hB⟩:∃ B,B=vltE lb H.length:=⟨_,rfl⟩
 have hbo:(∀ x:AV,x ∈ B→x.one=true)=True:=eq_true (List.all_eq_true.1 (by rw [hB];exact vlt_one))
 have hL:Led 0 (H++[.map [] 0,.cells false B]) lb .nilsl [] 0 room:=⟨get_app h,.nil,by simp⟩
 have hall:=c65 hL (by simp) 0 (Nat.zero_le _)
 rw [fr_init (by simp [fd16])]
 simp [fd16,b16,vlt_zero,← hB,hbo]
 refine WCl.mono hall ?_
 rintro x _ ⟨X,rfl,hD⟩
 have hl:=hD.len
 simp [hl]
 refine loop_go [3,4,16,17,18] rfl (fun m vs H'=>H'=H++.map [] 0 :: .cells false B :: X∧vs=[.ptr (some (H.length + 1,0)),.fn (.func 64) [.ptr (some (H.length + 1,0))] [],x,I 0,I 0]) ?_ 0 ⟨rfl,rfl⟩
 rintro J hJ m vs H' f ⟨rfl,rfl⟩
 simp [lp16_0]
 refine ⟨?_,?_,.nil,?_,EntK.nil,fun _=>rfl⟩
 · simp [hB,vltE_eq]
 · exact ⟨by rw [List.getElem?_append_left (lt_of h)];exact h,.nil,by simp [emptyS]⟩
 · simp
theorem open_new (room:Int) (H:Heap) (h0:0≤room) (h1:room≤3000) {K:AV→Heap→Prop} (hK:∀ X,Vlt (H++X) (H.length + 2) H.length (H.length + 1) (emptyS room) .nilsl .nilsl [] 0→K (.ptr (some (H.length + 2,0))) (H++X)) :
 WCl envE 16 [.ptr (some (H.length,0))] 0 (H++[.cells false [.nilsl,I 0,I room]]) K:=by
 refine WCl.mono (c14e (H:=H++[.cells false [.nilsl,I 0,I room]]) (lb:=H.length) (room:=room) (by simp)) ?_
 rintro _ _ ⟨rfl,X,rfl,hv⟩
 have e:(H++[ABlk.cells false [.nilsl,I 0,I room]]).length=H.length + 1:=by simp
 rw [e,List.append_assoc] at hv
 rw [e,List.append_assoc]
 exact hK _ hv
theorem new_room {room:Int} (h0:0≤room) (h1:room≤3000) {H:Heap} {lim:Nat} {K:AV→Heap→Prop}:WCl envE 15 [I room] lim H K=K (.ptr (some (H.length,0))) (H++[.cells false [.nilsl,I 0,I room]]):=by
 have:=WCl_eq (K:=K) (c13 room lim H)
 have e:max 0 (min room 3000)=room:=by omega
 rw [e] at this
 exact this
def partOk (p:Int):Bool:=decide (0≤p) && decide (p < 16)
def ownerF (r:Ring) (p:Int):Int:=if partOk p=true∧r.epoch p.toNat ≠ 0∧entMay (r.epoch p.toNat) (r.owner p.toNat)=true then r.owner p.toNat else -1
end Go.Proofs.YtgbnbgkldeifkaaGreatA

/- Keys and Drop of a vault. Keys of parts, in plain words. No statement about the program is proved here. -/
import Derived.Test.YtgbnbgkldeifkaaGreatVV
import Derived.Test.YtgbnbgkldeifkaaGreatKD
namespace Go.Proofs.YtgbnbgkldeifkaaGreatA
open Go
set_option linter.unusedSimpArgs false
set_option linter.unusedVariables false
set_option maxRecDepth 1000000
attribute [local simp] deed_zero
theorem e31:envE.fn 31=some (.prim keysG):=rfl
def keysS (s:VSt) (part:Int):List (List UInt8):=sortS ((s.bags.map Prod.fst).filter fun k=>decide (spotF k=part))
theorem ents_keys {H:Heap}:∀ {l:List (List UInt8 × Bag)} {es:List (AV × AV × Nat)},Ents H l es→(es.map fun e=>keyA e.1)=l.map Prod.fst∧(∀ e ∈ es,isStr e.1=true)∧∀ e ∈ es,isBagV e.2.1=true
 | [],[],_=>⟨rfl,by simp,by simp⟩
 | (k,b) :: l,e :: es,h=>by
  obtain ⟨⟨r,n,rfl,h2⟩,h3⟩:=h
  obtain ⟨g1,g2,g3⟩:=ents_keys h3
  refine ⟨by rw [List.map_cons,List.map_cons,g1];rfl,fun e he=>?_,fun e he=>?_⟩
  · rcases List.mem_cons.1 he with rfl | q
    · rfl
    · exact g2 e q
  · rcases List.mem_cons.1 he with rfl | q
    · simp [isBagV,h2.one]
    · exact g3 e q
 | [],_ :: _,h=>h.elim
 | _ :: _,[],h=>h.elim
theorem EntK.fresh {H:Heap} {l:List (List UInt8 × Bag)} {es:List (AV × AV × Nat)} {ck:Nat} (h:EntK H l es ck) (few:l.length < 1000000000000):FreshD es ck:=by
 obtain ⟨g1,g2,g3⟩:=ents_keys h.ents
 exact ⟨⟨fun e he=>⟨g2 e he,h.lt e he⟩,h.nd,by rw [h.len];exact few⟩,by rw [g1];exact h.uniq,g3⟩
section
variable {H:Heap} {p lb mi:Nat} {s:VSt} {v q:AV} {es:List (AV × AV × Nat)} {ck:Nat}
theorem vlt_at47:(vltC lb mi s q)[47]?=some (.mapv (some mi)):=by kernel_rfl
theorem c40k (h:Vlt H p lb mi s v q es ck) (few:s.bags.length < 1000000000000) (part:Int) (hp:0≤part) (lim:Nat) :
 WCl envE 31 [.ptr (some (p,0)),I part] lim H fun r H'=>∃ X,H'=H++X∧Row H.length (H++X) 1 strC (keysS s part) r:=by
 obtain ⟨r,X,h1,h2⟩:=thaw_owL (H:=H) (lim:=H.length) (es:=1) (f:=strC) (fun _ _=>by simp [strC]) (Nat.le_refl _) (keysS s part)
 have hfr:=(h.ents.fresh few).1
 have hk:partK part es=(s.bags.map Prod.fst).filter fun k=>decide (spotF k=part):=by
  unfold partK
  rw [(ents_keys h.ents.ents).1]
 have hg:keysG [.ptr (some (p,0)),I part] lim H=some (r,H++X):=by
  unfold keysG
  simp only [I]
  rw [if_neg (by omega)]
  simp only [h.cells0,vlt_at47,h.map]
  rw [if_pos hfr,hk]
  exact congrArg some h1
 exact ⟨r,H++X,cl_prim e31 hg,X,rfl,h2⟩
def dropD (part:Int):Deed:=⟨4,0,[],⟨zeroV,[]⟩,zRingS,part⟩
def restB (part:Int) (l:List (List UInt8 × Bag)):List (List UInt8 × Bag):=l.filter fun x=>!decide (spotF x.1=part)
def dropS (s:VSt) (part:Int):VSt:=if writeE (dropD part) s.ds s.room=0 then { s with ds:=s.ds++[dropD part],bags:=restB part s.bags } else s
theorem ents_rest {part:Int}:∀ {l:List (List UInt8 × Bag)} {es:List (AV × AV × Nat)},Ents H l es→Ents H (restB part l) (restE part es)
 | [],[],_=>trivial
 | (k,b) :: l,e :: es,h=>by
  obtain ⟨⟨r,n,rfl,h2⟩,h3⟩:=h
  have ih:=ents_rest (part:=part) h3
  unfold restB restE
  by_cases g:spotF k=part
  · rw [List.filter_cons_of_neg (by simp [g]),List.filter_cons_of_neg (by simp [g,keyA])]
    exact ih
  · rw [List.filter_cons_of_pos (by simp [g]),List.filter_cons_of_pos (by simp [g,keyA])]
    exact ⟨⟨r,n,rfl,h2⟩,ih⟩
 | [],_ :: _,h=>h.elim
 | _ :: _,[],h=>h.elim
theorem EntK.rest {l:List (List UInt8 × Bag)} {part:Int} (h:EntK H l es ck):EntK H (restB part l) (restE part es) ck:=by
 have s1:(restE part es).Sublist es:=List.filter_sublist
 have s2:(restB part l).Sublist l:=List.filter_sublist
 exact ⟨ents_rest h.ents,fun e he=>h.lt e (s1.subset he),(s1.map _).nodup h.nd,(s2.map _).nodup h.uniq⟩
end
end Go.Proofs.YtgbnbgkldeifkaaGreatA
namespace Go.Proofs.YtgbnbgkldeifkaaGreatA
open Go
set_option linter.unusedSimpArgs false
set_option linter.unusedVariables false
def addK (ks:List (List UInt8)) (key:List UInt8):List (List UInt8):=if key ∈ ks then ks else ks++[key]
theorem VOk.putV {s:VSt} (ok:VOk s) {node:Int} {key:List UInt8} {known:Nat→Int} {data:List UInt8}:VOk (putO s node key known data).s:=by
 unfold putO
 split
 · exact ok
 · split
   · exact ok
   · split
     · exact ok
     · split
       · split
         · exact ok.wrote ⟨putR_fit,Nat.zero_le _⟩
         · exact ok
       · exact ok
theorem put_keys {s:VSt} {node:Int} {key:List UInt8} {known:Nat→Int} {data:List UInt8} :
 ((putO s node key known data).e=0∧keyOk key=true∧(putO s node key known data).s.bags.map Prod.fst=addK (s.bags.map Prod.fst) key∧(putO s node key known data).s.ds.length=s.ds.length + 1∧(putO s node key known data).s.room=s.room)∨((putO s node key known data).e ≠ 0∧(putO s node key known data).s=s):=by
 unfold putO
 split
 · exact .inr ⟨by show (1:Int) ≠ 0;omega,rfl⟩
 · rename_i h1
   have hk:keyOk key=true:=by
    cases h:keyOk key
    · exact absurd (.inr (.inr h)) h1
    · rfl
   split
   · exact .inr ⟨by show (6:Int) ≠ 0;omega,rfl⟩
   · split
     · exact .inr ⟨by show (5:Int) ≠ 0;omega,rfl⟩
     · split
       · split
         · rename_i h5
           refine .inl ⟨rfl,hk,?_,?_,?_⟩
           · rw [wroteS,if_pos h5]
             simp only [countS,bagD]
             simp
             rw [setB_fst]
             rfl
           · rw [wroteS,if_pos h5]
             simp [countS,bagD]
           · rw [wroteS,if_pos h5]
             simp [countS,bagD]
         · rename_i h5
           exact .inr ⟨h5,rfl⟩
       · rename_i h4
         exact .inr ⟨h4,rfl⟩
theorem strLess_iff:∀ {a b:List UInt8},strLess a b=true ↔ a < b
 | a,[]=>by
  cases a <;> simp [strLess]
 | [],b :: y=>by simp [strLess]
 | a :: x,b :: y=>by
  unfold strLess
  rw [List.cons_lt_cons_iff,Bool.or_eq_true,Bool.and_eq_true,decide_eq_true_eq,beq_iff_eq,strLess_iff]
theorem sortS_perm {l:List (List UInt8)}:(sortS l).Perm l:=List.mergeSort_perm _ _
theorem sortS_sorted {l:List (List UInt8)}:(sortS l).Pairwise fun a b=>a≤b:=by
 have tr:∀ a b c:List UInt8,decide (a≤b)=true→decide (b≤c)=true→decide (a≤c)=true:=fun a b c h1 h2=>by simp only [decide_eq_true_eq] at *;exact List.le_trans h1 h2
 have to:∀ a b:List UInt8,(decide (a≤b) || decide (b≤a))=true:=fun a b=>by simp only [Bool.or_eq_true,decide_eq_true_eq];exact List.le_total a b
 exact (List.pairwise_mergeSort tr to l).imp fun {a b} h=>by simpa using h
def partF (ks:List (List UInt8)) (p:Int):List (List UInt8):=ks.filter fun k=>decide (spotF k=p)
def total (ks:List (List UInt8)):Nat→Nat
 | 0=>0
 | n + 1=>total ks n + (partF ks n).length
theorem keysS_len {s:VSt} {p:Int}:(keysS s p).length=(partF (s.bags.map Prod.fst) p).length:=sortS_len
theorem keysS_mem {s:VSt} {p:Int} {k:List UInt8}:k ∈ keysS s p ↔ k ∈ s.bags.map Prod.fst∧spotF k=p:=by
 unfold keysS
 rw [(sortS_perm).mem_iff,List.mem_filter,decide_eq_true_eq]
def InM:List (List UInt8)→List (AV × AV × Nat)→Prop
 | [],[]=>True
 | k :: ks,e :: es=>(∃ n,e=(.str k,I 1,n))∧InM ks es
 | _,_=>False
theorem InM.len:∀ {ks:List (List UInt8)} {es:List (AV × AV × Nat)},InM ks es→es.length=ks.length
 | [],[],_=>rfl
 | _ :: _,_ :: _,h=>by simp [InM.len h.2]
 | [],_ :: _,h=>h.elim
 | _ :: _,[],h=>h.elim
theorem InM.find {key:List UInt8}:∀ {ks:List (List UInt8)} {es:List (AV × AV × Nat)} (i:Nat),InM ks es→(key ∉ ks∧findKey .s (.str key) es i=some none)∨(key ∈ ks∧∃ j,findKey .s (.str key) es i=some (some (i + j,I 1))∧InM ks (es.modify j fun e=>(.str key,I 1,e.2.2)))
 | [],[],i,_=>.inl ⟨by simp,rfl⟩
 | k :: ks,e :: es,i,h=>by
  obtain ⟨⟨n,rfl⟩,h3⟩:=h
  by_cases hk:key=k
  · subst hk
    exact .inr ⟨.head _,0,by simp [findKey,eqCell],⟨⟨n,rfl⟩,h3⟩⟩
  · have hk':(key == k)=false:=by simpa using hk
    rcases h3.find (key:=key) (i + 1) with ⟨g1,g2⟩ | ⟨g1,j,g2,g3⟩
    · exact .inl ⟨by simp [hk,g1],by simp [findKey,eqCell,hk',g2]⟩
    · refine .inr ⟨.tail _ g1,j + 1,?_,?_⟩
      · simp only [findKey,eqCell,hk',Option.bind_some,Bool.false_eq_true,if_false,g2]
        congr 3
        omega
      · rw [List.modify_succ_cons]
        exact ⟨⟨n,rfl⟩,g3⟩
 | [],_ :: _,_,h=>h.elim
 | _ :: _,[],_,h=>h.elim
theorem InM.put {key:List UInt8} {n:Nat}:∀ {ks:List (List UInt8)} {es:List (AV × AV × Nat)},InM ks es→InM (ks++[key]) (es++[(.str key,I 1,n)])
 | [],[],_=>⟨⟨n,rfl⟩,trivial⟩
 | _ :: _,_ :: _,h=>⟨h.1,h.2.put⟩
 | [],_ :: _,h=>h.elim
 | _ :: _,[],h=>h.elim
end Go.Proofs.YtgbnbgkldeifkaaGreatA

/- What was told, what is due: in plain words. No program is in sight here. -/
import Derived.Test.YtgbnbgkldeifkaaGreatFO
namespace Go.Proofs.YtgbnbgkldeifkaaGreatA
open Go
set_option linter.unusedSimpArgs false
set_option linter.unusedVariables false
theorem put_bag {s:VSt} {node:Int} {key:List UInt8} {known:Nat→Int} {data:List UInt8} {k:List UInt8} (hk:k ≠ key):bagOf (putO s node key known data).s k=bagOf s k:=by
 have hw:∀ d:Deed,d.kind=3→d.key=key→bagOf (wroteS s d) k=bagOf s k:=fun d h3 hd=>by
  unfold wroteS
  split
  · have e:(countS { s with ds:=s.ds++[d] } d).bags=setB s.bags d.key d.bag:=by simp [countS,h3]
    unfold bagOf
    rw [e,lookB_set,hd,if_neg (by simpa using hk)]
  · rfl
 unfold putO
 split
 · rfl
 · split
   · rfl
   · split
     · rfl
     · split
       · split
         · exact hw _ rfl rfl
         · rfl
       · rfl
structure Told (K D:List (List UInt8)) (L:List UInt8) (M:List (List UInt8 × Bag)) (bag:List UInt8→Bag):Prop where
 sub:∀ d ∈ D,d ∈ K∧strLess L d=false
 seen:∀ k ∈ K,strLess L k=false→k ∉ D→lookB M k=some (bag k)
 keys:∀ k ∈ M.map Prod.fst,k ∈ K
def remF (K D:List (List UInt8)) (L:List UInt8):Nat:=D.length + (K.filter fun k=>strLess L k).length
section
variable {K D:List (List UInt8)} {L:List UInt8} {M:List (List UInt8 × Bag)} {bag bag':List UInt8→Bag}
theorem Told.start:Told [] [] [] [] bag:=⟨by simp,by simp,by simp⟩
theorem setB_mem {key x:List UInt8} {b:Bag}:x ∈ (setB M key b).map Prod.fst ↔ x ∈ M.map Prod.fst∨x=key:=by
 rw [setB_fst]
 split
 · rename_i h
   constructor
   · exact .inl
   · rintro (q | q)
     · exact q
     · rw [q];exact h
 · rw [List.mem_append,List.mem_singleton]
theorem Told.next (h:Told K D L M bag) (hD:Strict D) (hK:Strict K) :
 (∃ k D' L',nextF K D L=(some k,D',L')∧k ∈ K∧Told K D' L' (setB M k (bag k)) bag∧remF K D' L' + 1=remF K D L∧D'.length≤D.length)∨(nextF K D L=(none,[],L)∧D=[]∧aheadF K L=none):=by
 cases D with
 | cons d ds =>
  have hd:=h.sub d (.head _)
  refine .inl ⟨d,ds,L,by simp [nextF,hd.1],hd.1,⟨fun x hx=>h.sub x (.tail _ hx),fun k hk hl hn=>?_,fun k hk=>?_⟩,by simp only [remF,List.length_cons];omega,by simp⟩
  · rw [lookB_set]
    split
    · rename_i e
      have:k=d:=by simpa using e
      rw [this]
    · rename_i e
      refine h.seen k hk hl fun q=>?_
      rcases List.mem_cons.1 q with q | q
      · exact e (by simpa using q)
      · exact hn q
  · rcases setB_mem.1 hk with q | q
    · exact h.keys k q
    · rw [q];exact hd.1
 | nil =>
  cases ha:aheadF K L with
  | none=>exact .inr ⟨by simp [nextF,ha],rfl,rfl⟩
  | some k =>
   have hkm:k ∈ K:=List.mem_of_find?_eq_some ha
   have hlk:strLess L k=true:=by have:=List.find?_some ha;simpa using this
   have first:∀ x ∈ K,strLess L x=true→x=k∨strLess k x=true:=fun x hx hlx=>by
    unfold aheadF at ha
    rw [List.find?_eq_some_iff_getElem] at ha
    obtain ⟨_,i,hi,rfl,hno⟩:=ha
    obtain ⟨j,hj,rfl⟩:=List.getElem_of_mem hx
    rcases Nat.lt_trichotomy i j with q | q | q
    · exact .inr (List.pairwise_iff_getElem.1 hK i j hi hj q)
    · subst q;exact .inl rfl
    · have:=hno j q
      rw [hlx] at this
      cases this
   refine .inl ⟨k,[],k,by simp [nextF,ha],hkm,⟨by simp,fun x hx hl _=>?_,fun x hx=>?_⟩,?_,by simp⟩
   · rw [lookB_set]
     split
     · rename_i e
       have:x=k:=by simpa using e
       rw [this]
     · rename_i e
       refine h.seen x hx ?_ (by simp)
       cases g:strLess L x
       · rfl
       · rcases first x hx g with q | q
         · exact absurd (by simpa using q) e
         · rw [hl] at q;cases q
   · rcases setB_mem.1 hx with q | q
     · exact h.keys x q
     · rw [q];exact hkm
   · have hcount:∀ l:List (List UInt8),Strict l→(∀ x ∈ l,strLess L x=true→x=k∨strLess k x=true)→(l.filter fun x=>strLess L x).length=(l.filter fun x=>strLess k x).length + if k ∈ l then 1 else 0:=fun l=>by
      induction l with
      | nil=>intro _ _;rfl
      | cons a l ih =>
       intro hs hf
       obtain ⟨s1,s2⟩:=List.pairwise_cons.1 hs
       have ih':=ih s2 fun x hx=>hf x (.tail _ hx)
       by_cases hak:a=k
       · subst hak
         have hnk:a ∉ l:=fun q=>by have:=s1 a q;rw [sless_irr] at this;cases this
         rw [List.filter_cons_of_pos (by simpa using hlk),List.filter_cons_of_neg (by simp [sless_irr]),List.length_cons,ih',if_neg hnk,if_pos (.head _)]
       · have hin:(k ∈ a :: l) ↔ k ∈ l:=by
          rw [List.mem_cons]
          exact ⟨fun q=>q.resolve_left fun e=>hak e.symm,.inr⟩
         simp only [hin]
         cases g:strLess L a
         · have g2:strLess k a=false:=by
            cases e:strLess k a
            · rfl
            · rw [sless_tr hlk e] at g;cases g
           rw [List.filter_cons_of_neg (by simp [g]),List.filter_cons_of_neg (by simp [g2]),ih']
         · have g2:strLess k a=true:=(hf a (.head _) g).resolve_left hak
           rw [List.filter_cons_of_pos (by simpa using g),List.filter_cons_of_pos (by simpa using g2),List.length_cons,List.length_cons,ih']
           omega
     have:=hcount K hK first
     rw [if_pos hkm] at this
     simp only [remF,List.length_nil]
     omega
theorem Told.put {K':List (List UInt8)} {part:Int} {key:List UInt8} (h:Told K D L M bag) (hk:∀ x,x ∈ K' ↔ x ∈ K∨(x=key∧spotF key=part)) (hp:∀ x ∈ K,spotF x=part) (hb:∀ x,x ≠ key→bag' x=bag x):Told K' (backF part D L key) L M bag':=by
 have hin:∀ x,x ∈ backF part D L key ↔ x ∈ D∨(x=key∧backOk part L key=true):=fun x=>by
  unfold backF
  cases e:backOk part L key
  · simp
  · rw [if_pos rfl,insF_mem]
    constructor
    · rintro (q | q)
      · exact .inr ⟨q,rfl⟩
      · exact .inl q
    · rintro (q | ⟨q,_⟩)
      · exact .inr q
      · exact .inl q
 refine ⟨fun d hd=>?_,fun k hkk hl hn=>?_,fun k hkm=>(hk k).2 (.inl (h.keys k hkm))⟩
 · rcases (hin d).1 hd with q | ⟨rfl,q⟩
   · exact ⟨(hk d).2 (.inl (h.sub d q).1),(h.sub d q).2⟩
   · simp only [backOk,Bool.and_eq_true,decide_eq_true_eq,Bool.not_eq_true'] at q
     exact ⟨(hk d).2 (.inr ⟨rfl,q.1⟩),q.2⟩
 · by_cases e:k=key
   · subst e
     have hsp:spotF k=part:=by
      rcases (hk k).1 hkk with q | ⟨_,q⟩
      · exact hp k q
      · exact q
     exact absurd ((hin k).2 (.inr ⟨rfl,by simp [backOk,hsp,hl]⟩)) hn
   · rw [hb k e]
     refine h.seen k ?_ hl fun q=>hn ((hin k).2 (.inl q))
     rcases (hk k).1 hkk with q | ⟨q,_⟩
     · exact q
     · exact absurd q e
theorem Told.done (h:Told K [] L M bag) (hK:Strict K) (hM:(M.map Prod.fst).Nodup) (ha:aheadF K L=none):(∀ k ∈ K,lookB M k=some (bag k))∧M.length=K.length:=by
 have h1:∀ k ∈ K,lookB M k=some (bag k):=fun k hk=>h.seen k hk (by
  unfold aheadF at ha
  have:=List.find?_eq_none.1 ha k hk
  simpa using this) (by simp)
 refine ⟨h1,?_⟩
 have nd:K.Nodup:=hK.imp fun {a b} q e=>by rw [e,sless_irr] at q;cases q
 have hp:(M.map Prod.fst).Perm K:=(List.perm_ext_iff_of_nodup hM nd).2 fun x=>⟨h.keys x,fun hx=>by
  have:=h1 x hx
  exact Classical.byContradiction fun q=>by rw [lookB_mem.2 q] at this;cases this⟩
 have:=hp.length_eq
 simpa using this
end
end Go.Proofs.YtgbnbgkldeifkaaGreatA

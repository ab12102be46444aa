/- The keys of a part, whatever order a map is ranged over. No statement about the program is proved here. -/
import Derived.Test.YtgbnbgkldeifkaaGreatKB
import Derived.Test.YtgbnbgkldeifkaaGreatA42
import Derived.Sort.KeysCollected
namespace Go.Proofs.YtgbnbgkldeifkaaGreatA
open Go
set_option linter.unusedSimpArgs false
set_option linter.unusedVariables false
set_option maxRecDepth 1000000
def keyA:AV→List UInt8
 | .str s=>s
 | _=>[]
def isStr:AV→Bool
 | .str _=>true
 | _=>false
theorem str_keyA {v:AV} (h:isStr v=true):v=.str (keyA v):=by
 cases v <;> simp [isStr] at h
 rfl
def Fresh (es:List (AV × AV × Nat)) (ck:Nat):Prop:=(∀ e ∈ es,isStr e.1=true∧e.2.2 < ck)∧(es.map fun e=>e.2.2).Nodup∧es.length < 1000000000000
instance {es:List (AV × AV × Nat)} {ck:Nat}:Decidable (Fresh es ck):=inferInstanceAs (Decidable (_∧_))
def partK (part:Int) (es:List (AV × AV × Nat)):List (List UInt8):=(es.map fun e=>keyA e.1).filter fun k=>decide (spotF k=part)
def keysG (xs:List AV) (_lim:Nat) (H:Heap):Option (AV × Heap) :=
 match xs with
 | [.ptr none,.int .i64 _]=>some (.nilsl,H)
 | [.ptr (some (p,0)),.int .i64 part] =>
  if part < 0 then some (.nilsl,H) else
  match Heap.cells? H p with
  | some cs =>
   match (cs[47]?:Option AV) with
   | some (.mapv (some mi)) =>
    match H[mi]? with
    | some (.map es ck)=>if Fresh es ck then some (thaw (owL 1 strC (sortS (partK part es))) H) else none
    | _=>none
   | _=>none
  | _=>none
 | _=>none
theorem perm_seen {os es:List (AV × AV × Nat)} (h1:(os.map fun e=>e.2.2).Nodup) (h2:(es.map fun e=>e.2.2).Nodup) (h3:∀ e ∈ os,e ∈ es) (h4:∀ e ∈ es,e.2.2 ∈ os.map fun e=>e.2.2):os.Perm es:=by
 have nd:∀ {l:List (AV × AV × Nat)},(l.map fun e=>e.2.2).Nodup→l.Nodup:=fun {l} h=>by
  unfold List.Nodup at h ⊢
  rw [List.pairwise_map] at h
  exact h.imp fun {a b} q e=>q (by rw [e])
 have uq:∀ {a b:AV × AV × Nat} {l:List (AV × AV × Nat)},(l.map fun e=>e.2.2).Nodup→a ∈ l→b ∈ l→a.2.2=b.2.2→a=b:=fun {a b l} h ha hb e=>by
  induction l with
  | nil=>cases ha
  | cons x l ih =>
   rw [List.map_cons,List.nodup_cons] at h
   rcases List.mem_cons.1 ha with q | q <;> rcases List.mem_cons.1 hb with p | p
   · rw [q,p]
   · exact absurd (List.mem_map.2 ⟨b,p,by rw [← e,q]⟩) h.1
   · exact absurd (List.mem_map.2 ⟨a,q,by rw [e,p]⟩) h.1
   · exact ih h.2 q p
 refine (List.perm_ext_iff_of_nodup (nd h1) (nd h2)).2 fun x=>⟨h3 x,fun hx=>?_⟩
 obtain ⟨y,hy,e⟩:=List.mem_map.1 (h4 x hx)
 rw [← uq h2 (h3 y hy) hx e]
 exact hy
theorem perm_len {os es:List (AV × AV × Nat)} (h1:(os.map fun e=>e.2.2).Nodup) (h2:(es.map fun e=>e.2.2).Nodup) (h3:∀ e ∈ os,e ∈ es):os.length≤es.length:=by
 have nd:os.Nodup:=by
  unfold List.Nodup at h1 ⊢
  rw [List.pairwise_map] at h1
  exact h1.imp fun {a b} q e=>q (by rw [e])
 exact List.Nodup.length_le_of_subset nd h3
theorem find_stamp {es:List (AV × AV × Nat)} {e:AV × AV × Nat} (h:(es.map fun e=>e.2.2).Nodup) (he:e ∈ es):es.find? (fun x=>x.2.2 == e.2.2)=some e:=by
 induction es with
 | nil=>cases he
 | cons x l ih =>
  rw [List.map_cons,List.nodup_cons] at h
  rcases List.mem_cons.1 he with q | q
  · subst q;simp
  · have:¬ x.2.2=e.2.2:=fun q2=>h.1 (List.mem_map.2 ⟨e,q,q2.symm⟩)
    rw [List.find?_cons_of_neg (by simpa using this)]
    exact ih h.2 q
theorem str_plain':Plain strC:=fun _ _ _=>hard rfl
theorem part_perm {part:Int} {os es:List (AV × AV × Nat)} (h:os.Perm es):sortS (partK part os)=sortS (partK part es):=mergeSort_of_perm ((h.map _).filter _)
theorem Fresh.no {es:List (AV × AV × Nat)} {ck:Nat} {seen:List Nat} (h:Fresh es ck):¬ ((!seen.isEmpty && !es.isEmpty && es.all fun e=>decide (e.2.2 ≥ ck))=true):=by
 intro q
 rw [Bool.and_eq_true,Bool.and_eq_true] at q
 cases es with
 | nil=>simp at q
 | cons e es =>
  have:=(h.1 e (.head _)).2
  have:=List.all_eq_true.1 q.2 e (.head _)
  simp at this
  omega
theorem heap_cut {H H':Heap} (hl:H.length≤H'.length) (h:∀ b:Nat,b < H.length→H'[b]?=H[b]?):H'=H++H'.drop H.length:=by
 apply List.ext_getElem?
 intro j
 rcases Nat.lt_or_ge j H.length with q | q
 · rw [List.getElem?_append_left q,h j q]
 · rw [List.getElem?_append_right q,List.getElem?_drop]
   congr 1
   omega
theorem flat_str {l:List (List UInt8)}:l.flatMap strC=l.map AV.str:=by
 induction l with
 | nil=>rfl
 | cons s l ih=>rw [List.flatMap_cons,ih];rfl
theorem sortS_len {l:List (List UInt8)}:(sortS l).length=l.length:=List.length_mergeSort l
theorem partK_len {part:Int} {es:List (AV × AV × Nat)}:(partK part es).length≤es.length:=by
 unfold partK
 exact Nat.le_trans (List.length_filter_le _ _) (by simp)
theorem sort_row {lim l0:Nat} {H:Heap} {l:List (List UInt8)} {v:AV} (hr:Row lim H 1 strC l v) (hl:l.length < 4611686018427387904) (hlim:l0≤lim):∃ H',sortG [v] l0 H=some (.tup [],H')∧Row lim H' 1 strC (sortS l) v∧H'.length=H.length∧∀ (b:Nat),b < lim→H'[b]?=H[b]?:=by
 rcases hr with ⟨rfl,rfl⟩ | ⟨ne,b,h1,rfl,h3⟩
 · exact ⟨H,rfl,.inl ⟨by simp [sortS],rfl⟩,rfl,fun _ _=>rfl⟩
 · have hlen:0 < l.length:=List.length_pos_iff.2 ne
   have hb:b < H.length:=lt_of h3
   refine ⟨H.set b (.cells true ((sortS l).map .str)),?_,.inr ⟨fun e=>?_,b,h1,by rw [sortS_len],?_⟩,by simp,fun c hc=>?_⟩
   · have hb0:l0≤b:=Nat.le_trans hlim h1
     rw [flat_str] at h3
     simp only [sortG,hb0,hlen,hl,and_self,if_true,h3,strsOf_map,Option.bind_some,List.length_map]
   · have h5:=congrArg List.length e
     rw [sortS_len] at h5
     simp only [List.length_nil] at h5
     omega
   · rw [List.getElem?_set_self hb,flat_str]
   · rw [List.getElem?_set_ne (show b ≠ c by omega)]
theorem app_lim {l0 l1:Nat} {H:Heap} {es bytes:Nat} {v x:AV} {r:AV × Heap} (h:appendAV l1 H es bytes v x=some r) (hl:l0≤l1):appendAV l0 H es bytes v x=some r:=by
 unfold appendAV at h ⊢
 cases e:elems H es x with
 | none=>rw [e] at h;cases h
 | some p =>
  rw [e] at h
  simp only [Option.bind_some] at h ⊢
  split at h
  · rename_i q
    rw [if_pos q]
    exact h
  · rename_i q
    rw [if_neg q]
    cases v <;> first | exact h | skip
    rename_i b o n es'
    simp only at h ⊢
    split at h
    · rename_i q2
      rw [if_pos ⟨q2.1,q2.2.1,Nat.le_trans hl q2.2.2.1,q2.2.2.2⟩]
      exact h
    · cases h
attribute [local simp] nC_seq nC_region nC_cond nC_block nC_loop nC_ret nC_exit nC_skip isKill nextFirst killOf nReg_next
namespace B
theorem e81:envE.fn 81=some (.prim sortG):=rfl
theorem keys_ok : FnGood Tryz.prog 31 (.prim keysG):=by
 refine prim_own (E:=envE) ok31 fun xs lim H r H' hg=>?_
 unfold keysG at hg
 split at hg
 · cases hg
   refine ⟨.nilsl,by simp,nC_ok env_good ?_⟩
   rw [fr_init (by simp [fd31])]
   simp [fd31,b31,nC_seq,nC_region,nC_cond,nC_block,nC_loop,nC_ret,nC_exit,nC_skip,isKill,nextFirst,killOf,nReg_next,eqNil]
 · rename_i p part
   split at hg
   · rename_i hneg
     cases hg
     refine ⟨.nilsl,by simp,nC_ok env_good ?_⟩
     rw [fr_init (by simp [fd31])]
     simp [fd31,b31,nC_seq,nC_region,nC_cond,nC_block,nC_loop,nC_ret,nC_exit,nC_skip,isKill,nextFirst,killOf,nReg_next,hneg,eqNil]
   · rename_i hneg
     split at hg
     · rename_i cs hcs
       split at hg
       · rename_i mi h47
         split at hg
         · rename_i es ck hmap
           split at hg
           · rename_i hfr
             simp only [Option.some.injEq] at hg
             refine ⟨owL 1 strC (sortS (partK part es)),hg,nC_ok env_good ?_⟩
             have hc47:cut cs 47 1=some [.mapv (some mi)]:=by
              have hlt:47 < cs.length:=(List.getElem?_eq_some_iff.1 h47).1
              rw [cut_at (by omega),List.drop_eq_getElem_cons hlt]
              rw [List.getElem?_eq_getElem hlt] at h47
              simp only [Option.some.injEq] at h47
              simp [h47]
             rw [fr_init (by simp [fd31])]
             simp [fd31,b31,nC_seq,nC_region,nC_cond,nC_block,nC_loop,nC_ret,nC_exit,nC_skip,isKill,nextFirst,killOf,nReg_next,hneg,hcs,hc47,shapeOf,rangeM,hmap,eqNil]
             obtain ⟨H0,hH0⟩:∃ H0,H0=H++[ABlk.iter (some mi) ck [] ck]:=⟨_,rfl⟩
             have lmi:mi < H.length:=lt_of hmap
             rw [← hH0]
             refine nloop_go env_good [1,5,17] rfl (fun m vs H2=>∃ os v X,m + os.length=es.length∧(os.map fun e=>e.2.2).Nodup∧(∀ e ∈ os,e ∈ es)∧H2=H++X∧H2[H.length]?=some (.iter (some mi) ck (os.map fun e=>e.2.2) ck)∧Row (H.length + 1) H2 1 strC (partK part os) v∧vs=[.int .i64 part,v,.ptr (some (H.length,0))]) ?_ es.length ⟨[],.nilsl,[ABlk.iter (some mi) ck [] ck],rfl,.nil,by simp,hH0,by rw [hH0];simp,.nil,rfl⟩
             rintro J hJ m vs H2 f ⟨os,v,X,hm,hnd,hsub,hX,hit,hrow,rfl⟩
             have hmap2:H2[mi]?=some (.map es ck):=by rw [hX];exact get_app hmap
             simp [lp31_0,nC_seq,nC_region,nC_cond,nC_block,nC_loop,nC_ret,nC_exit,nC_skip,isKill,nextFirst,killOf,nReg_next]
             refine ⟨H.length,mi,ck,_,ck,es,ck,rfl,hit,hmap2,Nat.le_refl _,hfr.no,fun e he=>(hfr.1 e he).2,fun e he hns=>?_,fun hall=>?_⟩
             · obtain ⟨key,hkey⟩:∃ key,key=keyA e.1:=⟨_,rfl⟩
               have hstr:e.1=.str key:=by rw [hkey];exact str_keyA (hfr.1 e he).1
               obtain ⟨H3,hH3⟩:∃ H3,H3=H2.set H.length (.iter (some mi) ck ((os.map fun e=>e.2.2)++[e.2.2]) ck):=⟨_,rfl⟩
               have hlen:H.length < H2.length:=lt_of hit
               have it3:H3[H.length]?=some (.iter (some mi) ck ((os.map fun e=>e.2.2)++[e.2.2]) ck):=by rw [hH3,List.getElem?_set_self hlen]
               have map3:H3[mi]?=some (.map es ck):=by rw [hH3];exact get_set hmap2 (by omega)
               have ent3:entryM H3 H.length=some (.tup [.str key,e.2.1],H3):=by
                unfold entryM
                simp only [it3,List.getLast?_concat,map3,if_true]
                rw [find_stamp hfr.2.1 he]
                simp only [Option.map_some,hstr]
               have low3:∀ b:Nat,b < H.length→H3[b]?=H[b]?:=fun b hb=>by rw [hH3,List.getElem?_set_ne (by omega),hX,List.getElem?_append_left hb]
               have row3:Row (H.length + 1) H3 1 strC (partK part os) v:=by rw [hH3];exact hrow.set (hrow.off (by omega))
               have hnd':((os++[e]).map fun e=>e.2.2).Nodup:=by
                rw [List.map_append]
                refine List.nodup_append.2 ⟨hnd,by simp,fun a ha b hb q=>hns ?_⟩
                simp only [List.map_cons,List.map_nil,List.mem_singleton] at hb
                rw [← hb,← q];exact ha
               have hsub':∀ x ∈ os++[e],x ∈ es:=fun x hx=>by
                rcases List.mem_append.1 hx with q | q
                · exact hsub x q
                · rw [List.mem_singleton.1 q];exact he
               have hlt:os.length < es.length:=by
                have:=perm_len hnd' hfr.2.1 hsub'
                simp at this
                omega
               have few:=hfr.2.2
               have hpl:=partK_len (part:=part) (es:=os)
               by_cases hsp:spotF key=part
               · have hsb:(spotF key == part)=true:=beq_iff_eq.2 hsp
                 have hpk:partK part (os++[e])=partK part os++[key]:=by
                  simp [partK,← hkey,hsp]
                 obtain ⟨H4,hH4⟩:∃ H4,H4=H3++[ABlk.cells true [.str key]]:=⟨_,rfl⟩
                 have row4:Row (H.length + 1) H4 1 strC (partK part os) v:=by rw [hH4];exact row3.app
                 have hel:elems H4 1 (.sl H3.length 0 1 1)=some (1,[key].flatMap strC):=by
                  rw [hH4]
                  simp [elems,Heap.cells?,cut,strC]
                 obtain ⟨v',H5,g1,g2,g3,g4⟩:=row4.append (bytes:=16) (m:=1) strC_len (by omega) (fun x=>rfl) hel rfl (by simp) (by simp only [most];omega) (by simp only [most];omega)
                 have low5:∀ b:Nat,b < H.length→H5[b]?=H[b]?:=fun b hb=>by
                  have e3:H4[b]?=H[b]?:=by rw [hH4,List.getElem?_append_left (by rw [hH3];simp;omega),low3 b hb]
                  obtain ⟨z,hz⟩:∃ z,H[b]?=some z:=⟨_,List.getElem?_eq_getElem hb⟩
                  rw [hz] at e3 ⊢
                  refine g4 b z e3 fun o n s q=>?_
                  have:=hrow.off (b:=b) (by omega)
                  exact this o n s q
                 have it5:H5[H.length]?=some (.iter (some mi) ck ((os.map fun e=>e.2.2)++[e.2.2]) ck):=by
                  refine g4 _ _ (by rw [hH4];exact get_app it3) fun o n s q=>?_
                  exact hrow.off (b:=H.length) (by omega) o n s q
                 have l5:H.length≤H5.length:=Nat.le_trans (by rw [hH4,hH3];simp;omega) g3
                 have row5:=g2 (by rw [hH4,hH3];simp;omega)
                 rw [← hpk] at row5
                 have g1':=app_lim g1 (show H.length≤H.length + 1 by omega)
                 simp [← hH3,ent3,hsp,hsb,← hH4,g1']
                 exact nxt hJ (m - 1) (by omega) ⟨os++[e],v',_,by simp;omega,hnd',hsub',heap_cut l5 low5,by rw [List.map_append];exact it5,row5,rfl⟩
               · have hsb:(spotF key == part)=false:=by simpa using hsp
                 have hpk:partK part (os++[e])=partK part os:=by
                  simp [partK,← hkey,hsp]
                 have row4:=row3
                 rw [← hpk] at row4
                 have l3:H.length≤H3.length:=by rw [hH3];simp;omega
                 simp [← hH3,ent3,hsp,hsb]
                 exact nxt hJ (m - 1) (by omega) ⟨os++[e],v,_,by simp;omega,hnd',hsub',heap_cut l3 low3,by rw [List.map_append];exact it3,row4,rfl⟩
             · have hperm:=perm_seen hnd hfr.2.1 hsub hall
               have hso:sortS (partK part os)=sortS (partK part es):=part_perm hperm
               have hpl:=partK_len (part:=part) (es:=os)
               have hol:=perm_len hnd hfr.2.1 hsub
               have few:=hfr.2.2
               obtain ⟨H5,g1,g2,g3,g4⟩:=sort_row hrow (by omega) (show H.length≤H.length + 1 by omega)
               have k81:∀ K,WCl envE 81 [v] H.length H2 K=K (.tup []) H5:=fun K=>WCl_eq (cl_prim e81 g1)
               have rowD:Row (H.length + 1) (die H.length H5) 1 strC (sortS (partK part es)) v:=by
                rw [← hso]
                rcases g2 with q | ⟨ne,b,q1,q2,q3⟩
                · exact .inl q
                · exact .inr ⟨ne,b,q1,q2,by rw [die_get (by omega)];exact q3⟩
               obtain ⟨u,o1,o2,_⟩:=rowD.own (d:=10) strC_len (by omega) str_plain'
               simp [k81]
               exact ⟨u,o1,o2⟩
           · cases hg
         · cases hg
       · cases hg
     · cases hg
 · cases hg
end B
end Go.Proofs.YtgbnbgkldeifkaaGreatA

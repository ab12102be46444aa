/- A part's entries of a map let go, whatever order it is ranged over. No statement about the program is proved here. -/
import Derived.Test.YtgbnbgkldeifkaaGreatKK
namespace Go.Proofs.YtgbnbgkldeifkaaGreatA
open Go
set_option linter.unusedSimpArgs false
set_option linter.unusedVariables false
set_option maxRecDepth 1000000
def isBagV:AV→Bool
 | .agg cs=>decide (cs.length=9) && cs.all AV.one
 | _=>false
def FreshD (es:List (AV × AV × Nat)) (ck:Nat):Prop:=Fresh es ck∧(es.map fun e=>keyA e.1).Nodup∧∀ e ∈ es,isBagV e.2.1=true
instance {es:List (AV × AV × Nat)} {ck:Nat}:Decidable (FreshD es ck):=inferInstanceAs (Decidable (_∧_))
def restE (part:Int) (es:List (AV × AV × Nat)):List (AV × AV × Nat):=es.filter fun e=>!decide (spotF (keyA e.1)=part)
def delG (xs:List AV) (lim:Nat) (H:Heap):Option (AV × Heap) :=
 match xs with
 | [.mapv (some mi),.fn (.func 112) [] [.ptr (some (d,0))]] =>
  match Heap.cells? H d with
  | some dc =>
   match (dc[55]?:Option AV) with
   | some (.int .i64 part) =>
    match H[mi]? with
    | some (.map es ck)=>if lim≤mi∧FreshD es ck then some (.tup [],H.set mi (.map (restE part es) ck)++List.replicate (1 + 2 * es.length) .dead) else none
    | _=>none
   | _=>none
  | _=>none
 | _=>none
def midE (part:Int) (os es:List (AV × AV × Nat)):List (AV × AV × Nat):=es.filter fun e=>!(decide (keyA e.1 ∈ os.map fun e=>keyA e.1) && decide (spotF (keyA e.1)=part))
theorem mid_nil {part:Int} {es:List (AV × AV × Nat)}:midE part [] es=es:=by
 unfold midE
 refine List.filter_eq_self.2 fun e _=>by simp
theorem find_key {ke:List UInt8}:∀ {l:List (AV × AV × Nat)} (i:Nat),(∀ e ∈ l,isStr e.1=true)→(l.map fun e=>keyA e.1).Nodup→ke ∈ (l.map fun e=>keyA e.1)→∃ j v,findKey .s (.str ke) l i=some (some (i + j,v))∧l.eraseIdx j=l.filter fun x=>!decide (keyA x.1=ke)
 | [],i,_,_,h=>by simp at h
 | e :: l,i,hs,hn,h=>by
  rw [List.map_cons,List.nodup_cons] at hn
  have hk:=str_keyA (hs e (.head _))
  by_cases q:keyA e.1=ke
  · refine ⟨0,e.2.1,?_,?_⟩
    · obtain ⟨k,v,n⟩:=e
      simp only at hk q ⊢
      rw [hk,q]
      simp [findKey,eqCell]
    · rw [List.eraseIdx_zero,List.tail_cons,List.filter_cons_of_neg (by simp [q])]
      refine (List.filter_eq_self.2 fun x hx=>?_).symm
      have:¬ keyA x.1=ke:=fun p=>hn.1 (List.mem_map.2 ⟨x,hx,by rw [p,q]⟩)
      simp [this]
  · have hm:ke ∈ l.map fun e=>keyA e.1:=by
     rcases List.mem_cons.1 h with p | p
     · exact absurd p.symm q
     · exact p
    obtain ⟨j,v,h1,h2⟩:=find_key (l:=l) (i + 1) (fun x hx=>hs x (.tail _ hx)) hn.2 hm
    refine ⟨j + 1,v,?_,?_⟩
    · obtain ⟨k,v',n⟩:=e
      simp only at hk q
      have q':(ke == keyA k)=false:=by simpa using fun p=>q p.symm
      rw [hk]
      simp only [findKey,eqCell,q',Option.bind_some,Bool.false_eq_true,if_false,h1]
      congr 3
      omega
    · rw [List.eraseIdx_cons_succ,List.filter_cons_of_pos (by simp [q]),h2]
theorem mid_del {part:Int} {os es:List (AV × AV × Nat)} {e:AV × AV × Nat} (h:spotF (keyA e.1)=part):midE part (os++[e]) es=(midE part os es).filter fun x=>!decide (keyA x.1=keyA e.1):=by
 unfold midE
 rw [List.filter_filter]
 refine List.filter_congr fun x _=>?_
 by_cases q:keyA x.1=keyA e.1
 · simp [q,h]
 · simp only [List.map_append,List.map_cons,List.map_nil,List.mem_append,List.mem_singleton,q,or_false]
   simp
theorem mid_same {part:Int} {os es:List (AV × AV × Nat)} {e:AV × AV × Nat} (h:¬ spotF (keyA e.1)=part):midE part (os++[e]) es=midE part os es:=by
 unfold midE
 refine List.filter_congr fun x _=>?_
 by_cases q:keyA x.1=keyA e.1
 · have h':¬ spotF (keyA x.1)=part:=by rw [q];exact h
   simp [h']
 · simp only [List.map_append,List.map_cons,List.map_nil,List.mem_append,List.mem_singleton,q,or_false]
theorem key_uniq {a b:AV × AV × Nat} {l:List (AV × AV × Nat)} (h:(l.map fun e=>keyA e.1).Nodup) (ha:a ∈ l) (hb:b ∈ l) (e:keyA a.1=keyA b.1):a=b:=by
 induction l with
 | nil=>cases ha
 | cons x l ih =>
  rw [List.map_cons,List.nodup_cons] at h
  rcases List.mem_cons.1 ha with q | q <;> rcases List.mem_cons.1 hb with p | p
  · rw [q,p]
  · exact absurd (List.mem_map.2 ⟨b,p,by rw [← e,q]⟩) h.1
  · exact absurd (List.mem_map.2 ⟨a,q,by rw [e,p]⟩) h.1
  · exact ih h.2 q p
attribute [local simp] nC_seq nC_region nC_cond nC_block nC_loop nC_ret nC_exit nC_skip isKill nextFirst killOf nReg_next
namespace B
theorem c112 {H:Heap} {d:Nat} {dc cs:List AV} {key:List UInt8} {part:Int} (hd:H.cells? d=some dc) (h55:dc[55]?=some (I part)) (hl:cs.length=9) (ho:cs.all AV.one=true) (lim:Nat) (hlim:lim≤H.length) :
 Cl envE 112 [.str key,.agg cs,.ptr (some (d,0))] lim H (.bool (spotF key == part)) (H++[.cells false cs]):=by
 have hc55:cut dc 55 1=some [I part]:=by
  have hlt:55 < dc.length:=(List.getElem?_eq_some_iff.1 h55).1
  rw [cut_at (by omega),List.drop_eq_getElem_cons hlt]
  rw [List.getElem?_eq_getElem hlt] at h55
  simp only [Option.some.injEq] at h55
  simp [h55]
 have hall:(∀ v:AV,v ∈ cs→v.one=true)=True:=eq_true (List.all_eq_true.1 ho)
 refine cl_is e112 rfl ?_
 rw [fr_init (by simp [fd112])]
 have h2:lim≤H.length + 1:=by omega
 have hd1:=cells_app (X:=[ABlk.cells false cs]) hd
 simp [fd112,b112,hall,hlim,h2,hd1,hc55,shapeOf]
theorem del_ok:FnGood Tryz.prog 111 (.prim delG):=by
 refine prim_dies (E:=envE) ok111 fun xs lim H r H' hg=>?_
 unfold delG at hg
 split at hg
 case h_2=>cases hg
 rename_i mi d
 split at hg
 case h_2=>cases hg
 rename_i dc hdc
 split at hg
 case h_2=>cases hg
 rename_i part h55
 split at hg
 case h_2=>cases hg
 rename_i es ck hmap
 split at hg
 case isFalse=>cases hg
 rename_i hc
 obtain ⟨hlim,hfr,huk,hbag⟩:=hc
 cases hg
 refine nC_ok env_good ?_
 have lmi:mi < H.length:=lt_of hmap
 have few:=hfr.2.2
 rw [fr_init (by simp [fd111])]
 simp [fd111,b111,rangeM,hmap]
 obtain ⟨H0,hH0⟩:∃ H0,H0=H++[ABlk.iter (some mi) ck [] ck]:=⟨_,rfl⟩
 rw [← hH0]
 refine nloop_go env_good [0,1,7] rfl (fun m vs H2=>∃ os,m + os.length=es.length∧(os.map fun e=>e.2.2).Nodup∧(∀ e ∈ os,e ∈ es)∧H2.length=H.length + (1 + 2 * os.length)∧H2[H.length]?=some (.iter (some mi) ck (os.map fun e=>e.2.2) ck)∧H2[mi]?=some (.map (midE part os es) ck)∧(∀ b:Nat,b < H.length→b ≠ mi→H2[b]?=H[b]?)∧vs=[.mapv (some mi),.fn (.func 112) [] [.ptr (some (d,0))],.ptr (some (H.length,0))]) ?_ es.length ⟨[],rfl,.nil,by simp,by rw [hH0];simp,by rw [hH0];simp,by rw [mid_nil,hH0];exact get_app hmap,fun b hb _=>by rw [hH0,List.getElem?_append_left hb],rfl⟩
 rintro J hJ m vs H2 f ⟨os,hm,hnd,hsub,hlen,hit,hmp,hlow,rfl⟩
 have hmsub:∀ x ∈ midE part os es,x ∈ es:=fun x hx=>(List.mem_filter.1 hx).1
 have sub2:(midE part os es).Sublist es:=List.filter_sublist
 have hfm:Fresh (midE part os es) ck:=⟨fun x hx=>hfr.1 x (hmsub x hx),(sub2.map _).nodup hfr.2.1,Nat.lt_of_le_of_lt sub2.length_le few⟩
 have hum:((midE part os es).map fun e=>keyA e.1).Nodup:=(sub2.map _).nodup huk
 simp [lp111_0]
 refine ⟨H.length,mi,ck,_,ck,midE part os es,ck,rfl,hit,hmp,by omega,hfm.no,fun e he=>(hfm.1 e he).2,fun e he hns=>?_,fun hall=>?_⟩
 · have hees:=hmsub e he
   obtain ⟨key,hkey⟩:∃ key,key=keyA e.1:=⟨_,rfl⟩
   have hstr:e.1=.str key:=by rw [hkey];exact str_keyA (hfr.1 e hees).1
   obtain ⟨cs,hcs⟩:∃ cs,e.2.1=.agg cs:=by
    have:=hbag e hees
    cases q:e.2.1 <;> rw [q] at this <;> simp [isBagV] at this
    exact ⟨_,rfl⟩
   have hcb:=hbag e hees
   rw [hcs] at hcb
   simp only [isBagV,Bool.and_eq_true,decide_eq_true_eq] at hcb
   obtain ⟨cl,co⟩:=hcb
   have hall:(∀ v:AV,v ∈ cs→v.one=true)=True:=eq_true (List.all_eq_true.1 co)
   obtain ⟨H3,hH3⟩:∃ H3,H3=H2.set H.length (.iter (some mi) ck ((os.map fun e=>e.2.2)++[e.2.2]) ck):=⟨_,rfl⟩
   have it3:H3[H.length]?=some (.iter (some mi) ck ((os.map fun e=>e.2.2)++[e.2.2]) ck):=by rw [hH3,List.getElem?_set_self (by omega)]
   have map3:H3[mi]?=some (.map (midE part os es) ck):=by rw [hH3];exact get_set hmp (by omega)
   have ent3:entryM H3 H.length=some (.tup [.str key,.agg cs],H3):=by
    unfold entryM
    simp only [it3,List.getLast?_concat,map3,if_true]
    rw [find_stamp hfm.2.1 he]
    simp only [Option.map_some,hstr,hcs]
   have l3:H3.length=H2.length:=by rw [hH3];simp
   have low3:∀ b:Nat,b < H.length→b ≠ mi→H3[b]?=H[b]?:=fun b hb hne=>by rw [hH3,List.getElem?_set_ne (by omega),hlow b hb hne]
   have hnd':((os++[e]).map fun e=>e.2.2).Nodup:=by
    rw [List.map_append]
    refine List.nodup_append.2 ⟨hnd,by simp,fun a ha b hb q=>hns ?_⟩
    simp only [List.map_cons,List.map_nil,List.mem_singleton] at hb
    rw [← hb,← q];exact ha
   have hsub':∀ x ∈ os++[e],x ∈ es:=fun x hx=>by
    rcases List.mem_append.1 hx with q | q
    · exact hsub x q
    · rw [List.mem_singleton.1 q];exact hees
   have hlt:os.length < es.length:=by
    have:=perm_len hnd' hfr.2.1 hsub'
    simp at this
    omega
   obtain ⟨H4,hH4⟩:∃ H4,H4=H3++[ABlk.cells false cs]:=⟨_,rfl⟩
   have l4:H4.length=H3.length + 1:=by rw [hH4];simp
   have c4:H4[H3.length]?=some (.cells false cs):=by rw [hH4];exact get_new
   have hdm:d ≠ mi:=fun q=>by
    subst q
    unfold Heap.cells? at hdc
    rw [hmap] at hdc
    cases hdc
   have ld:d < H.length:=by
    unfold Heap.cells? at hdc
    split at hdc
    · rename_i q;exact lt_of q
    · cases hdc
   have hd4:Heap.cells? H4 d=some dc:=by
    rw [← hdc]
    unfold Heap.cells?
    rw [hH4,List.getElem?_append_left (by omega),low3 d ld hdm]
   have hover:∀ l:List AV,l.length=9→setFrom l 0 cs=cs:=fun l hl=>setFrom_all _ _ (by rw [hl,cl])
   have hcut:cut cs 0 9=some cs:=cut_all cl
   have hl4:lim≤H4.length:=by omega
   have call:=fun K=>WCl_eq (K:=K) (c112 (key:=key) hd4 h55 cl co lim hl4)
   obtain ⟨H5,hH5⟩:∃ H5,H5=H4++[ABlk.cells false cs]:=⟨_,rfl⟩
   have l5:H5.length=H4.length + 1:=by rw [hH5];simp
   have it5:H5[H.length]?=some (.iter (some mi) ck ((os.map fun e=>e.2.2)++[e.2.2]) ck):=by rw [hH5,hH4];exact get_app (get_app it3)
   have map5:H5[mi]?=some (.map (midE part os es) ck):=by rw [hH5,hH4];exact get_app (get_app map3)
   have low5:∀ b:Nat,b < H.length→b ≠ mi→H5[b]?=H[b]?:=fun b hb hne=>by rw [hH5,List.getElem?_append_left (by omega),hH4,List.getElem?_append_left (by omega),low3 b hb hne]
   have hst:storeAt lim (H3++[ABlk.cells false [I 0,I 0,I 0,I 0,I 0,I 0,I 0,I 0,.nilsl]]) 9 (.ptr (some (H3.length,0))) (.agg cs)=some H4:=by
    have:=store_of (lim:=lim) (n:=9) (o:=0) (v:=.agg cs) (H:=H3++[ABlk.cells false [I 0,I 0,I 0,I 0,I 0,I 0,I 0,I 0,.nilsl]]) get_new (by omega) (by simpa [AV.cells] using cl) (by simp) (by simpa [AV.cells] using co)
    rw [this,hH4]
    simp only [AV.cells]
    rw [hover _ rfl]
    simp
   simp only [I] at hst
   by_cases hsp:spotF key=part
   · have hsb:(spotF key == part)=true:=beq_iff_eq.2 hsp
     have hke:keyA e.1 ∈ (midE part os es).map fun e=>keyA e.1:=List.mem_map.2 ⟨e,he,rfl⟩
     obtain ⟨j,v,f1,f2⟩:=find_key 0 (fun x hx=>(hfm.1 x hx).1) hum hke
     rw [← hkey] at f1 f2
     rw [Nat.zero_add] at f1
     have hmd:(midE part os es).eraseIdx j=midE part (os++[e]) es:=by
      rw [f2,mid_del (by rw [← hkey];exact hsp),← hkey]
     have lim4:lim≤mi:=hlim
     obtain ⟨H6,hH6⟩:∃ H6,H6=H5.set mi (.map (midE part (os++[e]) es) ck):=⟨_,rfl⟩
     simp [← hH3,ent3,hst,cells_of c4,hcut,shapeOf,call,← hH5,hsp,hsb,map5,isKey,f1,hlim,hmd,← hH6]
     refine nxt hJ (m - 1) (by omega) ⟨os++[e],by simp;omega,hnd',hsub',?_,?_,?_,fun b hb hne=>?_,rfl⟩
     · rw [hH6,List.length_set,l5,l4,l3,hlen];simp;omega
     · rw [hH6,List.getElem?_set_ne (by omega),List.map_append];exact it5
     · rw [hH6,List.getElem?_set_self (by omega)]
     · rw [hH6,List.getElem?_set_ne (Ne.symm hne)];exact low5 b hb hne
   · have hsb:(spotF key == part)=false:=by simpa using hsp
     simp [← hH3,ent3,hst,cells_of c4,hcut,shapeOf,call,← hH5,hsp,hsb]
     refine nxt hJ (m - 1) (by omega) ⟨os++[e],by simp;omega,hnd',hsub',?_,?_,?_,low5,rfl⟩
     · rw [l5,l4,l3,hlen];simp;omega
     · rw [List.map_append];exact it5
     · rw [mid_same (by rw [← hkey];exact hsp)];exact map5
 · have hall2:∀ e ∈ es,e.2.2 ∈ os.map fun e=>e.2.2:=fun e he=>by
    by_cases q:keyA e.1 ∈ os.map fun e=>keyA e.1
    · obtain ⟨x,hx,q2⟩:=List.mem_map.1 q
      have:x=e:=key_uniq huk (hsub x hx) he q2
      exact List.mem_map.2 ⟨x,hx,by rw [this]⟩
    · exact hall e (List.mem_filter.2 ⟨he,by simp [q]⟩)
   have hperm:=perm_seen hnd hfr.2.1 hsub hall2
   have hosl:=hperm.length_eq
   have hmr:midE part os es=restE part es:=by
    unfold midE restE
    refine List.filter_congr fun x hx=>?_
    have:keyA x.1 ∈ os.map fun e=>keyA e.1:=List.mem_map.2 ⟨x,hperm.mem_iff.2 hx,rfl⟩
    simp [this]
   rw [hmr] at hmp
   simp
   refine ⟨by simp [hlen,hosl],fun b hb=>?_,fun b hb=>?_⟩
   · rcases Nat.lt_or_ge b H.length with q | q
     · refine .inl ?_
       rw [List.getElem?_append_left (by simpa using q)]
       by_cases e:b=mi
       · subst e
         rw [List.getElem?_set_self q,hmp]
       · rw [List.getElem?_set_ne (Ne.symm e),hlow b q e]
     · refine .inr ?_
       rw [List.getElem?_append_right (by simpa using q),List.length_set]
       exact List.getElem?_replicate_of_lt (by omega)
   · rw [List.getElem?_append_left (by simp;omega),List.getElem?_set_ne (by omega),hlow b (by omega) (by omega)]
end B
end Go.Proofs.YtgbnbgkldeifkaaGreatA

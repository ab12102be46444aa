/- Sorting a row of texts. No statement about the program is proved here. -/
import Derived.Test.YtgbnbgkldeifkaaGreatA41
import Derived.Test.YtgbnbgkldeifkaaGreatSH
namespace Go.Proofs.YtgbnbgkldeifkaaGreatA
open Go Go.RowKit
set_option linter.unusedVariables false
def strsOf:List AV→Option (List (List UInt8))
 | []=>some []
 | .str s :: r=>(strsOf r).map (s :: ·)
 | _=>none
def sortS (ss:List (List UInt8)):List (List UInt8):=ss.mergeSort fun x y=>decide (x≤y)
def sortG (xs:List AV) (lim:Nat) (H:Heap):Option (AV × Heap) :=
 match xs with
 | [.nilsl]=>some (.tup [],H)
 | [.sl b 0 n 1] =>
  if lim≤b∧0 < n∧n < 4611686018427387904 then
   match H[b]? with
   | some (.cells true cs)=>(strsOf cs).bind fun ss=>if cs.length=n then some (.tup [],H.set b (.cells true ((sortS ss).map .str))) else none
   | _=>none
  else none
 | _=>none
theorem strs_map:∀ {cs:List AV} {ss:List (List UInt8)},strsOf cs=some ss→cs=ss.map .str
 | [],ss,h=>by simp only [strsOf,Option.some.injEq] at h;subst h;rfl
 | c :: cs,ss,h=>by
  cases c <;> simp only [strsOf,reduceCtorEq] at h
  simp only [Option.map_eq_some_iff] at h
  obtain ⟨r,h1,rfl⟩:=h
  rw [strs_map h1]
  rfl
theorem strsOf_map:∀ {ss:List (List UInt8)},strsOf (ss.map .str)=some ss
 | []=>rfl
 | s :: ss=>by simp [strsOf,strsOf_map (ss:=ss)]
section
variable {w0:World} {ro:Nat→Prop} {P:Program} {μ:Mu} {H:Heap} {w:World} {lim:Nat}
theorem str_is {s:List UInt8} {v:Value} (h:VR w0 ro μ (.str s) v):v=encStr s:=by
 obtain ⟨t,rfl,rfl⟩:=h.str_inv
 rfl
theorem enc_VR {s:List UInt8}:VR w0 ro μ (.str s) (encStr s):=.str rfl
theorem Post.grows {μ':Mu} {H':Heap} {w1 w2:World} (h:Post w0 ro lim μ H w μ' H' w1) (hs:w1.heap.size≤w2.heap.size) (hk:∀ c,c < w1.heap.size→w2.heap[c]?=w1.heap[c]?) (h1:w2.os=w1.os) (h2:w2.tape=w1.tape) (h3:w2.output=w1.output):Post w0 ro lim μ H w μ' H' w2 where
 app:=h.app
 hr:=h.hr.later hs hk
 os:=h1.trans h.os
 tape:=h2.trans h.tape
 output:=h3.trans h.output
 size:=Nat.le_trans h.size hs
 frame:=fun c hc ho=>(hk c (Nat.lt_of_lt_of_le hc h.size)).trans (h.frame c hc ho)
 sub:=h.sub
 low:=h.low
 more:=h.more
theorem sort_prim {f:Nat} {fn:Func} (hent:Entered P f fn)
 (c1:∀ (blk off cap:Nat) (ss:List (List UInt8)) (w:World),Go.Sort.Holds encStr w blk off ss.toArray→blk < w.heap.size→ss.length < 4611686018427387904→Calls P f #[.slice (some ⟨blk,off,none⟩) ss.length cap] w fun e w'=>e=.returned (.tuple #[])∧∃ n os,w'=Go.Sort.grow (Go.Sort.putRow encStr (Go.Sort.ahead w n) blk off (ss.mergeSort fun x y=>decide (x≤y)).toArray) os)
 (c0:∀ (p:Option Addr) (cap:Nat) (w:World),Calls P f #[.slice p 0 cap] w fun e w'=>e=.returned (.tuple #[])∧w'=w):FnGood P f (.prim sortG):=by
 refine ⟨⟨fn,hent⟩,?_⟩
 intro w0 ro μ H w lim xs vs r H' hr hv h
 have tup0:∀ μ,VR w0 ro μ (.tup []) (.tuple #[]):=fun μ=>VR.tup (vs:=[]) .nil
 unfold sortG at h
 split at h
 · obtain ⟨l⟩:=vs
   cases hv with
   | cons hs tl =>
    cases tl
    cases hs
    cases h
    refine (c0 _ _ w).mono ?_
    rintro e w' ⟨rfl,rfl⟩
    exact ⟨_,μ,rfl,Post.refl hr,tup0 μ⟩
 · rename_i b n
   split at h
   · rename_i hc
     obtain ⟨q1,q2,q3⟩:=hc
     split at h
     · rename_i cs hb
       simp only [Option.bind_eq_some_iff] at h
       obtain ⟨ss,h1,h2⟩:=h
       split at h2
       · rename_i hlen
         cases h2
         have hcs:=strs_map h1
         have hsl:ss.length=n:=by rw [← hlen,hcs,List.length_map]
         obtain ⟨l⟩:=vs
         cases hv with
         | cons hs tl =>
          cases tl
          cases hs with
          | sl0=>omega
          | @sl _ _ _ _ loc cap hm hn hcap =>
           have hbr:=hr.blk b loc hm
           rw [hb] at hbr
           obtain ⟨hnro,arr,t,g1,g2,g3,g4⟩:=hbr
           have hlt:loc.c < w.heap.size:=(Array.getElem?_eq_some_iff.1 g1).1
           have cell:∀ j (hj:j < ss.length),arr[loc.k + j]?=some (encStr ss[j]):=fun j hj=>by
            have e:cs[j]?=some (.str ss[j]):=by rw [hcs];simp [hj]
            obtain ⟨_,v',e1,e2⟩:=g4 j _ e
            rw [e1,str_is e2]
           have hH:Go.Sort.Holds encStr w loc.c (loc.k + 0) ss.toArray:=fun j hj=>by
            have hj':j < ss.length:=by simpa using hj
            constructor
            · unfold World.cell?
              simp only [g1,Nat.add_zero]
              rw [cell j hj',getElem!_pos _ j hj]
              simp
            · unfold World.frozen?
              simp [g1]
           have hcall:=c1 loc.c (loc.k + 0) cap ss w hH hlt (by omega)
           rw [hsl] at hcall
           refine hcall.mono ?_
           rintro e w' ⟨rfl,m,os,rfl⟩
           obtain ⟨W,hW⟩:∃ W,W=Go.Sort.putRow encStr (Go.Sort.ahead w m) loc.c (loc.k + 0) (ss.mergeSort fun x y=>decide (x≤y)).toArray:=⟨_,rfl⟩
           rw [← hW]
           have hlen2:(sortS ss).length=n:=by unfold sortS;rw [List.length_mergeSort,hsl]
           have hheap:W.heap=w.heap.modify loc.c (Go.Sort.onCells (Go.Sort.putCells encStr (loc.k + 0) (sortS ss).toArray)):=by rw [hW];rfl
           have hsz:W.heap.size=w.heap.size:=by rw [hheap];simp
           have hother:∀ c,c ≠ loc.c→W.heap[c]?=w.heap[c]?:=fun c hc=>by
            rw [hheap,Array.getElem?_modify,if_neg (Ne.symm hc)]
           have hself:W.heap[loc.c]?=some (.cells (Go.Sort.putCells encStr (loc.k + 0) (sortS ss).toArray arr) t (0,0)):=by
            rw [hheap,Array.getElem?_modify,if_pos rfl,g1]
            rfl
           have hnew:BR w0 ro μ loc W (some (.cells true ((sortS ss).map .str))):=by
            refine ⟨hnro,_,t,hself,?_,?_,fun j v hj=>?_⟩
            · simp [Go.Sort.putCells,g2]
            · have:loc.k + n≤arr.size:=by omega
              simp [Go.Sort.putCells,hlen2]
              omega
            · rw [List.getElem?_map,Option.map_eq_some_iff] at hj
              obtain ⟨s,e1,rfl⟩:=hj
              have hjl:j < (sortS ss).length:=(List.getElem?_eq_some_iff.1 e1).1
              have hja:loc.k + j < arr.size:=by omega
              refine ⟨rfl,encStr s,?_,enc_VR⟩
              simp only [Go.Sort.putCells,Array.getElem?_mapIdx]
              rw [Array.getElem?_eq_getElem hja,Option.map_some]
              rw [if_pos (by simp only [List.size_toArray];omega)]
              have e2:loc.k + j - (loc.k + 0)=j:=by omega
              rw [e2,getElem!_pos _ j (by simpa using hjl)]
              rw [List.getElem?_eq_getElem hjl] at e1
              simp only [Option.some.injEq] at e1
              simp [e1]
           have hp:Post w0 ro lim μ H w μ (H.set b (.cells true ((sortS ss).map .str))) W :=
            Post.turn hr q1 hm (.inl ⟨_,_,hb⟩) hsz hother (by rw [hW];rfl) (by rw [hW];rfl) (by rw [hW];rfl) hnew
           refine ⟨_,μ,rfl,hp.grows (w2:=Go.Sort.grow W os) (by simp [Go.Sort.grow]) (fun c hc=>?_) rfl rfl rfl,tup0 μ⟩
           simp [Go.Sort.grow,Array.getElem?_append_left hc]
       · cases h2
     · cases h
   · cases h
 · cases h
end
theorem ok81s:FnGood Tryz.prog 81 (.prim sortG) :=
 sort_prim (fn:=Tryz.f81) ⟨Tryz.func81,by kernel_rfl,by kernel_rfl⟩ (fun blk off cap ss w h1 h2 h3=>Any.slices_Sort_string Tryz.lays190 blk off cap ss w h1 h2 h3) (fun p cap w=>Any.slices_Sort_string_none Tryz.lays190 p cap w)
end Go.Proofs.YtgbnbgkldeifkaaGreatA

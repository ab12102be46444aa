/- slices.Sorted(slices.Values(..)) as the small machine does it. No statement about the program is proved here. -/
import Derived.Test.YtgbnbgkldeifkaaGreatKK
import Derived.Test.YtgbnbgkldeifkaaGreatDS
namespace Go.Proofs.YtgbnbgkldeifkaaGreatA
open Go Go.RowKit
set_option linter.unusedVariables false
set_option linter.unusedSimpArgs false
def textsA (H:Heap):AV→Option (List (List UInt8))
 | .nilsl=>some []
 | .sl b o n 1=>if n=0 then some [] else (elems H 1 (.sl b o n 1)).bind fun p=>(strsOf p.2).bind fun ss=>if ss.length=n then some ss else none
 | _=>none
def sortedG (xs:List AV) (lim:Nat) (H:Heap):Option (AV × Heap) :=
 match xs with
 | [.fn (.func 135) [] [.ptr (some (b,o))]] =>
  match Heap.cells? H b with
  | some cs=>match (cs[o]?:Option AV) with
   | some sv=>(textsA H sv).bind fun ss=>if ss.length < 1000000000 then some (thaw (owL 1 strC (sortS ss)) H) else none
   | none=>none
  | none=>none
 | _=>none
section
variable {w0:World} {ro:Nat→Prop} {μ:Mu} {H:Heap} {w:World} {lim:Nat}
theorem cells_get {b:Nat} {cs:List AV} (h:Heap.cells? H b=some cs):∃ g,H[b]?=some (.cells g cs):=by
 unfold Heap.cells? at h
 split at h
 · rename_i g c e
   cases h
   exact ⟨_,e⟩
 · cases h
theorem texts_of {sv:AV} {v:Value} {ss:List (List UInt8)} (hr:HR w0 ro μ H w) (hv:VR w0 ro μ sv v) (h:textsA H sv=some ss):YtgbnbgkldeifkaaGreatD.Texts w.heap.size w v ss:=by
 unfold textsA at h
 split at h
 · cases h
   cases hv
   exact .inl ⟨⟨_,_,rfl⟩,rfl⟩
 · rename_i b o n
   split at h
   · rename_i e
     cases h
     subst e
     cases hv with
     | sl _ _ _=>exact .inl ⟨⟨_,_,rfl⟩,rfl⟩
     | sl0 a=>exact .inl ⟨⟨_,_,rfl⟩,rfl⟩
   · rename_i hn
     simp only [Option.bind_eq_some_iff] at h
     obtain ⟨⟨m,cs⟩,h1,ss',h2,h3⟩:=h
     split at h3
     · rename_i hl
       cases h3
       simp only [elems,if_true,Option.bind_eq_some_iff,Option.map_eq_some_iff,Prod.mk.injEq] at h1
       obtain ⟨bs,h4,c,h5,_,rfl⟩:=h1
       have hcs:c=ss.map AV.str:=strs_map h2
       cases hv with
       | sl0=>exact absurd rfl hn
       | @sl _ _ _ _ loc cap hm hnc hcap =>
        obtain ⟨g,hb⟩:=cells_get h4
        have hbr:=hr.blk b loc hm
        rw [hb] at hbr
        obtain ⟨hnro,arr,t,g1,g2,g3,g4⟩:=hbr
        have hlt:loc.c < w.heap.size:=(Array.getElem?_eq_some_iff.1 g1).1
        refine .inr ⟨loc.c,loc.k + o,cap,by rw [hl],hlt,fun j hj=>?_⟩
        have hcut:=h5
        unfold Go.Proofs.YtgbnbgkldeifkaaGreatA.cut at hcut
        split at hcut
        · rename_i hle
          have e1:=Option.some.inj hcut
          have e2:bs[o + j]?=some (.str ss[j]):=by
           have e3:((bs.drop o).take (n * 1))[j]?=some (.str ss[j]):=by
            rw [e1,hcs]
            simp [hj]
           rw [List.getElem?_take_of_lt (by omega),List.getElem?_drop] at e3
           exact e3
          obtain ⟨_,v',e4,e5⟩:=g4 (o + j) _ e2
          have e6:=str_is e5
          unfold World.cell?
          simp only [g1]
          rw [Nat.add_assoc,e4,e6,List.getElem?_eq_getElem hj]
          rfl
        · cases hcut
     · cases h3
 · cases h
theorem sorted_ok :FnGood Tryz.prog 86 (.prim sortedG):=by
 refine ⟨⟨Tryz.f86,Tryz.func86,by kernel_rfl,by kernel_rfl⟩,?_⟩
 intro w0 ro μ H w lim xs vs r H' hr hv h
 unfold sortedG at h
 split at h
 · rename_i b o
   split at h
   · rename_i cs hcs
     split at h
     · rename_i sv hsv
       simp only [Option.bind_eq_some_iff] at h
       obtain ⟨ss,h1,h2⟩:=h
       split at h2
       · rename_i few
         obtain ⟨l⟩:=vs
         cases hv with
         | cons hs tl =>
          cases tl
          cases hs with
          | fn ha hb =>
           cases ha
           cases hb with
           | cons hp tl2 =>
            cases tl2
            cases hp with
            | @ptr _ _ loc hm =>
             obtain ⟨g,hb⟩:=cells_get hcs
             have hbr:=hr.blk b loc hm
             rw [hb] at hbr
             obtain ⟨hnro,arr,t,g1,g2,g3,g4⟩:=hbr
             have hlt:loc.c < w.heap.size:=(Array.getElem?_eq_some_iff.1 g1).1
             obtain ⟨_,v',e4,e5⟩:=g4 o sv hsv
             have hcell:w.cell? ⟨loc.c,loc.k + o,none⟩=some v':=by
              unfold World.cell?
              simp only [g1,e4]
              rfl
             have hT:=texts_of hr e5 h1
             refine (YtgbnbgkldeifkaaGreatD.sorted_in loc.c (loc.k + o) v' ss (by simp only [maxLen];omega) (by omega) (by omega) w hlt hcell hT).mono ?_
             rintro e W ⟨v,rfl,hrow,hnil,hB⟩
             have h2':=Option.some.inj h2
             by_cases hss:ss=[]
             · have hvn:=hnil hss
               subst hss
               have e:thaw (owL 1 strC (sortS [])) H=(.nilsl,H):=by simp [owL,sortS,thaw]
               rw [e] at h2'
               cases h2'
               subst hvn
               exact ⟨_,μ,rfl,(Post.refl hr).grows hB.size (fun c hc=>hB.block c hc) hB.os hB.tape hB.output,.nilsl _⟩
             · rcases hrow.2 with ⟨_,hz⟩ | ⟨gb,cap,cur,rfl,hbase,hgb,r1,r2,r3,r4⟩
               · exact absurd (List.eq_nil_of_length_eq_zero hz) hss
               · have hne:sortS ss ≠ []:=fun e=>hss (by
                  have:=congrArg List.length e
                  rw [sortS_len] at this
                  exact List.eq_nil_of_length_eq_zero this)
                 have e:thaw (owL 1 strC (sortS ss)) H=(.sl H.length 0 (sortS ss).length 1,H++[.cells true ((sortS ss).flatMap strC)]):=by
                  have hst:Still strC:=fun _ _=>by simp [strC]
                  simp [owL,hne,thaw,hst.all]
                 rw [e] at h2'
                 cases h2'
                 have hlen2:(sortS ss).length=ss.length:=sortS_len
                 refine ⟨_,μ++[some ⟨gb,0,cur.size⟩],rfl,Post.new (loc:=⟨gb,0,cur.size⟩) hr hB.size (fun c hc=>hB.block c hc) hB.os hB.tape hB.output hbase ?_,?_⟩
                 · refine ⟨fun q=>?_,cur,_,hgb,rfl,?_,fun j x hj=>?_⟩
                   · have:=(hr.old _ q).1
                     have:=hr.grow
                     simp only at *
                     omega
                   · rw [flat_str,List.length_map,hlen2]
                     simp only
                     omega
                   · rw [flat_str,List.getElem?_map,Option.map_eq_some_iff] at hj
                     obtain ⟨s,e1,rfl⟩:=hj
                     have hjl:j < ss.length:=by rw [← hlen2];exact (List.getElem?_eq_some_iff.1 e1).1
                     refine ⟨rfl,encStr s,?_,enc_VR⟩
                     have e2:(cur.toList.take (ss.length * 1))[j]?=some (encStr s):=by
                      rw [r4,List.getElem?_map]
                      show Option.map encStr (sortS ss)[j]?=_
                      rw [e1]
                      rfl
                     rw [List.getElem?_take_of_lt (by omega),Array.getElem?_toList] at e2
                     simpa using e2
                 · rw [hlen2]
                   have:=VR.sl (w0:=w0) (ro:=ro) (μ:=μ++[some ⟨gb,0,cur.size⟩]) (b:=H.length) (o:=0) (n:=ss.length) (es:=1) (loc:=⟨gb,0,cur.size⟩) (cap:=cap) (by rw [← hr.len];simp) r1 (by simp only;omega)
                   exact this
       · cases h2
     · cases h
   · cases h
 · cases h
end
end Go.Proofs.YtgbnbgkldeifkaaGreatA

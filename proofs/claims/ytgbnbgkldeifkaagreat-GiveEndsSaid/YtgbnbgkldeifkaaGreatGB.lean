/- A giver's messages as trees; what a new giver tells; rows sorted by number. No statement about the program is proved here. -/
import Derived.Test.YtgbnbgkldeifkaaGreatGAW
namespace Go.Proofs.YtgbnbgkldeifkaaGreatA
open Go
set_option linter.unusedSimpArgs false
set_option linter.unusedVariables false
set_option maxRecDepth 1000000
section
variable {H:Heap}
theorem fld_ld {b:Nat} {g:Bool} {z:List AV} {a:AV} {o:Nat} (h:H[b]?=some (.cells g z)) (hc:cut z o 1=some [a]):loadAt H none (.ptr (some (b,o)))=some a:=by
 simp only [loadAt,cells_of h,Option.bind_some,Option.getD_none,hc,shapeOf]
theorem row_ld {b:Nat} {g:Bool} {z y:List AV} {o n:Nat} (h:H[b]?=some (.cells g z)) (hc:cut z o n=some y):loadAt H (some n) (.ptr (some (b,o)))=some (.agg y):=by
 simp only [loadAt,cells_of h,Option.bind_some,Option.getD_some,hc,shapeOf]
end
def msgTZ:List AV:=[I 0,I 0,I 0,I 0,I 0,I 0,I 0,I 0,I 0,I 0,.ro 0 [],I 0,I 0,I 0,I 0,I 0,I 0,I 0,I 0,I 0,I 0,I 0,I 0,I 0,I 0,I 0,I 0,I 0,I 0,I 0,I 0,I 0,I 0,I 0,I 0,I 0,I 0,I 0,I 0,I 0,I 0,I 0,I 0,.ro 0 []]
def msgZ (g:Giv) (x:MsgP):List AV:=I x.1 :: I g.self :: I g.to :: I x.2.1 :: I 0 :: I 0 :: I g.part :: I g.epoch :: .str x.2.2.1 :: (bagV x.2.2.2.1 (roL valC x.2.2.2.2)++msgTZ)
theorem msgT_frz {H:Heap} {d:Nat}:mapO (frz H (d + 1)) msgT=some msgTZ:=by
 unfold msgT msgTZ
 simp
theorem msg_frz {H:Heap} {d lim:Nat} {g:Giv} {m:MsgM} (h:Row lim H 3 valC m.vals m.r):mapO (frz H (d + 2)) (msgOf g m)=some (msgZ g m.p):=by
 have h1:frz H (d + 2) m.r=some (roL valC m.vals):=h.frz valC_len val_flat
 have h2:mapO (frz H (d + 2)) (bagV m.known m.r)=some (bagV m.known (roL valC m.vals)):=by rw [bagV_frz,h1];rfl
 have h3:=mapO_app (b:=msgT) (b':=msgTZ) h2 msgT_frz
 unfold msgOf msgZ msgG
 rw [oneR_of h.one]
 simp only [mapO,frz_int,frz_str,Option.bind_some,h3,Option.map_some,MsgM.p]
theorem msgs_frz {H:Heap} {d lim:Nat} {g:Giv}:∀ {ms:List MsgM},(∀ m ∈ ms,Row lim H 3 valC m.vals m.r)→mapO (frz H (d + 2)) (ms.flatMap (msgOf g))=some ((ms.map MsgM.p).flatMap (msgZ g))
 | [],_=>rfl
 | m :: ms,h=>by
  rw [List.flatMap_cons,List.map_cons,List.flatMap_cons]
  exact mapO_app (msg_frz (h _ (.head _))) (msgs_frz fun x hx=>h x (.tail _ hx))
theorem MRow.frz {H:Heap} {d lim:Nat} {g:Giv} {ms:List MsgM} {r:AV} (h:MRow lim H g ms r):Go.Proofs.YtgbnbgkldeifkaaGreatA.frz H (d + 3) r=some (roL (msgZ g) (ms.map MsgM.p)):=by
 rcases h.row with ⟨rfl,rfl⟩ | ⟨ne,b,g1,rfl,g3⟩
 · rfl
 · have e:¬ ms.length=0:=fun e=>ne (List.eq_nil_of_length_eq_zero e)
   have hc:=cut_all (flatMap_len (msgOf_len g) ms)
   unfold Go.Proofs.YtgbnbgkldeifkaaGreatA.frz
   simp only [e,if_false,Heap.cells?,g3,Option.bind_some,hc,msgs_frz h.vals,Option.map_some]
   unfold roL
   rw [List.length_map]
theorem toldP_at {s:VSt}:∀ {ks:List (List UInt8)} {n:Int} {i:Nat} (hi:i < ks.length),(toldP s n ks)[i]?=some (5,n + i + 1,ks[i],(bagOf s ks[i]).known,(bagOf s ks[i]).vals)
 | k :: ks,n,0,_=>by simp [toldP]
 | k :: ks,n,i + 1,hi=>by
  have hi':i < ks.length:=by simpa using hi
  have:=toldP_at (s:=s) (n:=n + 1) hi'
  rw [show n + 1 + (i:Int)=n + ((i + 1:Nat):Int) by omega] at this
  simpa [toldP] using this
theorem toldP_lt {s:VSt} {ks:List (List UInt8)} {n:Int}:(toldP s n ks).Pairwise fun a b=>a.2.1 < b.2.1:=by
 refine List.pairwise_iff_getElem.2 fun i j hi hj hij=>?_
 rw [toldP_len] at hi hj
 have h1:=toldP_at (s:=s) (n:=n) hi
 have h2:=toldP_at (s:=s) (n:=n) hj
 rw [List.getElem?_eq_getElem (by rw [toldP_len];exact hi)] at h1
 rw [List.getElem?_eq_getElem (by rw [toldP_len];exact hj)] at h2
 rw [Option.some.inj h1,Option.some.inj h2]
 show n + (i:Int) + 1 < n + (j:Int) + 1
 omega
end Go.Proofs.YtgbnbgkldeifkaaGreatA

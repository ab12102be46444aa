/- Puts and Drops that go well. No statement about the program is proved here. -/
import Derived.Test.YtgbnbgkldeifkaaGreatVK
namespace Go.Proofs.YtgbnbgkldeifkaaGreatA
open Go
set_option linter.unusedSimpArgs false
set_option linter.unusedVariables false
set_option maxRecDepth 1000000
theorem write_ok {d:Deed} {ds:List Deed} {room:Int} (hm:deedMay d=true) (hl:(ds.length:Int) < room):writeE d ds room=0:=by
 unfold writeE
 rw [if_pos hm,if_neg (by omega)]
theorem bagD_may {n:Int} {key:List UInt8} {b:Bag} (hk:keyOk key=true) (hb:bagMay b.known b.vals=true) (h0:0≤n) (h1:n≤1000000):deedMay (bagD n key b)=true:=by
 have e:namedD (bagD n key b)=bagD n key b:=by simp [namedD,bagD]
 simp only [deedMay,e,deedSame_refl,Bool.true_and]
 simp [bagD,hk,hb,withinB,h0,h1]
structure PutWell (s s':VSt) (key:List UInt8) (b:Bag):Prop where
 bag:bagOf s' key=b
 bags:s'.bags=setB s.bags key b
 dots:s'.dots=s.dots + 1
 ds:s'.ds.length=s.ds.length + 1
 ring:s'.ring=s.ring
 rings:s'.rings=s.rings
 room:s'.room=s.room
theorem putO_ok {s:VSt} {node:Int} {key:List UInt8} {known:Nat→Int} {data:List UInt8} (hk:keyOk key=true) (h0:0≤node) (h8:node < 8) (hd0:0≤s.dots) (hd:s.dots < 1000000) (hf:fullS s key=false)
 (he:putE (bagOf s key).known (bagOf s key).vals known node (s.dots + 1) data=0) (hr:(s.ds.length:Int) < s.room) :
 ∃ s',putO s node key known data=⟨node,s.dots + 1,0,s'⟩∧PutWell s s' key ⟨putK (bagOf s key).known (bagOf s key).vals known node (s.dots + 1) data,putR (bagOf s key).known (bagOf s key).vals known node (s.dots + 1) data⟩:=by
 obtain ⟨m1,m2,m3,m4⟩:=put_ok he
 have h1:¬ (node < 0∨8≤node∨keyOk key=false):=by simp [hk];omega
 have hw:writeE (bagD (s.dots + 1) key ⟨putK (bagOf s key).known (bagOf s key).vals known node (s.dots + 1) data,putR (bagOf s key).known (bagOf s key).vals known node (s.dots + 1) data⟩) s.ds s.room=0:=write_ok (bagD_may hk m4 (by omega) (by omega)) hr
 refine ⟨wroteS s (bagD (s.dots + 1) key ⟨putK (bagOf s key).known (bagOf s key).vals known node (s.dots + 1) data,putR (bagOf s key).known (bagOf s key).vals known node (s.dots + 1) data⟩),?_,?_⟩
 · unfold putO
   rw [if_neg h1,if_neg (by omega),if_neg (by simp [hf]),if_pos he,if_pos hw]
 · rw [wroteS,if_pos hw]
   constructor <;> simp [countS,bagD,bagOf,lookB_set]
   omega
end Go.Proofs.YtgbnbgkldeifkaaGreatA

/- Each function where it stands; calls of pure ones by rewriting. Printed by wip/tools/e1.py. No statement about the program is proved here. -/
import Derived.Test.YtgbnbgkldeifkaaGreatEB
import Derived.Test.YtgbnbgkldeifkaaGreatA32
namespace Go.Proofs.YtgbnbgkldeifkaaGreatA.B
open Go
set_option maxRecDepth 1000000

theorem e70:envE.fn 70=some (.code fd70):=rfl
@[simp] theorem w70 {xs:List AV} {lim:Nat} {H:Heap} {K:AV→Heap→Prop}:WCl envE 70 xs lim H K=wPu envE 70 (mapO (frz H deep) xs) H K:=WCl_pure e70 rfl
theorem e29:envE.fn 29=some (.code fd29):=rfl
@[simp] theorem w29 {xs:List AV} {lim:Nat} {H:Heap} {K:AV→Heap→Prop}:WCl envE 29 xs lim H K=wPu envE 29 (mapO (frz H deep) xs) H K:=WCl_pure e29 rfl
theorem e78:envE.fn 78=some (.code fd78):=rfl
@[simp] theorem w78 {xs:List AV} {lim:Nat} {H:Heap} {K:AV→Heap→Prop}:WCl envE 78 xs lim H K=wPu envE 78 (mapO (frz H deep) xs) H K:=WCl_pure e78 rfl
theorem e31:envE.fn 31=some (.code fd31):=rfl
theorem e112:envE.fn 112=some (.code fd112):=rfl
end Go.Proofs.YtgbnbgkldeifkaaGreatA.B

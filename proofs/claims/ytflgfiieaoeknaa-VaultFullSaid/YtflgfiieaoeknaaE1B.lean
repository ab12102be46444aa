/- Each function where it stands; calls of pure ones by rewriting. Printed by wip/tools/e1.py. No statement about the program is proved here. -/
import Derived.Test.YtflgfiieaoeknaaEB
import Derived.Test.YtflgfiieaoeknaaA32
namespace Go.Proofs.YtflgfiieaoeknaaA.B
open Go
set_option maxRecDepth 1000000

theorem e20 : envE.fn 20 = some (.code fd20) := rfl
@[simp] theorem w20 {xs : List AV} {lim : Nat} {H : Heap} {K : AV → Heap → Prop} : WCl envE 20 xs lim H K = wPu envE 20 (mapO (frz H deep) xs) H K := WCl_pure e20 rfl
theorem e23 : envE.fn 23 = some (.code fd23) := rfl
@[simp] theorem w23 {xs : List AV} {lim : Nat} {H : Heap} {K : AV → Heap → Prop} : WCl envE 23 xs lim H K = wPu envE 23 (mapO (frz H deep) xs) H K := WCl_pure e23 rfl
theorem e58 : envE.fn 58 = some (.code fd58) := rfl
@[simp] theorem w58 {xs : List AV} {lim : Nat} {H : Heap} {K : AV → Heap → Prop} : WCl envE 58 xs lim H K = wPu envE 58 (mapO (frz H deep) xs) H K := WCl_pure e58 rfl
theorem e40 : envE.fn 40 = some (.code fd40) := rfl
theorem e75 : envE.fn 75 = some (.code fd75) := rfl
theorem e76 : envE.fn 76 = some (.code fd76) := rfl
end Go.Proofs.YtflgfiieaoeknaaA.B

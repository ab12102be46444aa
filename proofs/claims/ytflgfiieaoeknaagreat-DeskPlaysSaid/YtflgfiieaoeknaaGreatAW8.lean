/- What wakes: a closed run. No statement about the program is proved here. -/
import Derived.Test.YtflgfiieaoeknaaGreatE1
import Derived.Test.YtflgfiieaoeknaaGreatA33
import Derived.KernelRfl
namespace Go.Proofs.YtflgfiieaoeknaaGreatA
open Go
set_option maxRecDepth 1000000
theorem awake8 (lim : Nat) (H : Heap) : Cl envE 8 [] lim H (.bool true) H := cl_runH 500 (by kernel_rfl)
end Go.Proofs.YtflgfiieaoeknaaGreatA

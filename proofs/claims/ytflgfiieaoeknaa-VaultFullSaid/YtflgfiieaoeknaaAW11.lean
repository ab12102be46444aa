/- What wakes: a closed run. No statement about the program is proved here. -/
import Derived.Test.YtflgfiieaoeknaaE1
import Derived.Test.YtflgfiieaoeknaaA33
import Derived.KernelRfl
namespace Go.Proofs.YtflgfiieaoeknaaA
open Go
set_option maxRecDepth 1000000
theorem awake11 (lim : Nat) (H : Heap) : Cl envE 11 [] lim H (.bool true) H := cl_runH 500 (by kernel_rfl)
end Go.Proofs.YtflgfiieaoeknaaA

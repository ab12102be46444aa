/- The functions that are walked through or run, in a tree. No statement about the program is proved here. -/
import Derived.Test.YtflgfiieaoeknaaFB
import Derived.Test.YtflgfiieaoeknaaB3
import Derived.Test.YtflgfiieaoeknaaSG
import Derived.KernelRfl
namespace Go.Proofs.YtflgfiieaoeknaaA.B
open Go
set_option maxRecDepth 1000000

noncomputable def ft : FT := (.node 58 (.code fd58) (.node 23 (.code fd23) (.node 20 (.code fd20) .leaf .leaf) (.node 40 (.code fd40) .leaf .leaf)) (.node 75 (.code fd75) (.node 72 (.prim sortG) .leaf .leaf) (.node 76 (.code fd76) .leaf .leaf)))
theorem ft_ok : AllT Try.prog ft := (.node ok58 (.node ok23 (.node ok20 .leaf .leaf) (.node ok40 .leaf .leaf)) (.node ok75 (.node ok72s .leaf .leaf) (.node ok76 .leaf .leaf)))
def msE : List (Nat × String × Nat × Option (Option Nat)) := []
noncomputable def envE : AEnv := envT ft msE
theorem env_good : EnvOK Try.prog envE := envT_ok (by kernel_rfl) ft_ok .nil
end Go.Proofs.YtflgfiieaoeknaaA.B

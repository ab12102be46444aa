/- The functions that are walked through or run, in a tree. No statement about the program is proved here. -/
import Derived.Test.YtgbnbgkldeifkaaGreatFB
import Derived.Test.YtgbnbgkldeifkaaGreatB3
import Derived.Test.YtgbnbgkldeifkaaGreatSG
import Derived.KernelRfl
namespace Go.Proofs.YtgbnbgkldeifkaaGreatA.B
open Go
set_option maxRecDepth 1000000

noncomputable def ft:FT:=(.node 78 (.code fd78) (.node 31 (.code fd31) (.node 29 (.code fd29) .leaf .leaf) (.node 70 (.code fd70) .leaf .leaf)) (.node 111 (.code fd111) (.node 81 (.prim sortG) .leaf .leaf) (.node 112 (.code fd112) .leaf .leaf)))
theorem ft_ok:AllT Tryz.prog ft:=(.node ok78 (.node ok31 (.node ok29 .leaf .leaf) (.node ok70 .leaf .leaf)) (.node ok111 (.node ok81s .leaf .leaf) (.node ok112 .leaf .leaf)))
def msE:List (Nat × String × Nat × Option (Option Nat)):=[]
noncomputable def envE:AEnv:=envT ft msE
theorem env_good:EnvOK Tryz.prog envE:=envT_ok (by kernel_rfl) ft_ok .nil
end Go.Proofs.YtgbnbgkldeifkaaGreatA.B

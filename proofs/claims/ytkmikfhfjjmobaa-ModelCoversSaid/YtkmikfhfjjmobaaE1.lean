/- Each function where it stands; calls of pure ones by rewriting. Printed by wip/tools/e1.py. No statement about the program is proved here. -/
import Derived.Test.YtkmikfhfjjmobaaE0
import Derived.Test.YtkmikfhfjjmobaaA32
namespace Go.Proofs.YtkmikfhfjjmobaaA
open Go
set_option maxRecDepth 1000000

theorem e15 : envE.fn 15 = some (.code fd15) := rfl
@[simp] theorem w15 {xs : List AV} {lim : Nat} {H : Heap} {K : AV → Heap → Prop} : WCl envE 15 xs lim H K = wPu envE 15 (mapO (frz H deep) xs) H K := WCl_pure e15 rfl
theorem e17 : envE.fn 17 = some (.code fd17) := rfl
@[simp] theorem w17 {xs : List AV} {lim : Nat} {H : Heap} {K : AV → Heap → Prop} : WCl envE 17 xs lim H K = wPu envE 17 (mapO (frz H deep) xs) H K := WCl_pure e17 rfl
theorem e18 : envE.fn 18 = some (.code fd18) := rfl
@[simp] theorem w18 {xs : List AV} {lim : Nat} {H : Heap} {K : AV → Heap → Prop} : WCl envE 18 xs lim H K = wPu envE 18 (mapO (frz H deep) xs) H K := WCl_pure e18 rfl
theorem e19 : envE.fn 19 = some (.code fd19) := rfl
@[simp] theorem w19 {xs : List AV} {lim : Nat} {H : Heap} {K : AV → Heap → Prop} : WCl envE 19 xs lim H K = wPu envE 19 (mapO (frz H deep) xs) H K := WCl_pure e19 rfl
theorem e20 : envE.fn 20 = some (.code fd20) := rfl
@[simp] theorem w20 {xs : List AV} {lim : Nat} {H : Heap} {K : AV → Heap → Prop} : WCl envE 20 xs lim H K = wPu envE 20 (mapO (frz H deep) xs) H K := WCl_pure e20 rfl
theorem e21 : envE.fn 21 = some (.code fd21) := rfl
@[simp] theorem w21 {xs : List AV} {lim : Nat} {H : Heap} {K : AV → Heap → Prop} : WCl envE 21 xs lim H K = wPu envE 21 (mapO (frz H deep) xs) H K := WCl_pure e21 rfl
theorem e22 : envE.fn 22 = some (.code fd22) := rfl
@[simp] theorem w22 {xs : List AV} {lim : Nat} {H : Heap} {K : AV → Heap → Prop} : WCl envE 22 xs lim H K = wPu envE 22 (mapO (frz H deep) xs) H K := WCl_pure e22 rfl
theorem e46 : envE.fn 46 = some (.code fd46) := rfl
@[simp] theorem w46 {xs : List AV} {lim : Nat} {H : Heap} {K : AV → Heap → Prop} : WCl envE 46 xs lim H K = wPu envE 46 (mapO (frz H deep) xs) H K := WCl_pure e46 rfl
theorem e47 : envE.fn 47 = some (.code fd47) := rfl
@[simp] theorem w47 {xs : List AV} {lim : Nat} {H : Heap} {K : AV → Heap → Prop} : WCl envE 47 xs lim H K = wPu envE 47 (mapO (frz H deep) xs) H K := WCl_pure e47 rfl
theorem e48 : envE.fn 48 = some (.code fd48) := rfl
@[simp] theorem w48 {xs : List AV} {lim : Nat} {H : Heap} {K : AV → Heap → Prop} : WCl envE 48 xs lim H K = wPu envE 48 (mapO (frz H deep) xs) H K := WCl_pure e48 rfl
theorem e61 : envE.fn 61 = some (.code fd61) := rfl
@[simp] theorem w61 {xs : List AV} {lim : Nat} {H : Heap} {K : AV → Heap → Prop} : WCl envE 61 xs lim H K = wPu envE 61 (mapO (frz H deep) xs) H K := WCl_pure e61 rfl
theorem e62 : envE.fn 62 = some (.code fd62) := rfl
@[simp] theorem w62 {xs : List AV} {lim : Nat} {H : Heap} {K : AV → Heap → Prop} : WCl envE 62 xs lim H K = wPu envE 62 (mapO (frz H deep) xs) H K := WCl_pure e62 rfl
theorem e63 : envE.fn 63 = some (.code fd63) := rfl
@[simp] theorem w63 {xs : List AV} {lim : Nat} {H : Heap} {K : AV → Heap → Prop} : WCl envE 63 xs lim H K = wPu envE 63 (mapO (frz H deep) xs) H K := WCl_pure e63 rfl
theorem e65 : envE.fn 65 = some (.code fd65) := rfl
@[simp] theorem w65 {xs : List AV} {lim : Nat} {H : Heap} {K : AV → Heap → Prop} : WCl envE 65 xs lim H K = wPu envE 65 (mapO (frz H deep) xs) H K := WCl_pure e65 rfl
theorem e66 : envE.fn 66 = some (.code fd66) := rfl
@[simp] theorem w66 {xs : List AV} {lim : Nat} {H : Heap} {K : AV → Heap → Prop} : WCl envE 66 xs lim H K = wPu envE 66 (mapO (frz H deep) xs) H K := WCl_pure e66 rfl
theorem e67 : envE.fn 67 = some (.code fd67) := rfl
@[simp] theorem w67 {xs : List AV} {lim : Nat} {H : Heap} {K : AV → Heap → Prop} : WCl envE 67 xs lim H K = wPu envE 67 (mapO (frz H deep) xs) H K := WCl_pure e67 rfl
theorem e83 : envE.fn 83 = some (.code fd83) := rfl
@[simp] theorem w83 {xs : List AV} {lim : Nat} {H : Heap} {K : AV → Heap → Prop} : WCl envE 83 xs lim H K = wPu envE 83 (mapO (frz H deep) xs) H K := WCl_pure e83 rfl
theorem e84 : envE.fn 84 = some (.code fd84) := rfl
@[simp] theorem w84 {xs : List AV} {lim : Nat} {H : Heap} {K : AV → Heap → Prop} : WCl envE 84 xs lim H K = wPu envE 84 (mapO (frz H deep) xs) H K := WCl_pure e84 rfl
theorem e97 : envE.fn 97 = some (.code fd97) := rfl
theorem e98 : envE.fn 98 = some (.code fd98) := rfl
theorem e101 : envE.fn 101 = some (.code fd101) := rfl
@[simp] theorem w101 {xs : List AV} {lim : Nat} {H : Heap} {K : AV → Heap → Prop} : WCl envE 101 xs lim H K = wPu envE 101 (mapO (frz H deep) xs) H K := WCl_pure e101 rfl
theorem e102 : envE.fn 102 = some (.code fd102) := rfl
@[simp] theorem w102 {xs : List AV} {lim : Nat} {H : Heap} {K : AV → Heap → Prop} : WCl envE 102 xs lim H K = wPu envE 102 (mapO (frz H deep) xs) H K := WCl_pure e102 rfl
theorem e125 : envE.fn 125 = some (.code fd125) := rfl
@[simp] theorem w125 {xs : List AV} {lim : Nat} {H : Heap} {K : AV → Heap → Prop} : WCl envE 125 xs lim H K = wPu envE 125 (mapO (frz H deep) xs) H K := WCl_pure e125 rfl
theorem e43 : envE.fn 43 = some (.code fd43) := rfl
@[simp] theorem w43 {xs : List AV} {lim : Nat} {H : Heap} {K : AV → Heap → Prop} : WCl envE 43 xs lim H K = wPu envE 43 (mapO (frz H deep) xs) H K := WCl_pure e43 rfl
theorem e79 : envE.fn 79 = some (.code fd79) := rfl
@[simp] theorem w79 {xs : List AV} {lim : Nat} {H : Heap} {K : AV → Heap → Prop} : WCl envE 79 xs lim H K = wPu envE 79 (mapO (frz H deep) xs) H K := WCl_pure e79 rfl
theorem e113 : envE.fn 113 = some (.code fd113) := rfl
@[simp] theorem w113 {xs : List AV} {lim : Nat} {H : Heap} {K : AV → Heap → Prop} : WCl envE 113 xs lim H K = wPu envE 113 (mapO (frz H deep) xs) H K := WCl_pure e113 rfl
theorem e44 : envE.fn 44 = some (.code fd44) := rfl
@[simp] theorem w44 {xs : List AV} {lim : Nat} {H : Heap} {K : AV → Heap → Prop} : WCl envE 44 xs lim H K = wPu envE 44 (mapO (frz H deep) xs) H K := WCl_pure e44 rfl
theorem e80 : envE.fn 80 = some (.code fd80) := rfl
@[simp] theorem w80 {xs : List AV} {lim : Nat} {H : Heap} {K : AV → Heap → Prop} : WCl envE 80 xs lim H K = wPu envE 80 (mapO (frz H deep) xs) H K := WCl_pure e80 rfl
theorem e81 : envE.fn 81 = some (.code fd81) := rfl
@[simp] theorem w81 {xs : List AV} {lim : Nat} {H : Heap} {K : AV → Heap → Prop} : WCl envE 81 xs lim H K = wPu envE 81 (mapO (frz H deep) xs) H K := WCl_pure e81 rfl
theorem e82 : envE.fn 82 = some (.code fd82) := rfl
@[simp] theorem w82 {xs : List AV} {lim : Nat} {H : Heap} {K : AV → Heap → Prop} : WCl envE 82 xs lim H K = wPu envE 82 (mapO (frz H deep) xs) H K := WCl_pure e82 rfl
theorem e114 : envE.fn 114 = some (.code fd114) := rfl
@[simp] theorem w114 {xs : List AV} {lim : Nat} {H : Heap} {K : AV → Heap → Prop} : WCl envE 114 xs lim H K = wPu envE 114 (mapO (frz H deep) xs) H K := WCl_pure e114 rfl
theorem e23 : envE.fn 23 = some (.code fd23) := rfl
@[simp] theorem w23 {xs : List AV} {lim : Nat} {H : Heap} {K : AV → Heap → Prop} : WCl envE 23 xs lim H K = wPu envE 23 (mapO (frz H deep) xs) H K := WCl_pure e23 rfl
theorem e25 : envE.fn 25 = some (.code fd25) := rfl
theorem e26 : envE.fn 26 = some (.code fd26) := rfl
theorem e27 : envE.fn 27 = some (.code fd27) := rfl
@[simp] theorem w27 {xs : List AV} {lim : Nat} {H : Heap} {K : AV → Heap → Prop} : WCl envE 27 xs lim H K = wPu envE 27 (mapO (frz H deep) xs) H K := WCl_pure e27 rfl
theorem e28 : envE.fn 28 = some (.code fd28) := rfl
@[simp] theorem w28 {xs : List AV} {lim : Nat} {H : Heap} {K : AV → Heap → Prop} : WCl envE 28 xs lim H K = wPu envE 28 (mapO (frz H deep) xs) H K := WCl_pure e28 rfl
theorem e29 : envE.fn 29 = some (.code fd29) := rfl
@[simp] theorem w29 {xs : List AV} {lim : Nat} {H : Heap} {K : AV → Heap → Prop} : WCl envE 29 xs lim H K = wPu envE 29 (mapO (frz H deep) xs) H K := WCl_pure e29 rfl
theorem e30 : envE.fn 30 = some (.code fd30) := rfl
@[simp] theorem w30 {xs : List AV} {lim : Nat} {H : Heap} {K : AV → Heap → Prop} : WCl envE 30 xs lim H K = wPu envE 30 (mapO (frz H deep) xs) H K := WCl_pure e30 rfl
theorem e31 : envE.fn 31 = some (.code fd31) := rfl
theorem e32 : envE.fn 32 = some (.code fd32) := rfl
theorem e33 : envE.fn 33 = some (.code fd33) := rfl
theorem e34 : envE.fn 34 = some (.code fd34) := rfl
theorem e35 : envE.fn 35 = some (.code fd35) := rfl
theorem e36 : envE.fn 36 = some (.code fd36) := rfl
theorem e37 : envE.fn 37 = some (.code fd37) := rfl
theorem e38 : envE.fn 38 = some (.code fd38) := rfl
theorem e39 : envE.fn 39 = some (.code fd39) := rfl
theorem e40 : envE.fn 40 = some (.code fd40) := rfl
@[simp] theorem w40 {xs : List AV} {lim : Nat} {H : Heap} {K : AV → Heap → Prop} : WCl envE 40 xs lim H K = wPu envE 40 (mapO (frz H deep) xs) H K := WCl_pure e40 rfl
theorem e41 : envE.fn 41 = some (.code fd41) := rfl
theorem e42 : envE.fn 42 = some (.code fd42) := rfl
@[simp] theorem w42 {xs : List AV} {lim : Nat} {H : Heap} {K : AV → Heap → Prop} : WCl envE 42 xs lim H K = wPu envE 42 (mapO (frz H deep) xs) H K := WCl_pure e42 rfl
theorem e68 : envE.fn 68 = some (.code fd68) := rfl
@[simp] theorem w68 {xs : List AV} {lim : Nat} {H : Heap} {K : AV → Heap → Prop} : WCl envE 68 xs lim H K = wPu envE 68 (mapO (frz H deep) xs) H K := WCl_pure e68 rfl
theorem e69 : envE.fn 69 = some (.code fd69) := rfl
theorem e70 : envE.fn 70 = some (.code fd70) := rfl
@[simp] theorem w70 {xs : List AV} {lim : Nat} {H : Heap} {K : AV → Heap → Prop} : WCl envE 70 xs lim H K = wPu envE 70 (mapO (frz H deep) xs) H K := WCl_pure e70 rfl
theorem e71 : envE.fn 71 = some (.code fd71) := rfl
@[simp] theorem w71 {xs : List AV} {lim : Nat} {H : Heap} {K : AV → Heap → Prop} : WCl envE 71 xs lim H K = wPu envE 71 (mapO (frz H deep) xs) H K := WCl_pure e71 rfl
theorem e72 : envE.fn 72 = some (.code fd72) := rfl
@[simp] theorem w72 {xs : List AV} {lim : Nat} {H : Heap} {K : AV → Heap → Prop} : WCl envE 72 xs lim H K = wPu envE 72 (mapO (frz H deep) xs) H K := WCl_pure e72 rfl
theorem e73 : envE.fn 73 = some (.code fd73) := rfl
@[simp] theorem w73 {xs : List AV} {lim : Nat} {H : Heap} {K : AV → Heap → Prop} : WCl envE 73 xs lim H K = wPu envE 73 (mapO (frz H deep) xs) H K := WCl_pure e73 rfl
theorem e74 : envE.fn 74 = some (.code fd74) := rfl
@[simp] theorem w74 {xs : List AV} {lim : Nat} {H : Heap} {K : AV → Heap → Prop} : WCl envE 74 xs lim H K = wPu envE 74 (mapO (frz H deep) xs) H K := WCl_pure e74 rfl
theorem e75 : envE.fn 75 = some (.code fd75) := rfl
@[simp] theorem w75 {xs : List AV} {lim : Nat} {H : Heap} {K : AV → Heap → Prop} : WCl envE 75 xs lim H K = wPu envE 75 (mapO (frz H deep) xs) H K := WCl_pure e75 rfl
theorem e76 : envE.fn 76 = some (.code fd76) := rfl
@[simp] theorem w76 {xs : List AV} {lim : Nat} {H : Heap} {K : AV → Heap → Prop} : WCl envE 76 xs lim H K = wPu envE 76 (mapO (frz H deep) xs) H K := WCl_pure e76 rfl
theorem e77 : envE.fn 77 = some (.code fd77) := rfl
@[simp] theorem w77 {xs : List AV} {lim : Nat} {H : Heap} {K : AV → Heap → Prop} : WCl envE 77 xs lim H K = wPu envE 77 (mapO (frz H deep) xs) H K := WCl_pure e77 rfl
theorem e78 : envE.fn 78 = some (.code fd78) := rfl
@[simp] theorem w78 {xs : List AV} {lim : Nat} {H : Heap} {K : AV → Heap → Prop} : WCl envE 78 xs lim H K = wPu envE 78 (mapO (frz H deep) xs) H K := WCl_pure e78 rfl
theorem e103 : envE.fn 103 = some (.code fd103) := rfl
@[simp] theorem w103 {xs : List AV} {lim : Nat} {H : Heap} {K : AV → Heap → Prop} : WCl envE 103 xs lim H K = wPu envE 103 (mapO (frz H deep) xs) H K := WCl_pure e103 rfl
theorem e104 : envE.fn 104 = some (.code fd104) := rfl
@[simp] theorem w104 {xs : List AV} {lim : Nat} {H : Heap} {K : AV → Heap → Prop} : WCl envE 104 xs lim H K = wPu envE 104 (mapO (frz H deep) xs) H K := WCl_pure e104 rfl
theorem e105 : envE.fn 105 = some (.code fd105) := rfl
theorem e106 : envE.fn 106 = some (.code fd106) := rfl
theorem e107 : envE.fn 107 = some (.code fd107) := rfl
@[simp] theorem w107 {xs : List AV} {lim : Nat} {H : Heap} {K : AV → Heap → Prop} : WCl envE 107 xs lim H K = wPu envE 107 (mapO (frz H deep) xs) H K := WCl_pure e107 rfl
theorem e108 : envE.fn 108 = some (.code fd108) := rfl
@[simp] theorem w108 {xs : List AV} {lim : Nat} {H : Heap} {K : AV → Heap → Prop} : WCl envE 108 xs lim H K = wPu envE 108 (mapO (frz H deep) xs) H K := WCl_pure e108 rfl
theorem e109 : envE.fn 109 = some (.code fd109) := rfl
@[simp] theorem w109 {xs : List AV} {lim : Nat} {H : Heap} {K : AV → Heap → Prop} : WCl envE 109 xs lim H K = wPu envE 109 (mapO (frz H deep) xs) H K := WCl_pure e109 rfl
theorem e110 : envE.fn 110 = some (.code fd110) := rfl
@[simp] theorem w110 {xs : List AV} {lim : Nat} {H : Heap} {K : AV → Heap → Prop} : WCl envE 110 xs lim H K = wPu envE 110 (mapO (frz H deep) xs) H K := WCl_pure e110 rfl
theorem e126 : envE.fn 126 = some (.code fd126) := rfl
@[simp] theorem w126 {xs : List AV} {lim : Nat} {H : Heap} {K : AV → Heap → Prop} : WCl envE 126 xs lim H K = wPu envE 126 (mapO (frz H deep) xs) H K := WCl_pure e126 rfl
theorem e127 : envE.fn 127 = some (.code fd127) := rfl
@[simp] theorem w127 {xs : List AV} {lim : Nat} {H : Heap} {K : AV → Heap → Prop} : WCl envE 127 xs lim H K = wPu envE 127 (mapO (frz H deep) xs) H K := WCl_pure e127 rfl
theorem e128 : envE.fn 128 = some (.code fd128) := rfl
@[simp] theorem w128 {xs : List AV} {lim : Nat} {H : Heap} {K : AV → Heap → Prop} : WCl envE 128 xs lim H K = wPu envE 128 (mapO (frz H deep) xs) H K := WCl_pure e128 rfl
theorem e129 : envE.fn 129 = some (.code fd129) := rfl
theorem e130 : envE.fn 130 = some (.code fd130) := rfl
@[simp] theorem w130 {xs : List AV} {lim : Nat} {H : Heap} {K : AV → Heap → Prop} : WCl envE 130 xs lim H K = wPu envE 130 (mapO (frz H deep) xs) H K := WCl_pure e130 rfl
theorem e131 : envE.fn 131 = some (.code fd131) := rfl
@[simp] theorem w131 {xs : List AV} {lim : Nat} {H : Heap} {K : AV → Heap → Prop} : WCl envE 131 xs lim H K = wPu envE 131 (mapO (frz H deep) xs) H K := WCl_pure e131 rfl
theorem e137 : envE.fn 137 = some (.code fd137) := rfl
theorem e138 : envE.fn 138 = some (.code fd138) := rfl
theorem e139 : envE.fn 139 = some (.code fd139) := rfl
@[simp] theorem w139 {xs : List AV} {lim : Nat} {H : Heap} {K : AV → Heap → Prop} : WCl envE 139 xs lim H K = wPu envE 139 (mapO (frz H deep) xs) H K := WCl_pure e139 rfl
theorem e152 : envE.fn 152 = some (.code fd152) := rfl
theorem e49 : envE.fn 49 = some (.code fd49) := rfl
theorem e50 : envE.fn 50 = some (.code fd50) := rfl
theorem e51 : envE.fn 51 = some (.code fd51) := rfl
theorem e52 : envE.fn 52 = some (.code fd52) := rfl
@[simp] theorem w52 {xs : List AV} {lim : Nat} {H : Heap} {K : AV → Heap → Prop} : WCl envE 52 xs lim H K = wPu envE 52 (mapO (frz H deep) xs) H K := WCl_pure e52 rfl
theorem e53 : envE.fn 53 = some (.code fd53) := rfl
@[simp] theorem w53 {xs : List AV} {lim : Nat} {H : Heap} {K : AV → Heap → Prop} : WCl envE 53 xs lim H K = wPu envE 53 (mapO (frz H deep) xs) H K := WCl_pure e53 rfl
theorem e54 : envE.fn 54 = some (.code fd54) := rfl
theorem e57 : envE.fn 57 = some (.code fd57) := rfl
theorem e85 : envE.fn 85 = some (.code fd85) := rfl
@[simp] theorem w85 {xs : List AV} {lim : Nat} {H : Heap} {K : AV → Heap → Prop} : WCl envE 85 xs lim H K = wPu envE 85 (mapO (frz H deep) xs) H K := WCl_pure e85 rfl
theorem e86 : envE.fn 86 = some (.code fd86) := rfl
theorem e87 : envE.fn 87 = some (.code fd87) := rfl
@[simp] theorem w87 {xs : List AV} {lim : Nat} {H : Heap} {K : AV → Heap → Prop} : WCl envE 87 xs lim H K = wPu envE 87 (mapO (frz H deep) xs) H K := WCl_pure e87 rfl
theorem e89 : envE.fn 89 = some (.code fd89) := rfl
@[simp] theorem w89 {xs : List AV} {lim : Nat} {H : Heap} {K : AV → Heap → Prop} : WCl envE 89 xs lim H K = wPu envE 89 (mapO (frz H deep) xs) H K := WCl_pure e89 rfl
theorem e90 : envE.fn 90 = some (.code fd90) := rfl
theorem e91 : envE.fn 91 = some (.code fd91) := rfl
theorem e92 : envE.fn 92 = some (.code fd92) := rfl
theorem e93 : envE.fn 93 = some (.code fd93) := rfl
theorem e94 : envE.fn 94 = some (.code fd94) := rfl
theorem e115 : envE.fn 115 = some (.code fd115) := rfl
theorem e116 : envE.fn 116 = some (.code fd116) := rfl
theorem e119 : envE.fn 119 = some (.code fd119) := rfl
@[simp] theorem w119 {xs : List AV} {lim : Nat} {H : Heap} {K : AV → Heap → Prop} : WCl envE 119 xs lim H K = wPu envE 119 (mapO (frz H deep) xs) H K := WCl_pure e119 rfl
theorem e120 : envE.fn 120 = some (.code fd120) := rfl
theorem e3 : envE.fn 3 = some (.code fd3) := rfl
@[simp] theorem w3 {xs : List AV} {lim : Nat} {H : Heap} {K : AV → Heap → Prop} : WCl envE 3 xs lim H K = wPu envE 3 (mapO (frz H deep) xs) H K := WCl_pure e3 rfl
theorem e4 : envE.fn 4 = some (.code fd4) := rfl
@[simp] theorem w4 {xs : List AV} {lim : Nat} {H : Heap} {K : AV → Heap → Prop} : WCl envE 4 xs lim H K = wPu envE 4 (mapO (frz H deep) xs) H K := WCl_pure e4 rfl
theorem e5 : envE.fn 5 = some (.code fd5) := rfl
@[simp] theorem w5 {xs : List AV} {lim : Nat} {H : Heap} {K : AV → Heap → Prop} : WCl envE 5 xs lim H K = wPu envE 5 (mapO (frz H deep) xs) H K := WCl_pure e5 rfl
theorem e6 : envE.fn 6 = some (.code fd6) := rfl
@[simp] theorem w6 {xs : List AV} {lim : Nat} {H : Heap} {K : AV → Heap → Prop} : WCl envE 6 xs lim H K = wPu envE 6 (mapO (frz H deep) xs) H K := WCl_pure e6 rfl
theorem e7 : envE.fn 7 = some (.code fd7) := rfl
@[simp] theorem w7 {xs : List AV} {lim : Nat} {H : Heap} {K : AV → Heap → Prop} : WCl envE 7 xs lim H K = wPu envE 7 (mapO (frz H deep) xs) H K := WCl_pure e7 rfl
theorem e8 : envE.fn 8 = some (.code fd8) := rfl
@[simp] theorem w8 {xs : List AV} {lim : Nat} {H : Heap} {K : AV → Heap → Prop} : WCl envE 8 xs lim H K = wPu envE 8 (mapO (frz H deep) xs) H K := WCl_pure e8 rfl
theorem e9 : envE.fn 9 = some (.code fd9) := rfl
@[simp] theorem w9 {xs : List AV} {lim : Nat} {H : Heap} {K : AV → Heap → Prop} : WCl envE 9 xs lim H K = wPu envE 9 (mapO (frz H deep) xs) H K := WCl_pure e9 rfl
theorem e10 : envE.fn 10 = some (.code fd10) := rfl
@[simp] theorem w10 {xs : List AV} {lim : Nat} {H : Heap} {K : AV → Heap → Prop} : WCl envE 10 xs lim H K = wPu envE 10 (mapO (frz H deep) xs) H K := WCl_pure e10 rfl
theorem e11 : envE.fn 11 = some (.code fd11) := rfl
@[simp] theorem w11 {xs : List AV} {lim : Nat} {H : Heap} {K : AV → Heap → Prop} : WCl envE 11 xs lim H K = wPu envE 11 (mapO (frz H deep) xs) H K := WCl_pure e11 rfl
theorem e12 : envE.fn 12 = some (.code fd12) := rfl
@[simp] theorem w12 {xs : List AV} {lim : Nat} {H : Heap} {K : AV → Heap → Prop} : WCl envE 12 xs lim H K = wPu envE 12 (mapO (frz H deep) xs) H K := WCl_pure e12 rfl
theorem e16 : envE.fn 16 = some (.code fd16) := rfl
@[simp] theorem w16 {xs : List AV} {lim : Nat} {H : Heap} {K : AV → Heap → Prop} : WCl envE 16 xs lim H K = wPu envE 16 (mapO (frz H deep) xs) H K := WCl_pure e16 rfl
theorem e24 : envE.fn 24 = some (.code fd24) := rfl
@[simp] theorem w24 {xs : List AV} {lim : Nat} {H : Heap} {K : AV → Heap → Prop} : WCl envE 24 xs lim H K = wPu envE 24 (mapO (frz H deep) xs) H K := WCl_pure e24 rfl
theorem e45 : envE.fn 45 = some (.code fd45) := rfl
@[simp] theorem w45 {xs : List AV} {lim : Nat} {H : Heap} {K : AV → Heap → Prop} : WCl envE 45 xs lim H K = wPu envE 45 (mapO (frz H deep) xs) H K := WCl_pure e45 rfl
end Go.Proofs.YtkmikfhfjjmobaaA

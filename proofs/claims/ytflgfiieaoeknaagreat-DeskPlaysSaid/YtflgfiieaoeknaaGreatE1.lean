/- Each function where it stands; calls of pure ones by rewriting. Printed by wip/tools/e1.py. No statement about the program is proved here. -/
import Derived.Test.YtflgfiieaoeknaaGreatE0
import Derived.Test.YtflgfiieaoeknaaGreatA32
namespace Go.Proofs.YtflgfiieaoeknaaGreatA
open Go
set_option maxRecDepth 1000000

theorem e15 : envE.fn 15 = some (.code fd15) := rfl
@[simp] theorem w15 {xs : List AV} {lim : Nat} {H : Heap} {K : AV → Heap → Prop} : WCl envE 15 xs lim H K = wPu envE 15 (mapO (frz H deep) xs) H K := WCl_pure e15 rfl
theorem e66 : envE.fn 66 = some (.code fd66) := rfl
@[simp] theorem w66 {xs : List AV} {lim : Nat} {H : Heap} {K : AV → Heap → Prop} : WCl envE 66 xs lim H K = wPu envE 66 (mapO (frz H deep) xs) H K := WCl_pure e66 rfl
theorem e67 : envE.fn 67 = some (.code fd67) := rfl
@[simp] theorem w67 {xs : List AV} {lim : Nat} {H : Heap} {K : AV → Heap → Prop} : WCl envE 67 xs lim H K = wPu envE 67 (mapO (frz H deep) xs) H K := WCl_pure e67 rfl
theorem e69 : envE.fn 69 = some (.code fd69) := rfl
@[simp] theorem w69 {xs : List AV} {lim : Nat} {H : Heap} {K : AV → Heap → Prop} : WCl envE 69 xs lim H K = wPu envE 69 (mapO (frz H deep) xs) H K := WCl_pure e69 rfl
theorem e31 : envE.fn 31 = some (.code fd31) := rfl
@[simp] theorem w31 {xs : List AV} {lim : Nat} {H : Heap} {K : AV → Heap → Prop} : WCl envE 31 xs lim H K = wPu envE 31 (mapO (frz H deep) xs) H K := WCl_pure e31 rfl
theorem e57 : envE.fn 57 = some (.code fd57) := rfl
@[simp] theorem w57 {xs : List AV} {lim : Nat} {H : Heap} {K : AV → Heap → Prop} : WCl envE 57 xs lim H K = wPu envE 57 (mapO (frz H deep) xs) H K := WCl_pure e57 rfl
theorem e23 : envE.fn 23 = some (.code fd23) := rfl
@[simp] theorem w23 {xs : List AV} {lim : Nat} {H : Heap} {K : AV → Heap → Prop} : WCl envE 23 xs lim H K = wPu envE 23 (mapO (frz H deep) xs) H K := WCl_pure e23 rfl
theorem e77 : envE.fn 77 = some (.code fd77) := rfl
@[simp] theorem w77 {xs : List AV} {lim : Nat} {H : Heap} {K : AV → Heap → Prop} : WCl envE 77 xs lim H K = wPu envE 77 (mapO (frz H deep) xs) H K := WCl_pure e77 rfl
theorem e106 : envE.fn 106 = some (.code fd106) := rfl
@[simp] theorem w106 {xs : List AV} {lim : Nat} {H : Heap} {K : AV → Heap → Prop} : WCl envE 106 xs lim H K = wPu envE 106 (mapO (frz H deep) xs) H K := WCl_pure e106 rfl
theorem e107 : envE.fn 107 = some (.code fd107) := rfl
@[simp] theorem w107 {xs : List AV} {lim : Nat} {H : Heap} {K : AV → Heap → Prop} : WCl envE 107 xs lim H K = wPu envE 107 (mapO (frz H deep) xs) H K := WCl_pure e107 rfl
theorem e108 : envE.fn 108 = some (.code fd108) := rfl
@[simp] theorem w108 {xs : List AV} {lim : Nat} {H : Heap} {K : AV → Heap → Prop} : WCl envE 108 xs lim H K = wPu envE 108 (mapO (frz H deep) xs) H K := WCl_pure e108 rfl
theorem e109 : envE.fn 109 = some (.code fd109) := rfl
@[simp] theorem w109 {xs : List AV} {lim : Nat} {H : Heap} {K : AV → Heap → Prop} : WCl envE 109 xs lim H K = wPu envE 109 (mapO (frz H deep) xs) H K := WCl_pure e109 rfl
theorem e110 : envE.fn 110 = some (.code fd110) := rfl
@[simp] theorem w110 {xs : List AV} {lim : Nat} {H : Heap} {K : AV → Heap → Prop} : WCl envE 110 xs lim H K = wPu envE 110 (mapO (frz H deep) xs) H K := WCl_pure e110 rfl
theorem e111 : envE.fn 111 = some (.code fd111) := rfl
@[simp] theorem w111 {xs : List AV} {lim : Nat} {H : Heap} {K : AV → Heap → Prop} : WCl envE 111 xs lim H K = wPu envE 111 (mapO (frz H deep) xs) H K := WCl_pure e111 rfl
theorem e115 : envE.fn 115 = some (.code fd115) := rfl
@[simp] theorem w115 {xs : List AV} {lim : Nat} {H : Heap} {K : AV → Heap → Prop} : WCl envE 115 xs lim H K = wPu envE 115 (mapO (frz H deep) xs) H K := WCl_pure e115 rfl
theorem e116 : envE.fn 116 = some (.code fd116) := rfl
@[simp] theorem w116 {xs : List AV} {lim : Nat} {H : Heap} {K : AV → Heap → Prop} : WCl envE 116 xs lim H K = wPu envE 116 (mapO (frz H deep) xs) H K := WCl_pure e116 rfl
theorem e136 : envE.fn 136 = some (.code fd136) := rfl
@[simp] theorem w136 {xs : List AV} {lim : Nat} {H : Heap} {K : AV → Heap → Prop} : WCl envE 136 xs lim H K = wPu envE 136 (mapO (frz H deep) xs) H K := WCl_pure e136 rfl
theorem e137 : envE.fn 137 = some (.code fd137) := rfl
@[simp] theorem w137 {xs : List AV} {lim : Nat} {H : Heap} {K : AV → Heap → Prop} : WCl envE 137 xs lim H K = wPu envE 137 (mapO (frz H deep) xs) H K := WCl_pure e137 rfl
theorem e138 : envE.fn 138 = some (.code fd138) := rfl
theorem e139 : envE.fn 139 = some (.code fd139) := rfl
theorem e143 : envE.fn 143 = some (.code fd143) := rfl
@[simp] theorem w143 {xs : List AV} {lim : Nat} {H : Heap} {K : AV → Heap → Prop} : WCl envE 143 xs lim H K = wPu envE 143 (mapO (frz H deep) xs) H K := WCl_pure e143 rfl
theorem e167 : envE.fn 167 = some (.code fd167) := rfl
@[simp] theorem w167 {xs : List AV} {lim : Nat} {H : Heap} {K : AV → Heap → Prop} : WCl envE 167 xs lim H K = wPu envE 167 (mapO (frz H deep) xs) H K := WCl_pure e167 rfl
theorem e53 : envE.fn 53 = some (.code fd53) := rfl
@[simp] theorem w53 {xs : List AV} {lim : Nat} {H : Heap} {K : AV → Heap → Prop} : WCl envE 53 xs lim H K = wPu envE 53 (mapO (frz H deep) xs) H K := WCl_pure e53 rfl
theorem e98 : envE.fn 98 = some (.code fd98) := rfl
@[simp] theorem w98 {xs : List AV} {lim : Nat} {H : Heap} {K : AV → Heap → Prop} : WCl envE 98 xs lim H K = wPu envE 98 (mapO (frz H deep) xs) H K := WCl_pure e98 rfl
theorem e99 : envE.fn 99 = some (.code fd99) := rfl
@[simp] theorem w99 {xs : List AV} {lim : Nat} {H : Heap} {K : AV → Heap → Prop} : WCl envE 99 xs lim H K = wPu envE 99 (mapO (frz H deep) xs) H K := WCl_pure e99 rfl
theorem e100 : envE.fn 100 = some (.code fd100) := rfl
@[simp] theorem w100 {xs : List AV} {lim : Nat} {H : Heap} {K : AV → Heap → Prop} : WCl envE 100 xs lim H K = wPu envE 100 (mapO (frz H deep) xs) H K := WCl_pure e100 rfl
theorem e135 : envE.fn 135 = some (.code fd135) := rfl
@[simp] theorem w135 {xs : List AV} {lim : Nat} {H : Heap} {K : AV → Heap → Prop} : WCl envE 135 xs lim H K = wPu envE 135 (mapO (frz H deep) xs) H K := WCl_pure e135 rfl
theorem e105 : envE.fn 105 = some (.code fd105) := rfl
@[simp] theorem w105 {xs : List AV} {lim : Nat} {H : Heap} {K : AV → Heap → Prop} : WCl envE 105 xs lim H K = wPu envE 105 (mapO (frz H deep) xs) H K := WCl_pure e105 rfl
theorem e166 : envE.fn 166 = some (.code fd166) := rfl
@[simp] theorem w166 {xs : List AV} {lim : Nat} {H : Heap} {K : AV → Heap → Prop} : WCl envE 166 xs lim H K = wPu envE 166 (mapO (frz H deep) xs) H K := WCl_pure e166 rfl
theorem e101 : envE.fn 101 = some (.code fd101) := rfl
@[simp] theorem w101 {xs : List AV} {lim : Nat} {H : Heap} {K : AV → Heap → Prop} : WCl envE 101 xs lim H K = wPu envE 101 (mapO (frz H deep) xs) H K := WCl_pure e101 rfl
theorem e102 : envE.fn 102 = some (.code fd102) := rfl
@[simp] theorem w102 {xs : List AV} {lim : Nat} {H : Heap} {K : AV → Heap → Prop} : WCl envE 102 xs lim H K = wPu envE 102 (mapO (frz H deep) xs) H K := WCl_pure e102 rfl
theorem e103 : envE.fn 103 = some (.code fd103) := rfl
@[simp] theorem w103 {xs : List AV} {lim : Nat} {H : Heap} {K : AV → Heap → Prop} : WCl envE 103 xs lim H K = wPu envE 103 (mapO (frz H deep) xs) H K := WCl_pure e103 rfl
theorem e62 : envE.fn 62 = some (.code fd62) := rfl
@[simp] theorem w62 {xs : List AV} {lim : Nat} {H : Heap} {K : AV → Heap → Prop} : WCl envE 62 xs lim H K = wPu envE 62 (mapO (frz H deep) xs) H K := WCl_pure e62 rfl
theorem e9 : envE.fn 9 = some (.code fd9) := rfl
theorem e21 : envE.fn 21 = some (.code fd21) := rfl
theorem e47 : envE.fn 47 = some (.code fd47) := rfl
@[simp] theorem w47 {xs : List AV} {lim : Nat} {H : Heap} {K : AV → Heap → Prop} : WCl envE 47 xs lim H K = wPu envE 47 (mapO (frz H deep) xs) H K := WCl_pure e47 rfl
theorem e25 : envE.fn 25 = some (.code fd25) := rfl
@[simp] theorem w25 {xs : List AV} {lim : Nat} {H : Heap} {K : AV → Heap → Prop} : WCl envE 25 xs lim H K = wPu envE 25 (mapO (frz H deep) xs) H K := WCl_pure e25 rfl
theorem e30 : envE.fn 30 = some (.code fd30) := rfl
theorem e50 : envE.fn 50 = some (.code fd50) := rfl
theorem e64 : envE.fn 64 = some (.code fd64) := rfl
@[simp] theorem w64 {xs : List AV} {lim : Nat} {H : Heap} {K : AV → Heap → Prop} : WCl envE 64 xs lim H K = wPu envE 64 (mapO (frz H deep) xs) H K := WCl_pure e64 rfl
theorem e65 : envE.fn 65 = some (.code fd65) := rfl
@[simp] theorem w65 {xs : List AV} {lim : Nat} {H : Heap} {K : AV → Heap → Prop} : WCl envE 65 xs lim H K = wPu envE 65 (mapO (frz H deep) xs) H K := WCl_pure e65 rfl
theorem e20 : envE.fn 20 = some (.code fd20) := rfl
theorem e54 : envE.fn 54 = some (.code fd54) := rfl
@[simp] theorem w54 {xs : List AV} {lim : Nat} {H : Heap} {K : AV → Heap → Prop} : WCl envE 54 xs lim H K = wPu envE 54 (mapO (frz H deep) xs) H K := WCl_pure e54 rfl
theorem e74 : envE.fn 74 = some (.code fd74) := rfl
@[simp] theorem w74 {xs : List AV} {lim : Nat} {H : Heap} {K : AV → Heap → Prop} : WCl envE 74 xs lim H K = wPu envE 74 (mapO (frz H deep) xs) H K := WCl_pure e74 rfl
theorem e88 : envE.fn 88 = some (.code fd88) := rfl
@[simp] theorem w88 {xs : List AV} {lim : Nat} {H : Heap} {K : AV → Heap → Prop} : WCl envE 88 xs lim H K = wPu envE 88 (mapO (frz H deep) xs) H K := WCl_pure e88 rfl
theorem e91 : envE.fn 91 = some (.code fd91) := rfl
@[simp] theorem w91 {xs : List AV} {lim : Nat} {H : Heap} {K : AV → Heap → Prop} : WCl envE 91 xs lim H K = wPu envE 91 (mapO (frz H deep) xs) H K := WCl_pure e91 rfl
theorem e95 : envE.fn 95 = some (.code fd95) := rfl
theorem e76 : envE.fn 76 = some (.code fd76) := rfl
theorem e127 : envE.fn 127 = some (.code fd127) := rfl
@[simp] theorem w127 {xs : List AV} {lim : Nat} {H : Heap} {K : AV → Heap → Prop} : WCl envE 127 xs lim H K = wPu envE 127 (mapO (frz H deep) xs) H K := WCl_pure e127 rfl
theorem e128 : envE.fn 128 = some (.code fd128) := rfl
@[simp] theorem w128 {xs : List AV} {lim : Nat} {H : Heap} {K : AV → Heap → Prop} : WCl envE 128 xs lim H K = wPu envE 128 (mapO (frz H deep) xs) H K := WCl_pure e128 rfl
theorem e132 : envE.fn 132 = some (.code fd132) := rfl
@[simp] theorem w132 {xs : List AV} {lim : Nat} {H : Heap} {K : AV → Heap → Prop} : WCl envE 132 xs lim H K = wPu envE 132 (mapO (frz H deep) xs) H K := WCl_pure e132 rfl
theorem e133 : envE.fn 133 = some (.code fd133) := rfl
theorem e130 : envE.fn 130 = some (.code fd130) := rfl
@[simp] theorem w130 {xs : List AV} {lim : Nat} {H : Heap} {K : AV → Heap → Prop} : WCl envE 130 xs lim H K = wPu envE 130 (mapO (frz H deep) xs) H K := WCl_pure e130 rfl
theorem e131 : envE.fn 131 = some (.code fd131) := rfl
@[simp] theorem w131 {xs : List AV} {lim : Nat} {H : Heap} {K : AV → Heap → Prop} : WCl envE 131 xs lim H K = wPu envE 131 (mapO (frz H deep) xs) H K := WCl_pure e131 rfl
theorem e142 : envE.fn 142 = some (.code fd142) := rfl
@[simp] theorem w142 {xs : List AV} {lim : Nat} {H : Heap} {K : AV → Heap → Prop} : WCl envE 142 xs lim H K = wPu envE 142 (mapO (frz H deep) xs) H K := WCl_pure e142 rfl
theorem e158 : envE.fn 158 = some (.code fd158) := rfl
@[simp] theorem w158 {xs : List AV} {lim : Nat} {H : Heap} {K : AV → Heap → Prop} : WCl envE 158 xs lim H K = wPu envE 158 (mapO (frz H deep) xs) H K := WCl_pure e158 rfl
theorem e159 : envE.fn 159 = some (.code fd159) := rfl
@[simp] theorem w159 {xs : List AV} {lim : Nat} {H : Heap} {K : AV → Heap → Prop} : WCl envE 159 xs lim H K = wPu envE 159 (mapO (frz H deep) xs) H K := WCl_pure e159 rfl
theorem e160 : envE.fn 160 = some (.code fd160) := rfl
@[simp] theorem w160 {xs : List AV} {lim : Nat} {H : Heap} {K : AV → Heap → Prop} : WCl envE 160 xs lim H K = wPu envE 160 (mapO (frz H deep) xs) H K := WCl_pure e160 rfl
theorem e162 : envE.fn 162 = some (.code fd162) := rfl
@[simp] theorem w162 {xs : List AV} {lim : Nat} {H : Heap} {K : AV → Heap → Prop} : WCl envE 162 xs lim H K = wPu envE 162 (mapO (frz H deep) xs) H K := WCl_pure e162 rfl
theorem e163 : envE.fn 163 = some (.code fd163) := rfl
theorem e164 : envE.fn 164 = some (.code fd164) := rfl
@[simp] theorem w164 {xs : List AV} {lim : Nat} {H : Heap} {K : AV → Heap → Prop} : WCl envE 164 xs lim H K = wPu envE 164 (mapO (frz H deep) xs) H K := WCl_pure e164 rfl
theorem e161 : envE.fn 161 = some (.code fd161) := rfl
@[simp] theorem w161 {xs : List AV} {lim : Nat} {H : Heap} {K : AV → Heap → Prop} : WCl envE 161 xs lim H K = wPu envE 161 (mapO (frz H deep) xs) H K := WCl_pure e161 rfl
theorem e169 : envE.fn 169 = some (.code fd169) := rfl
@[simp] theorem w169 {xs : List AV} {lim : Nat} {H : Heap} {K : AV → Heap → Prop} : WCl envE 169 xs lim H K = wPu envE 169 (mapO (frz H deep) xs) H K := WCl_pure e169 rfl
theorem e170 : envE.fn 170 = some (.code fd170) := rfl
theorem e171 : envE.fn 171 = some (.code fd171) := rfl
theorem e178 : envE.fn 178 = some (.code fd178) := rfl
@[simp] theorem w178 {xs : List AV} {lim : Nat} {H : Heap} {K : AV → Heap → Prop} : WCl envE 178 xs lim H K = wPu envE 178 (mapO (frz H deep) xs) H K := WCl_pure e178 rfl
theorem e179 : envE.fn 179 = some (.code fd179) := rfl
@[simp] theorem w179 {xs : List AV} {lim : Nat} {H : Heap} {K : AV → Heap → Prop} : WCl envE 179 xs lim H K = wPu envE 179 (mapO (frz H deep) xs) H K := WCl_pure e179 rfl
theorem e182 : envE.fn 182 = some (.code fd182) := rfl
@[simp] theorem w182 {xs : List AV} {lim : Nat} {H : Heap} {K : AV → Heap → Prop} : WCl envE 182 xs lim H K = wPu envE 182 (mapO (frz H deep) xs) H K := WCl_pure e182 rfl
theorem e183 : envE.fn 183 = some (.code fd183) := rfl
@[simp] theorem w183 {xs : List AV} {lim : Nat} {H : Heap} {K : AV → Heap → Prop} : WCl envE 183 xs lim H K = wPu envE 183 (mapO (frz H deep) xs) H K := WCl_pure e183 rfl
theorem e184 : envE.fn 184 = some (.code fd184) := rfl
theorem e186 : envE.fn 186 = some (.code fd186) := rfl
@[simp] theorem w186 {xs : List AV} {lim : Nat} {H : Heap} {K : AV → Heap → Prop} : WCl envE 186 xs lim H K = wPu envE 186 (mapO (frz H deep) xs) H K := WCl_pure e186 rfl
theorem e189 : envE.fn 189 = some (.code fd189) := rfl
theorem e190 : envE.fn 190 = some (.code fd190) := rfl
theorem e192 : envE.fn 192 = some (.code fd192) := rfl
theorem e11 : envE.fn 11 = some (.code fd11) := rfl
theorem e26 : envE.fn 26 = some (.code fd26) := rfl
theorem e32 : envE.fn 32 = some (.code fd32) := rfl
theorem e37 : envE.fn 37 = some (.code fd37) := rfl
theorem e48 : envE.fn 48 = some (.code fd48) := rfl
@[simp] theorem w48 {xs : List AV} {lim : Nat} {H : Heap} {K : AV → Heap → Prop} : WCl envE 48 xs lim H K = wPu envE 48 (mapO (frz H deep) xs) H K := WCl_pure e48 rfl
theorem e63 : envE.fn 63 = some (.code fd63) := rfl
@[simp] theorem w63 {xs : List AV} {lim : Nat} {H : Heap} {K : AV → Heap → Prop} : WCl envE 63 xs lim H K = wPu envE 63 (mapO (frz H deep) xs) H K := WCl_pure e63 rfl
theorem e16 : envE.fn 16 = some (.code fd16) := rfl
theorem e18 : envE.fn 18 = some (.code fd18) := rfl
theorem e13 : envE.fn 13 = some (.code fd13) := rfl
theorem e55 : envE.fn 55 = some (.code fd55) := rfl
@[simp] theorem w55 {xs : List AV} {lim : Nat} {H : Heap} {K : AV → Heap → Prop} : WCl envE 55 xs lim H K = wPu envE 55 (mapO (frz H deep) xs) H K := WCl_pure e55 rfl
theorem e28 : envE.fn 28 = some (.code fd28) := rfl
@[simp] theorem w28 {xs : List AV} {lim : Nat} {H : Heap} {K : AV → Heap → Prop} : WCl envE 28 xs lim H K = wPu envE 28 (mapO (frz H deep) xs) H K := WCl_pure e28 rfl
theorem e38 : envE.fn 38 = some (.code fd38) := rfl
theorem e49 : envE.fn 49 = some (.code fd49) := rfl
theorem e68 : envE.fn 68 = some (.code fd68) := rfl
theorem e58 : envE.fn 58 = some (.code fd58) := rfl
theorem e75 : envE.fn 75 = some (.code fd75) := rfl
@[simp] theorem w75 {xs : List AV} {lim : Nat} {H : Heap} {K : AV → Heap → Prop} : WCl envE 75 xs lim H K = wPu envE 75 (mapO (frz H deep) xs) H K := WCl_pure e75 rfl
theorem e104 : envE.fn 104 = some (.code fd104) := rfl
@[simp] theorem w104 {xs : List AV} {lim : Nat} {H : Heap} {K : AV → Heap → Prop} : WCl envE 104 xs lim H K = wPu envE 104 (mapO (frz H deep) xs) H K := WCl_pure e104 rfl
theorem e52 : envE.fn 52 = some (.code fd52) := rfl
theorem e36 : envE.fn 36 = some (.code fd36) := rfl
theorem e93 : envE.fn 93 = some (.code fd93) := rfl
theorem e94 : envE.fn 94 = some (.code fd94) := rfl
@[simp] theorem w94 {xs : List AV} {lim : Nat} {H : Heap} {K : AV → Heap → Prop} : WCl envE 94 xs lim H K = wPu envE 94 (mapO (frz H deep) xs) H K := WCl_pure e94 rfl
theorem e7 : envE.fn 7 = some (.code fd7) := rfl
@[simp] theorem w7 {xs : List AV} {lim : Nat} {H : Heap} {K : AV → Heap → Prop} : WCl envE 7 xs lim H K = wPu envE 7 (mapO (frz H deep) xs) H K := WCl_pure e7 rfl
theorem e8 : envE.fn 8 = some (.code fd8) := rfl
@[simp] theorem w8 {xs : List AV} {lim : Nat} {H : Heap} {K : AV → Heap → Prop} : WCl envE 8 xs lim H K = wPu envE 8 (mapO (frz H deep) xs) H K := WCl_pure e8 rfl
theorem e3 : envE.fn 3 = some (.code fd3) := rfl
@[simp] theorem w3 {xs : List AV} {lim : Nat} {H : Heap} {K : AV → Heap → Prop} : WCl envE 3 xs lim H K = wPu envE 3 (mapO (frz H deep) xs) H K := WCl_pure e3 rfl
theorem e10 : envE.fn 10 = some (.code fd10) := rfl
theorem e12 : envE.fn 12 = some (.code fd12) := rfl
theorem e14 : envE.fn 14 = some (.code fd14) := rfl
theorem e17 : envE.fn 17 = some (.code fd17) := rfl
theorem e19 : envE.fn 19 = some (.code fd19) := rfl
theorem e51 : envE.fn 51 = some (.code fd51) := rfl
theorem e56 : envE.fn 56 = some (.code fd56) := rfl
theorem e59 : envE.fn 59 = some (.code fd59) := rfl
theorem e60 : envE.fn 60 = some (.code fd60) := rfl
theorem e61 : envE.fn 61 = some (.code fd61) := rfl
theorem e92 : envE.fn 92 = some (.code fd92) := rfl
theorem e96 : envE.fn 96 = some (.code fd96) := rfl
theorem e97 : envE.fn 97 = some (.code fd97) := rfl
theorem e134 : envE.fn 134 = some (.code fd134) := rfl
@[simp] theorem w134 {xs : List AV} {lim : Nat} {H : Heap} {K : AV → Heap → Prop} : WCl envE 134 xs lim H K = wPu envE 134 (mapO (frz H deep) xs) H K := WCl_pure e134 rfl
theorem e165 : envE.fn 165 = some (.code fd165) := rfl
@[simp] theorem w165 {xs : List AV} {lim : Nat} {H : Heap} {K : AV → Heap → Prop} : WCl envE 165 xs lim H K = wPu envE 165 (mapO (frz H deep) xs) H K := WCl_pure e165 rfl
theorem e180 : envE.fn 180 = some (.code fd180) := rfl
@[simp] theorem w180 {xs : List AV} {lim : Nat} {H : Heap} {K : AV → Heap → Prop} : WCl envE 180 xs lim H K = wPu envE 180 (mapO (frz H deep) xs) H K := WCl_pure e180 rfl
theorem e187 : envE.fn 187 = some (.code fd187) := rfl
@[simp] theorem w187 {xs : List AV} {lim : Nat} {H : Heap} {K : AV → Heap → Prop} : WCl envE 187 xs lim H K = wPu envE 187 (mapO (frz H deep) xs) H K := WCl_pure e187 rfl
theorem e188 : envE.fn 188 = some (.code fd188) := rfl
@[simp] theorem w188 {xs : List AV} {lim : Nat} {H : Heap} {K : AV → Heap → Prop} : WCl envE 188 xs lim H K = wPu envE 188 (mapO (frz H deep) xs) H K := WCl_pure e188 rfl
theorem e191 : envE.fn 191 = some (.code fd191) := rfl
@[simp] theorem w191 {xs : List AV} {lim : Nat} {H : Heap} {K : AV → Heap → Prop} : WCl envE 191 xs lim H K = wPu envE 191 (mapO (frz H deep) xs) H K := WCl_pure e191 rfl
end Go.Proofs.YtflgfiieaoeknaaGreatA

/- Each function where it stands; calls of pure ones by rewriting. Printed by wip/tools/e1.py. No statement about the program is proved here. -/
import Derived.Test.YtflgfiieaoeknaaE0
import Derived.Test.YtflgfiieaoeknaaA32
namespace Go.Proofs.YtflgfiieaoeknaaA
open Go
set_option maxRecDepth 1000000

theorem e17 : envE.fn 17 = some (.code fd17) := rfl
@[simp] theorem w17 {xs : List AV} {lim : Nat} {H : Heap} {K : AV → Heap → Prop} : WCl envE 17 xs lim H K = wPu envE 17 (mapO (frz H deep) xs) H K := WCl_pure e17 rfl
theorem e51 : envE.fn 51 = some (.code fd51) := rfl
@[simp] theorem w51 {xs : List AV} {lim : Nat} {H : Heap} {K : AV → Heap → Prop} : WCl envE 51 xs lim H K = wPu envE 51 (mapO (frz H deep) xs) H K := WCl_pure e51 rfl
theorem e53 : envE.fn 53 = some (.code fd53) := rfl
@[simp] theorem w53 {xs : List AV} {lim : Nat} {H : Heap} {K : AV → Heap → Prop} : WCl envE 53 xs lim H K = wPu envE 53 (mapO (frz H deep) xs) H K := WCl_pure e53 rfl
theorem e54 : envE.fn 54 = some (.code fd54) := rfl
@[simp] theorem w54 {xs : List AV} {lim : Nat} {H : Heap} {K : AV → Heap → Prop} : WCl envE 54 xs lim H K = wPu envE 54 (mapO (frz H deep) xs) H K := WCl_pure e54 rfl
theorem e56 : envE.fn 56 = some (.code fd56) := rfl
@[simp] theorem w56 {xs : List AV} {lim : Nat} {H : Heap} {K : AV → Heap → Prop} : WCl envE 56 xs lim H K = wPu envE 56 (mapO (frz H deep) xs) H K := WCl_pure e56 rfl
theorem e63 : envE.fn 63 = some (.code fd63) := rfl
@[simp] theorem w63 {xs : List AV} {lim : Nat} {H : Heap} {K : AV → Heap → Prop} : WCl envE 63 xs lim H K = wPu envE 63 (mapO (frz H deep) xs) H K := WCl_pure e63 rfl
theorem e71 : envE.fn 71 = some (.code fd71) := rfl
@[simp] theorem w71 {xs : List AV} {lim : Nat} {H : Heap} {K : AV → Heap → Prop} : WCl envE 71 xs lim H K = wPu envE 71 (mapO (frz H deep) xs) H K := WCl_pure e71 rfl
theorem e78 : envE.fn 78 = some (.code fd78) := rfl
@[simp] theorem w78 {xs : List AV} {lim : Nat} {H : Heap} {K : AV → Heap → Prop} : WCl envE 78 xs lim H K = wPu envE 78 (mapO (frz H deep) xs) H K := WCl_pure e78 rfl
theorem e79 : envE.fn 79 = some (.code fd79) := rfl
@[simp] theorem w79 {xs : List AV} {lim : Nat} {H : Heap} {K : AV → Heap → Prop} : WCl envE 79 xs lim H K = wPu envE 79 (mapO (frz H deep) xs) H K := WCl_pure e79 rfl
theorem e80 : envE.fn 80 = some (.code fd80) := rfl
@[simp] theorem w80 {xs : List AV} {lim : Nat} {H : Heap} {K : AV → Heap → Prop} : WCl envE 80 xs lim H K = wPu envE 80 (mapO (frz H deep) xs) H K := WCl_pure e80 rfl
theorem e81 : envE.fn 81 = some (.code fd81) := rfl
@[simp] theorem w81 {xs : List AV} {lim : Nat} {H : Heap} {K : AV → Heap → Prop} : WCl envE 81 xs lim H K = wPu envE 81 (mapO (frz H deep) xs) H K := WCl_pure e81 rfl
theorem e82 : envE.fn 82 = some (.code fd82) := rfl
@[simp] theorem w82 {xs : List AV} {lim : Nat} {H : Heap} {K : AV → Heap → Prop} : WCl envE 82 xs lim H K = wPu envE 82 (mapO (frz H deep) xs) H K := WCl_pure e82 rfl
theorem e83 : envE.fn 83 = some (.code fd83) := rfl
@[simp] theorem w83 {xs : List AV} {lim : Nat} {H : Heap} {K : AV → Heap → Prop} : WCl envE 83 xs lim H K = wPu envE 83 (mapO (frz H deep) xs) H K := WCl_pure e83 rfl
theorem e92 : envE.fn 92 = some (.code fd92) := rfl
@[simp] theorem w92 {xs : List AV} {lim : Nat} {H : Heap} {K : AV → Heap → Prop} : WCl envE 92 xs lim H K = wPu envE 92 (mapO (frz H deep) xs) H K := WCl_pure e92 rfl
theorem e93 : envE.fn 93 = some (.code fd93) := rfl
@[simp] theorem w93 {xs : List AV} {lim : Nat} {H : Heap} {K : AV → Heap → Prop} : WCl envE 93 xs lim H K = wPu envE 93 (mapO (frz H deep) xs) H K := WCl_pure e93 rfl
theorem e100 : envE.fn 100 = some (.code fd100) := rfl
@[simp] theorem w100 {xs : List AV} {lim : Nat} {H : Heap} {K : AV → Heap → Prop} : WCl envE 100 xs lim H K = wPu envE 100 (mapO (frz H deep) xs) H K := WCl_pure e100 rfl
theorem e101 : envE.fn 101 = some (.code fd101) := rfl
@[simp] theorem w101 {xs : List AV} {lim : Nat} {H : Heap} {K : AV → Heap → Prop} : WCl envE 101 xs lim H K = wPu envE 101 (mapO (frz H deep) xs) H K := WCl_pure e101 rfl
theorem e102 : envE.fn 102 = some (.code fd102) := rfl
theorem e103 : envE.fn 103 = some (.code fd103) := rfl
theorem e111 : envE.fn 111 = some (.code fd111) := rfl
@[simp] theorem w111 {xs : List AV} {lim : Nat} {H : Heap} {K : AV → Heap → Prop} : WCl envE 111 xs lim H K = wPu envE 111 (mapO (frz H deep) xs) H K := WCl_pure e111 rfl
theorem e126 : envE.fn 126 = some (.code fd126) := rfl
@[simp] theorem w126 {xs : List AV} {lim : Nat} {H : Heap} {K : AV → Heap → Prop} : WCl envE 126 xs lim H K = wPu envE 126 (mapO (frz H deep) xs) H K := WCl_pure e126 rfl
theorem e43 : envE.fn 43 = some (.code fd43) := rfl
@[simp] theorem w43 {xs : List AV} {lim : Nat} {H : Heap} {K : AV → Heap → Prop} : WCl envE 43 xs lim H K = wPu envE 43 (mapO (frz H deep) xs) H K := WCl_pure e43 rfl
theorem e44 : envE.fn 44 = some (.code fd44) := rfl
@[simp] theorem w44 {xs : List AV} {lim : Nat} {H : Heap} {K : AV → Heap → Prop} : WCl envE 44 xs lim H K = wPu envE 44 (mapO (frz H deep) xs) H K := WCl_pure e44 rfl
theorem e45 : envE.fn 45 = some (.code fd45) := rfl
@[simp] theorem w45 {xs : List AV} {lim : Nat} {H : Heap} {K : AV → Heap → Prop} : WCl envE 45 xs lim H K = wPu envE 45 (mapO (frz H deep) xs) H K := WCl_pure e45 rfl
theorem e73 : envE.fn 73 = some (.code fd73) := rfl
@[simp] theorem w73 {xs : List AV} {lim : Nat} {H : Heap} {K : AV → Heap → Prop} : WCl envE 73 xs lim H K = wPu envE 73 (mapO (frz H deep) xs) H K := WCl_pure e73 rfl
theorem e89 : envE.fn 89 = some (.code fd89) := rfl
@[simp] theorem w89 {xs : List AV} {lim : Nat} {H : Heap} {K : AV → Heap → Prop} : WCl envE 89 xs lim H K = wPu envE 89 (mapO (frz H deep) xs) H K := WCl_pure e89 rfl
theorem e96 : envE.fn 96 = some (.code fd96) := rfl
@[simp] theorem w96 {xs : List AV} {lim : Nat} {H : Heap} {K : AV → Heap → Prop} : WCl envE 96 xs lim H K = wPu envE 96 (mapO (frz H deep) xs) H K := WCl_pure e96 rfl
theorem e13 : envE.fn 13 = some (.code fd13) := rfl
theorem e16 : envE.fn 16 = some (.code fd16) := rfl
theorem e28 : envE.fn 28 = some (.code fd28) := rfl
@[simp] theorem w28 {xs : List AV} {lim : Nat} {H : Heap} {K : AV → Heap → Prop} : WCl envE 28 xs lim H K = wPu envE 28 (mapO (frz H deep) xs) H K := WCl_pure e28 rfl
theorem e29 : envE.fn 29 = some (.code fd29) := rfl
@[simp] theorem w29 {xs : List AV} {lim : Nat} {H : Heap} {K : AV → Heap → Prop} : WCl envE 29 xs lim H K = wPu envE 29 (mapO (frz H deep) xs) H K := WCl_pure e29 rfl
theorem e31 : envE.fn 31 = some (.code fd31) := rfl
theorem e50 : envE.fn 50 = some (.code fd50) := rfl
theorem e61 : envE.fn 61 = some (.code fd61) := rfl
@[simp] theorem w61 {xs : List AV} {lim : Nat} {H : Heap} {K : AV → Heap → Prop} : WCl envE 61 xs lim H K = wPu envE 61 (mapO (frz H deep) xs) H K := WCl_pure e61 rfl
theorem e62 : envE.fn 62 = some (.code fd62) := rfl
@[simp] theorem w62 {xs : List AV} {lim : Nat} {H : Heap} {K : AV → Heap → Prop} : WCl envE 62 xs lim H K = wPu envE 62 (mapO (frz H deep) xs) H K := WCl_pure e62 rfl
theorem e64 : envE.fn 64 = some (.code fd64) := rfl
theorem e69 : envE.fn 69 = some (.code fd69) := rfl
@[simp] theorem w69 {xs : List AV} {lim : Nat} {H : Heap} {K : AV → Heap → Prop} : WCl envE 69 xs lim H K = wPu envE 69 (mapO (frz H deep) xs) H K := WCl_pure e69 rfl
theorem e70 : envE.fn 70 = some (.code fd70) := rfl
@[simp] theorem w70 {xs : List AV} {lim : Nat} {H : Heap} {K : AV → Heap → Prop} : WCl envE 70 xs lim H K = wPu envE 70 (mapO (frz H deep) xs) H K := WCl_pure e70 rfl
theorem e74 : envE.fn 74 = some (.code fd74) := rfl
@[simp] theorem w74 {xs : List AV} {lim : Nat} {H : Heap} {K : AV → Heap → Prop} : WCl envE 74 xs lim H K = wPu envE 74 (mapO (frz H deep) xs) H K := WCl_pure e74 rfl
theorem e77 : envE.fn 77 = some (.code fd77) := rfl
@[simp] theorem w77 {xs : List AV} {lim : Nat} {H : Heap} {K : AV → Heap → Prop} : WCl envE 77 xs lim H K = wPu envE 77 (mapO (frz H deep) xs) H K := WCl_pure e77 rfl
theorem e85 : envE.fn 85 = some (.code fd85) := rfl
theorem e88 : envE.fn 88 = some (.code fd88) := rfl
theorem e97 : envE.fn 97 = some (.code fd97) := rfl
@[simp] theorem w97 {xs : List AV} {lim : Nat} {H : Heap} {K : AV → Heap → Prop} : WCl envE 97 xs lim H K = wPu envE 97 (mapO (frz H deep) xs) H K := WCl_pure e97 rfl
theorem e98 : envE.fn 98 = some (.code fd98) := rfl
@[simp] theorem w98 {xs : List AV} {lim : Nat} {H : Heap} {K : AV → Heap → Prop} : WCl envE 98 xs lim H K = wPu envE 98 (mapO (frz H deep) xs) H K := WCl_pure e98 rfl
theorem e106 : envE.fn 106 = some (.code fd106) := rfl
@[simp] theorem w106 {xs : List AV} {lim : Nat} {H : Heap} {K : AV → Heap → Prop} : WCl envE 106 xs lim H K = wPu envE 106 (mapO (frz H deep) xs) H K := WCl_pure e106 rfl
theorem e107 : envE.fn 107 = some (.code fd107) := rfl
theorem e108 : envE.fn 108 = some (.code fd108) := rfl
@[simp] theorem w108 {xs : List AV} {lim : Nat} {H : Heap} {K : AV → Heap → Prop} : WCl envE 108 xs lim H K = wPu envE 108 (mapO (frz H deep) xs) H K := WCl_pure e108 rfl
theorem e109 : envE.fn 109 = some (.code fd109) := rfl
@[simp] theorem w109 {xs : List AV} {lim : Nat} {H : Heap} {K : AV → Heap → Prop} : WCl envE 109 xs lim H K = wPu envE 109 (mapO (frz H deep) xs) H K := WCl_pure e109 rfl
theorem e110 : envE.fn 110 = some (.code fd110) := rfl
@[simp] theorem w110 {xs : List AV} {lim : Nat} {H : Heap} {K : AV → Heap → Prop} : WCl envE 110 xs lim H K = wPu envE 110 (mapO (frz H deep) xs) H K := WCl_pure e110 rfl
theorem e123 : envE.fn 123 = some (.code fd123) := rfl
@[simp] theorem w123 {xs : List AV} {lim : Nat} {H : Heap} {K : AV → Heap → Prop} : WCl envE 123 xs lim H K = wPu envE 123 (mapO (frz H deep) xs) H K := WCl_pure e123 rfl
theorem e124 : envE.fn 124 = some (.code fd124) := rfl
@[simp] theorem w124 {xs : List AV} {lim : Nat} {H : Heap} {K : AV → Heap → Prop} : WCl envE 124 xs lim H K = wPu envE 124 (mapO (frz H deep) xs) H K := WCl_pure e124 rfl
theorem e125 : envE.fn 125 = some (.code fd125) := rfl
@[simp] theorem w125 {xs : List AV} {lim : Nat} {H : Heap} {K : AV → Heap → Prop} : WCl envE 125 xs lim H K = wPu envE 125 (mapO (frz H deep) xs) H K := WCl_pure e125 rfl
theorem e128 : envE.fn 128 = some (.code fd128) := rfl
@[simp] theorem w128 {xs : List AV} {lim : Nat} {H : Heap} {K : AV → Heap → Prop} : WCl envE 128 xs lim H K = wPu envE 128 (mapO (frz H deep) xs) H K := WCl_pure e128 rfl
theorem e129 : envE.fn 129 = some (.code fd129) := rfl
theorem e130 : envE.fn 130 = some (.code fd130) := rfl
@[simp] theorem w130 {xs : List AV} {lim : Nat} {H : Heap} {K : AV → Heap → Prop} : WCl envE 130 xs lim H K = wPu envE 130 (mapO (frz H deep) xs) H K := WCl_pure e130 rfl
theorem e131 : envE.fn 131 = some (.code fd131) := rfl
@[simp] theorem w131 {xs : List AV} {lim : Nat} {H : Heap} {K : AV → Heap → Prop} : WCl envE 131 xs lim H K = wPu envE 131 (mapO (frz H deep) xs) H K := WCl_pure e131 rfl
theorem e132 : envE.fn 132 = some (.code fd132) := rfl
@[simp] theorem w132 {xs : List AV} {lim : Nat} {H : Heap} {K : AV → Heap → Prop} : WCl envE 132 xs lim H K = wPu envE 132 (mapO (frz H deep) xs) H K := WCl_pure e132 rfl
theorem e133 : envE.fn 133 = some (.code fd133) := rfl
theorem e134 : envE.fn 134 = some (.code fd134) := rfl
theorem e141 : envE.fn 141 = some (.code fd141) := rfl
@[simp] theorem w141 {xs : List AV} {lim : Nat} {H : Heap} {K : AV → Heap → Prop} : WCl envE 141 xs lim H K = wPu envE 141 (mapO (frz H deep) xs) H K := WCl_pure e141 rfl
theorem e143 : envE.fn 143 = some (.code fd143) := rfl
@[simp] theorem w143 {xs : List AV} {lim : Nat} {H : Heap} {K : AV → Heap → Prop} : WCl envE 143 xs lim H K = wPu envE 143 (mapO (frz H deep) xs) H K := WCl_pure e143 rfl
theorem e144 : envE.fn 144 = some (.code fd144) := rfl
@[simp] theorem w144 {xs : List AV} {lim : Nat} {H : Heap} {K : AV → Heap → Prop} : WCl envE 144 xs lim H K = wPu envE 144 (mapO (frz H deep) xs) H K := WCl_pure e144 rfl
theorem e145 : envE.fn 145 = some (.code fd145) := rfl
@[simp] theorem w145 {xs : List AV} {lim : Nat} {H : Heap} {K : AV → Heap → Prop} : WCl envE 145 xs lim H K = wPu envE 145 (mapO (frz H deep) xs) H K := WCl_pure e145 rfl
theorem e146 : envE.fn 146 = some (.code fd146) := rfl
theorem e148 : envE.fn 148 = some (.code fd148) := rfl
@[simp] theorem w148 {xs : List AV} {lim : Nat} {H : Heap} {K : AV → Heap → Prop} : WCl envE 148 xs lim H K = wPu envE 148 (mapO (frz H deep) xs) H K := WCl_pure e148 rfl
theorem e149 : envE.fn 149 = some (.code fd149) := rfl
theorem e150 : envE.fn 150 = some (.code fd150) := rfl
theorem e151 : envE.fn 151 = some (.code fd151) := rfl
theorem e14 : envE.fn 14 = some (.code fd14) := rfl
theorem e15 : envE.fn 15 = some (.code fd15) := rfl
theorem e18 : envE.fn 18 = some (.code fd18) := rfl
theorem e19 : envE.fn 19 = some (.code fd19) := rfl
theorem e24 : envE.fn 24 = some (.code fd24) := rfl
theorem e38 : envE.fn 38 = some (.code fd38) := rfl
@[simp] theorem w38 {xs : List AV} {lim : Nat} {H : Heap} {K : AV → Heap → Prop} : WCl envE 38 xs lim H K = wPu envE 38 (mapO (frz H deep) xs) H K := WCl_pure e38 rfl
theorem e39 : envE.fn 39 = some (.code fd39) := rfl
theorem e49 : envE.fn 49 = some (.code fd49) := rfl
theorem e52 : envE.fn 52 = some (.code fd52) := rfl
theorem e55 : envE.fn 55 = some (.code fd55) := rfl
theorem e57 : envE.fn 57 = some (.code fd57) := rfl
@[simp] theorem w57 {xs : List AV} {lim : Nat} {H : Heap} {K : AV → Heap → Prop} : WCl envE 57 xs lim H K = wPu envE 57 (mapO (frz H deep) xs) H K := WCl_pure e57 rfl
theorem e60 : envE.fn 60 = some (.code fd60) := rfl
theorem e86 : envE.fn 86 = some (.code fd86) := rfl
theorem e9 : envE.fn 9 = some (.code fd9) := rfl
@[simp] theorem w9 {xs : List AV} {lim : Nat} {H : Heap} {K : AV → Heap → Prop} : WCl envE 9 xs lim H K = wPu envE 9 (mapO (frz H deep) xs) H K := WCl_pure e9 rfl
theorem e10 : envE.fn 10 = some (.code fd10) := rfl
@[simp] theorem w10 {xs : List AV} {lim : Nat} {H : Heap} {K : AV → Heap → Prop} : WCl envE 10 xs lim H K = wPu envE 10 (mapO (frz H deep) xs) H K := WCl_pure e10 rfl
theorem e11 : envE.fn 11 = some (.code fd11) := rfl
@[simp] theorem w11 {xs : List AV} {lim : Nat} {H : Heap} {K : AV → Heap → Prop} : WCl envE 11 xs lim H K = wPu envE 11 (mapO (frz H deep) xs) H K := WCl_pure e11 rfl
theorem e41 : envE.fn 41 = some (.code fd41) := rfl
theorem e42 : envE.fn 42 = some (.code fd42) := rfl
@[simp] theorem w42 {xs : List AV} {lim : Nat} {H : Heap} {K : AV → Heap → Prop} : WCl envE 42 xs lim H K = wPu envE 42 (mapO (frz H deep) xs) H K := WCl_pure e42 rfl
theorem e20 : envE.fn 20 = some (.code fd20) := rfl
@[simp] theorem w20 {xs : List AV} {lim : Nat} {H : Heap} {K : AV → Heap → Prop} : WCl envE 20 xs lim H K = wPu envE 20 (mapO (frz H deep) xs) H K := WCl_pure e20 rfl
theorem e23 : envE.fn 23 = some (.code fd23) := rfl
@[simp] theorem w23 {xs : List AV} {lim : Nat} {H : Heap} {K : AV → Heap → Prop} : WCl envE 23 xs lim H K = wPu envE 23 (mapO (frz H deep) xs) H K := WCl_pure e23 rfl
theorem e58 : envE.fn 58 = some (.code fd58) := rfl
@[simp] theorem w58 {xs : List AV} {lim : Nat} {H : Heap} {K : AV → Heap → Prop} : WCl envE 58 xs lim H K = wPu envE 58 (mapO (frz H deep) xs) H K := WCl_pure e58 rfl
theorem e76 : envE.fn 76 = some (.code fd76) := rfl
end Go.Proofs.YtflgfiieaoeknaaA

/- Each function where it stands; calls of pure ones by rewriting. Printed by wip/tools/e1.py. No statement about the program is proved here. -/
import Derived.Test.YtgbnbgkldeifkaaGreatE0
import Derived.Test.YtgbnbgkldeifkaaGreatA32
namespace Go.Proofs.YtgbnbgkldeifkaaGreatA
open Go
set_option maxRecDepth 1000000
theorem e25:envE.fn 25=some (.code fd25):=rfl
@[simp] theorem w25 {xs:List AV} {lim:Nat} {H:Heap} {K:AV→Heap→Prop}:WCl envE 25 xs lim H K=wPu envE 25 (mapO (frz H deep) xs) H K:=WCl_pure e25 rfl
theorem e71:envE.fn 71=some (.code fd71):=rfl
@[simp] theorem w71 {xs:List AV} {lim:Nat} {H:Heap} {K:AV→Heap→Prop}:WCl envE 71 xs lim H K=wPu envE 71 (mapO (frz H deep) xs) H K:=WCl_pure e71 rfl
theorem e76:envE.fn 76=some (.code fd76):=rfl
@[simp] theorem w76 {xs:List AV} {lim:Nat} {H:Heap} {K:AV→Heap→Prop}:WCl envE 76 xs lim H K=wPu envE 76 (mapO (frz H deep) xs) H K:=WCl_pure e76 rfl
theorem e75:envE.fn 75=some (.code fd75):=rfl
@[simp] theorem w75 {xs:List AV} {lim:Nat} {H:Heap} {K:AV→Heap→Prop}:WCl envE 75 xs lim H K=wPu envE 75 (mapO (frz H deep) xs) H K:=WCl_pure e75 rfl
theorem e116:envE.fn 116=some (.code fd116):=rfl
@[simp] theorem w116 {xs:List AV} {lim:Nat} {H:Heap} {K:AV→Heap→Prop}:WCl envE 116 xs lim H K=wPu envE 116 (mapO (frz H deep) xs) H K:=WCl_pure e116 rfl
theorem e117:envE.fn 117=some (.code fd117):=rfl
@[simp] theorem w117 {xs:List AV} {lim:Nat} {H:Heap} {K:AV→Heap→Prop}:WCl envE 117 xs lim H K=wPu envE 117 (mapO (frz H deep) xs) H K:=WCl_pure e117 rfl
theorem e118:envE.fn 118=some (.code fd118):=rfl
@[simp] theorem w118 {xs:List AV} {lim:Nat} {H:Heap} {K:AV→Heap→Prop}:WCl envE 118 xs lim H K=wPu envE 118 (mapO (frz H deep) xs) H K:=WCl_pure e118 rfl
theorem e119:envE.fn 119=some (.code fd119):=rfl
@[simp] theorem w119 {xs:List AV} {lim:Nat} {H:Heap} {K:AV→Heap→Prop}:WCl envE 119 xs lim H K=wPu envE 119 (mapO (frz H deep) xs) H K:=WCl_pure e119 rfl
theorem e121:envE.fn 121=some (.code fd121):=rfl
@[simp] theorem w121 {xs:List AV} {lim:Nat} {H:Heap} {K:AV→Heap→Prop}:WCl envE 121 xs lim H K=wPu envE 121 (mapO (frz H deep) xs) H K:=WCl_pure e121 rfl
theorem e124:envE.fn 124=some (.code fd124):=rfl
@[simp] theorem w124 {xs:List AV} {lim:Nat} {H:Heap} {K:AV→Heap→Prop}:WCl envE 124 xs lim H K=wPu envE 124 (mapO (frz H deep) xs) H K:=WCl_pure e124 rfl
theorem e125:envE.fn 125=some (.code fd125):=rfl
@[simp] theorem w125 {xs:List AV} {lim:Nat} {H:Heap} {K:AV→Heap→Prop}:WCl envE 125 xs lim H K=wPu envE 125 (mapO (frz H deep) xs) H K:=WCl_pure e125 rfl
theorem e153:envE.fn 153=some (.code fd153):=rfl
@[simp] theorem w153 {xs:List AV} {lim:Nat} {H:Heap} {K:AV→Heap→Prop}:WCl envE 153 xs lim H K=wPu envE 153 (mapO (frz H deep) xs) H K:=WCl_pure e153 rfl
theorem e154:envE.fn 154=some (.code fd154):=rfl
@[simp] theorem w154 {xs:List AV} {lim:Nat} {H:Heap} {K:AV→Heap→Prop}:WCl envE 154 xs lim H K=wPu envE 154 (mapO (frz H deep) xs) H K:=WCl_pure e154 rfl
theorem e155:envE.fn 155=some (.code fd155):=rfl
theorem e156:envE.fn 156=some (.code fd156):=rfl
theorem e159:envE.fn 159=some (.code fd159):=rfl
@[simp] theorem w159 {xs:List AV} {lim:Nat} {H:Heap} {K:AV→Heap→Prop}:WCl envE 159 xs lim H K=wPu envE 159 (mapO (frz H deep) xs) H K:=WCl_pure e159 rfl
theorem e192:envE.fn 192=some (.code fd192):=rfl
@[simp] theorem w192 {xs:List AV} {lim:Nat} {H:Heap} {K:AV→Heap→Prop}:WCl envE 192 xs lim H K=wPu envE 192 (mapO (frz H deep) xs) H K:=WCl_pure e192 rfl
theorem e70:envE.fn 70=some (.code fd70):=rfl
@[simp] theorem w70 {xs:List AV} {lim:Nat} {H:Heap} {K:AV→Heap→Prop}:WCl envE 70 xs lim H K=wPu envE 70 (mapO (frz H deep) xs) H K:=WCl_pure e70 rfl
theorem e29:envE.fn 29=some (.code fd29):=rfl
@[simp] theorem w29 {xs:List AV} {lim:Nat} {H:Heap} {K:AV→Heap→Prop}:WCl envE 29 xs lim H K=wPu envE 29 (mapO (frz H deep) xs) H K:=WCl_pure e29 rfl
theorem e78:envE.fn 78=some (.code fd78):=rfl
@[simp] theorem w78 {xs:List AV} {lim:Nat} {H:Heap} {K:AV→Heap→Prop}:WCl envE 78 xs lim H K=wPu envE 78 (mapO (frz H deep) xs) H K:=WCl_pure e78 rfl
theorem e112:envE.fn 112=some (.code fd112):=rfl
theorem e15:envE.fn 15=some (.code fd15):=rfl
theorem e65:envE.fn 65=some (.code fd65):=rfl
theorem e110:envE.fn 110=some (.code fd110):=rfl
@[simp] theorem w110 {xs:List AV} {lim:Nat} {H:Heap} {K:AV→Heap→Prop}:WCl envE 110 xs lim H K=wPu envE 110 (mapO (frz H deep) xs) H K:=WCl_pure e110 rfl
theorem e113:envE.fn 113=some (.code fd113):=rfl
@[simp] theorem w113 {xs:List AV} {lim:Nat} {H:Heap} {K:AV→Heap→Prop}:WCl envE 113 xs lim H K=wPu envE 113 (mapO (frz H deep) xs) H K:=WCl_pure e113 rfl
theorem e114:envE.fn 114=some (.code fd114):=rfl
theorem e148:envE.fn 148=some (.code fd148):=rfl
@[simp] theorem w148 {xs:List AV} {lim:Nat} {H:Heap} {K:AV→Heap→Prop}:WCl envE 148 xs lim H K=wPu envE 148 (mapO (frz H deep) xs) H K:=WCl_pure e148 rfl
theorem e149:envE.fn 149=some (.code fd149):=rfl
@[simp] theorem w149 {xs:List AV} {lim:Nat} {H:Heap} {K:AV→Heap→Prop}:WCl envE 149 xs lim H K=wPu envE 149 (mapO (frz H deep) xs) H K:=WCl_pure e149 rfl
theorem e151:envE.fn 151=some (.code fd151):=rfl
@[simp] theorem w151 {xs:List AV} {lim:Nat} {H:Heap} {K:AV→Heap→Prop}:WCl envE 151 xs lim H K=wPu envE 151 (mapO (frz H deep) xs) H K:=WCl_pure e151 rfl
theorem e152:envE.fn 152=some (.code fd152):=rfl
theorem e216:envE.fn 216=some (.code fd216):=rfl
@[simp] theorem w216 {xs:List AV} {lim:Nat} {H:Heap} {K:AV→Heap→Prop}:WCl envE 216 xs lim H K=wPu envE 216 (mapO (frz H deep) xs) H K:=WCl_pure e216 rfl
theorem e191:envE.fn 191=some (.code fd191):=rfl
@[simp] theorem w191 {xs:List AV} {lim:Nat} {H:Heap} {K:AV→Heap→Prop}:WCl envE 191 xs lim H K=wPu envE 191 (mapO (frz H deep) xs) H K:=WCl_pure e191 rfl
theorem e185:envE.fn 185=some (.code fd185):=rfl
@[simp] theorem w185 {xs:List AV} {lim:Nat} {H:Heap} {K:AV→Heap→Prop}:WCl envE 185 xs lim H K=wPu envE 185 (mapO (frz H deep) xs) H K:=WCl_pure e185 rfl
theorem e186:envE.fn 186=some (.code fd186):=rfl
@[simp] theorem w186 {xs:List AV} {lim:Nat} {H:Heap} {K:AV→Heap→Prop}:WCl envE 186 xs lim H K=wPu envE 186 (mapO (frz H deep) xs) H K:=WCl_pure e186 rfl
theorem e187:envE.fn 187=some (.code fd187):=rfl
@[simp] theorem w187 {xs:List AV} {lim:Nat} {H:Heap} {K:AV→Heap→Prop}:WCl envE 187 xs lim H K=wPu envE 187 (mapO (frz H deep) xs) H K:=WCl_pure e187 rfl
theorem e188:envE.fn 188=some (.code fd188):=rfl
@[simp] theorem w188 {xs:List AV} {lim:Nat} {H:Heap} {K:AV→Heap→Prop}:WCl envE 188 xs lim H K=wPu envE 188 (mapO (frz H deep) xs) H K:=WCl_pure e188 rfl
theorem e189:envE.fn 189=some (.code fd189):=rfl
theorem e190:envE.fn 190=some (.code fd190):=rfl
@[simp] theorem w190 {xs:List AV} {lim:Nat} {H:Heap} {K:AV→Heap→Prop}:WCl envE 190 xs lim H K=wPu envE 190 (mapO (frz H deep) xs) H K:=WCl_pure e190 rfl
theorem e230:envE.fn 230=some (.code fd230):=rfl
@[simp] theorem w230 {xs:List AV} {lim:Nat} {H:Heap} {K:AV→Heap→Prop}:WCl envE 230 xs lim H K=wPu envE 230 (mapO (frz H deep) xs) H K:=WCl_pure e230 rfl
theorem e217:envE.fn 217=some (.code fd217):=rfl
@[simp] theorem w217 {xs:List AV} {lim:Nat} {H:Heap} {K:AV→Heap→Prop}:WCl envE 217 xs lim H K=wPu envE 217 (mapO (frz H deep) xs) H K:=WCl_pure e217 rfl
theorem e218:envE.fn 218=some (.code fd218):=rfl
theorem e219:envE.fn 219=some (.code fd219):=rfl
theorem e214:envE.fn 214=some (.code fd214):=rfl
@[simp] theorem w214 {xs:List AV} {lim:Nat} {H:Heap} {K:AV→Heap→Prop}:WCl envE 214 xs lim H K=wPu envE 214 (mapO (frz H deep) xs) H K:=WCl_pure e214 rfl
theorem e215:envE.fn 215=some (.code fd215):=rfl
@[simp] theorem w215 {xs:List AV} {lim:Nat} {H:Heap} {K:AV→Heap→Prop}:WCl envE 215 xs lim H K=wPu envE 215 (mapO (frz H deep) xs) H K:=WCl_pure e215 rfl
theorem e231:envE.fn 231=some (.code fd231):=rfl
@[simp] theorem w231 {xs:List AV} {lim:Nat} {H:Heap} {K:AV→Heap→Prop}:WCl envE 231 xs lim H K=wPu envE 231 (mapO (frz H deep) xs) H K:=WCl_pure e231 rfl
theorem e232:envE.fn 232=some (.code fd232):=rfl
@[simp] theorem w232 {xs:List AV} {lim:Nat} {H:Heap} {K:AV→Heap→Prop}:WCl envE 232 xs lim H K=wPu envE 232 (mapO (frz H deep) xs) H K:=WCl_pure e232 rfl
theorem e233:envE.fn 233=some (.code fd233):=rfl
theorem e229:envE.fn 229=some (.code fd229):=rfl
@[simp] theorem w229 {xs:List AV} {lim:Nat} {H:Heap} {K:AV→Heap→Prop}:WCl envE 229 xs lim H K=wPu envE 229 (mapO (frz H deep) xs) H K:=WCl_pure e229 rfl
theorem e237:envE.fn 237=some (.code fd237):=rfl
theorem e238:envE.fn 238=some (.code fd238):=rfl
theorem e240:envE.fn 240=some (.code fd240):=rfl
theorem e16:envE.fn 16=some (.code fd16):=rfl
theorem e23:envE.fn 23=some (.code fd23):=rfl
theorem e24:envE.fn 24=some (.code fd24):=rfl
theorem e64:envE.fn 64=some (.code fd64):=rfl
theorem e72:envE.fn 72=some (.code fd72):=rfl
theorem e66:envE.fn 66=some (.code fd66):=rfl
theorem e74:envE.fn 74=some (.code fd74):=rfl
@[simp] theorem w74 {xs:List AV} {lim:Nat} {H:Heap} {K:AV→Heap→Prop}:WCl envE 74 xs lim H K=wPu envE 74 (mapO (frz H deep) xs) H K:=WCl_pure e74 rfl
theorem e26:envE.fn 26=some (.code fd26):=rfl
theorem e28:envE.fn 28=some (.code fd28):=rfl
theorem e30:envE.fn 30=some (.code fd30):=rfl
theorem e32:envE.fn 32=some (.code fd32):=rfl
theorem e77:envE.fn 77=some (.code fd77):=rfl
theorem e79:envE.fn 79=some (.code fd79):=rfl
@[simp] theorem w79 {xs:List AV} {lim:Nat} {H:Heap} {K:AV→Heap→Prop}:WCl envE 79 xs lim H K=wPu envE 79 (mapO (frz H deep) xs) H K:=WCl_pure e79 rfl
theorem e80:envE.fn 80=some (.code fd80):=rfl
theorem e82:envE.fn 82=some (.code fd82):=rfl
theorem e83:envE.fn 83=some (.code fd83):=rfl
theorem e84:envE.fn 84=some (.code fd84):=rfl
theorem e85:envE.fn 85=some (.code fd85):=rfl
@[simp] theorem w85 {xs:List AV} {lim:Nat} {H:Heap} {K:AV→Heap→Prop}:WCl envE 85 xs lim H K=wPu envE 85 (mapO (frz H deep) xs) H K:=WCl_pure e85 rfl
theorem e126:envE.fn 126=some (.code fd126):=rfl
theorem e127:envE.fn 127=some (.code fd127):=rfl
@[simp] theorem w127 {xs:List AV} {lim:Nat} {H:Heap} {K:AV→Heap→Prop}:WCl envE 127 xs lim H K=wPu envE 127 (mapO (frz H deep) xs) H K:=WCl_pure e127 rfl
theorem e128:envE.fn 128=some (.code fd128):=rfl
theorem e131:envE.fn 131=some (.code fd131):=rfl
theorem e132:envE.fn 132=some (.code fd132):=rfl
theorem e133:envE.fn 133=some (.code fd133):=rfl
@[simp] theorem w133 {xs:List AV} {lim:Nat} {H:Heap} {K:AV→Heap→Prop}:WCl envE 133 xs lim H K=wPu envE 133 (mapO (frz H deep) xs) H K:=WCl_pure e133 rfl
theorem e147:envE.fn 147=some (.code fd147):=rfl
theorem e166:envE.fn 166=some (.code fd166):=rfl
@[simp] theorem w166 {xs:List AV} {lim:Nat} {H:Heap} {K:AV→Heap→Prop}:WCl envE 166 xs lim H K=wPu envE 166 (mapO (frz H deep) xs) H K:=WCl_pure e166 rfl
theorem e171:envE.fn 171=some (.code fd171):=rfl
@[simp] theorem w171 {xs:List AV} {lim:Nat} {H:Heap} {K:AV→Heap→Prop}:WCl envE 171 xs lim H K=wPu envE 171 (mapO (frz H deep) xs) H K:=WCl_pure e171 rfl
theorem e199:envE.fn 199=some (.code fd199):=rfl
@[simp] theorem w199 {xs:List AV} {lim:Nat} {H:Heap} {K:AV→Heap→Prop}:WCl envE 199 xs lim H K=wPu envE 199 (mapO (frz H deep) xs) H K:=WCl_pure e199 rfl
theorem e258:envE.fn 258=some (.code fd258):=rfl
@[simp] theorem w258 {xs:List AV} {lim:Nat} {H:Heap} {K:AV→Heap→Prop}:WCl envE 258 xs lim H K=wPu envE 258 (mapO (frz H deep) xs) H K:=WCl_pure e258 rfl
theorem e259:envE.fn 259=some (.code fd259):=rfl
@[simp] theorem w259 {xs:List AV} {lim:Nat} {H:Heap} {K:AV→Heap→Prop}:WCl envE 259 xs lim H K=wPu envE 259 (mapO (frz H deep) xs) H K:=WCl_pure e259 rfl
theorem e260:envE.fn 260=some (.code fd260):=rfl
theorem e261:envE.fn 261=some (.code fd261):=rfl
theorem e262:envE.fn 262=some (.code fd262):=rfl
theorem e44:envE.fn 44=some (.code fd44):=rfl
@[simp] theorem w44 {xs:List AV} {lim:Nat} {H:Heap} {K:AV→Heap→Prop}:WCl envE 44 xs lim H K=wPu envE 44 (mapO (frz H deep) xs) H K:=WCl_pure e44 rfl
theorem e45:envE.fn 45=some (.code fd45):=rfl
theorem e46:envE.fn 46=some (.code fd46):=rfl
theorem e47:envE.fn 47=some (.code fd47):=rfl
theorem e49:envE.fn 49=some (.code fd49):=rfl
theorem e51:envE.fn 51=some (.code fd51):=rfl
theorem e52:envE.fn 52=some (.code fd52):=rfl
theorem e97:envE.fn 97=some (.code fd97):=rfl
@[simp] theorem w97 {xs:List AV} {lim:Nat} {H:Heap} {K:AV→Heap→Prop}:WCl envE 97 xs lim H K=wPu envE 97 (mapO (frz H deep) xs) H K:=WCl_pure e97 rfl
theorem e98:envE.fn 98=some (.code fd98):=rfl
theorem e99:envE.fn 99=some (.code fd99):=rfl
theorem e100:envE.fn 100=some (.code fd100):=rfl
theorem e101:envE.fn 101=some (.code fd101):=rfl
theorem e103:envE.fn 103=some (.code fd103):=rfl
theorem e104:envE.fn 104=some (.code fd104):=rfl
theorem e105:envE.fn 105=some (.code fd105):=rfl
theorem e106:envE.fn 106=some (.code fd106):=rfl
theorem e144:envE.fn 144=some (.code fd144):=rfl
theorem e145:envE.fn 145=some (.code fd145):=rfl
theorem e175:envE.fn 175=some (.code fd175):=rfl
theorem e203:envE.fn 203=some (.code fd203):=rfl
theorem e263:envE.fn 263=some (.code fd263):=rfl
@[simp] theorem w263 {xs:List AV} {lim:Nat} {H:Heap} {K:AV→Heap→Prop}:WCl envE 263 xs lim H K=wPu envE 263 (mapO (frz H deep) xs) H K:=WCl_pure e263 rfl
theorem e264:envE.fn 264=some (.code fd264):=rfl
@[simp] theorem w264 {xs:List AV} {lim:Nat} {H:Heap} {K:AV→Heap→Prop}:WCl envE 264 xs lim H K=wPu envE 264 (mapO (frz H deep) xs) H K:=WCl_pure e264 rfl
theorem e265:envE.fn 265=some (.code fd265):=rfl
theorem e266:envE.fn 266=some (.code fd266):=rfl
theorem e267:envE.fn 267=some (.code fd267):=rfl
theorem e102:envE.fn 102=some (.code fd102):=rfl
theorem e146:envE.fn 146=some (.code fd146):=rfl
theorem e176:envE.fn 176=some (.code fd176):=rfl
theorem e182:envE.fn 182=some (.code fd182):=rfl
@[simp] theorem w182 {xs:List AV} {lim:Nat} {H:Heap} {K:AV→Heap→Prop}:WCl envE 182 xs lim H K=wPu envE 182 (mapO (frz H deep) xs) H K:=WCl_pure e182 rfl
theorem e130:envE.fn 130=some (.code fd130):=rfl
@[simp] theorem w130 {xs:List AV} {lim:Nat} {H:Heap} {K:AV→Heap→Prop}:WCl envE 130 xs lim H K=wPu envE 130 (mapO (frz H deep) xs) H K:=WCl_pure e130 rfl
theorem e170:envE.fn 170=some (.code fd170):=rfl
@[simp] theorem w170 {xs:List AV} {lim:Nat} {H:Heap} {K:AV→Heap→Prop}:WCl envE 170 xs lim H K=wPu envE 170 (mapO (frz H deep) xs) H K:=WCl_pure e170 rfl
theorem e10:envE.fn 10=some (.code fd10):=rfl
theorem e43:envE.fn 43=some (.code fd43):=rfl
@[simp] theorem w43 {xs:List AV} {lim:Nat} {H:Heap} {K:AV→Heap→Prop}:WCl envE 43 xs lim H K=wPu envE 43 (mapO (frz H deep) xs) H K:=WCl_pure e43 rfl
end Go.Proofs.YtgbnbgkldeifkaaGreatA

/- slices.Sort at texts, laid by the kit's own tool. No statement about the program is proved here. -/
/-
  DERIVED:THE SHELF's CONTRACTS AT THIS DUMP,IN PLAIN WORDS (tools/lay-plain.mjs out of 'YtgbnbgkldeifkaaGreatSh.lean',which tools/lay-shelf.mjs wrote):THE SAME DECLARATIONS UNDER THE SAME NAMES:'import','namespace','open','def','theorem' AND NOTHING ELSE:no command of the shelf's:FOR A HAND-IN. Each laying:the table of numbers ('.._ren') and one theorem,a field a fact of the dump's own or the kernel's comparison;each contract:ONE APPLICATION.
-/
import Derived.Shelf.Sort.Plain
import Derived.Shelf.Slices.In.SortNone2
import Derived.Test.YtgbnbgkldeifkaaGreatProg
namespace Go.Proofs
open Go.Shelf
def Tryz.lays190_ren:Go.Shelf.Ren:=⟨fun | 190=>81 | 125=>130 | 258=>129 | 128=>169 | 129=>170 | 302=>160 | 303=>161 | 304=>162 | 305=>163 | 306=>164 | 307=>165 | 308=>166 | 309=>167 | 310=>168 | 333=>194 | 329=>195 | 330=>196 | 334=>197 | 335=>198 | 336=>199 | 344=>221 | n=>n,fun | 31=>70 | 9=>9 | 3=>3 | 46=>180 | 0=>0 | 51=>231 | 53=>59 | 4=>4 | 183=>224 | 182=>223 | 131=>187 | 5=>5 | 218=>245 | 222=>249 | 228=>265 | 229=>266 | n=>n,fun | n=>n⟩
theorem Tryz.lays190:Go.Proofs.Lays.n190 Tryz.prog Tryz.lays190_ren:={
  mixed:=by kernel_rfl
  f125:=Tryz.func130.trans (congrArg some (by kernel_rfl))
  f128:=Tryz.func169.trans (congrArg some (by kernel_rfl))
  f129:=Tryz.func170.trans (congrArg some (by kernel_rfl))
  f190:=Tryz.func81.trans (congrArg some (by kernel_rfl))
  f258:=Tryz.func129.trans (congrArg some (by kernel_rfl))
  f302:=Tryz.func160.trans (congrArg some (by kernel_rfl))
  f303:=Tryz.func161.trans (congrArg some (by kernel_rfl))
  f304:=Tryz.func162.trans (congrArg some (by kernel_rfl))
  f305:=Tryz.func163.trans (congrArg some (by kernel_rfl))
  f306:=Tryz.func164.trans (congrArg some (by kernel_rfl))
  f307:=Tryz.func165.trans (congrArg some (by kernel_rfl))
  f308:=Tryz.func166.trans (congrArg some (by kernel_rfl))
  f309:=Tryz.func167.trans (congrArg some (by kernel_rfl))
  f310:=Tryz.func168.trans (congrArg some (by kernel_rfl))
  f329:=Tryz.func195.trans (congrArg some (by kernel_rfl))
  f330:=Tryz.func196.trans (congrArg some (by kernel_rfl))
  f333:=Tryz.func194.trans (congrArg some (by kernel_rfl))
  f334:=Tryz.func197.trans (congrArg some (by kernel_rfl))
  f335:=Tryz.func198.trans (congrArg some (by kernel_rfl))
  f336:=Tryz.func199.trans (congrArg some (by kernel_rfl))
  f344:=Tryz.func221.trans (congrArg some (by kernel_rfl))
  t0:=Tryz.underlying0
  a0:=Tryz.isAgg0
  z0:=Tryz.sizeOf0
  v0:=Tryz.zeroValue0
  t3:=Tryz.underlying3
  a3:=Tryz.isAgg3
  z3:=Tryz.sizeOf3
  v3:=Tryz.zeroValue3
  t4:=Tryz.underlying4
  a4:=Tryz.isAgg4
  z4:=Tryz.sizeOf4
  v4:=Tryz.zeroValue4
  t5:=Tryz.underlying5
  a5:=Tryz.isAgg5
  z5:=Tryz.sizeOf5
  v5:=Tryz.zeroValue5
  t9:=Tryz.underlying9
  a9:=Tryz.isAgg9
  z9:=Tryz.sizeOf9
  v9:=Tryz.zeroValue9
  t31:=Tryz.underlying70
  a31:=Tryz.isAgg70
  z31:=Tryz.sizeOf70
  v31:=Tryz.zeroValue70
  t46:=Tryz.underlying180
  a46:=Tryz.isAgg180
  z46:=Tryz.sizeOf180
  v46:=Tryz.zeroValue180
  t51:=Tryz.underlying231
  a51:=Tryz.isAgg231
  z51:=Tryz.sizeOf231
  v51:=Tryz.zeroValue231
  t53:=Tryz.underlying59
  a53:=Tryz.isAgg59
  z53:=Tryz.sizeOf59
  v53:=Tryz.zeroValue59
  t131:=Tryz.underlying187
  a131:=Tryz.isAgg187
  z131:=Tryz.sizeOf187
  v131:=Tryz.zeroValue187
  t182:=Tryz.underlying223
  a182:=Tryz.isAgg223
  z182:=Tryz.sizeOf223
  v182:=Tryz.zeroValue223
  t183:=Tryz.underlying224
  a183:=Tryz.isAgg224
  z183:=Tryz.sizeOf224
  v183:=Tryz.zeroValue224
  t218:=Tryz.underlying245
  a218:=Tryz.isAgg245
  z218:=Tryz.sizeOf245
  v218:=Tryz.zeroValue245
  t222:=Tryz.underlying249
  a222:=Tryz.isAgg249
  z222:=Tryz.sizeOf249
  v222:=Tryz.zeroValue249
  t228:=Tryz.underlying265
  a228:=Tryz.isAgg265
  z228:=Tryz.sizeOf265
  v228:=Tryz.zeroValue265
  t229:=Tryz.underlying266
  a229:=Tryz.isAgg266
  z229:=Tryz.sizeOf266
  v229:=Tryz.zeroValue266 }
end Go.Proofs

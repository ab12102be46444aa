/- The small code of some of the functions, as wip/tools/gen.py printed it; each is that of the program. No statement about the program is proved here. -/
import Derived.Test.YtgbnbgkldeifkaaGreatProg
import Derived.Test.YtgbnbgkldeifkaaGreatB3
namespace Go.Proofs.YtgbnbgkldeifkaaGreatA
open Go
set_option maxRecDepth 1000000

/-- (*starling/fold.Cursor).Due -/
def t33 : List (List Nat) := []
def b33 : AC := (.seq (.region [⟨some 2, none, .mv (.cst .nilsl)⟩]) (.seq (.seq (.region [⟨some 3, none, .mv (.tmp 0)⟩, ⟨some 4, none, .eqptr false (.tmp 3) (.cst (.ptr none))⟩]) (.cond (.tmp 4) (.seq (.region [⟨some 2, none, .mv (.cst .nilsl)⟩]) .ret) .skip)) (.seq (.region [⟨some 5, none, .mv (.tmp 0)⟩, ⟨some 6, none, .nilchk (.tmp 5)⟩, ⟨some 7, none, .fieldAddr 1 (.tmp 6)⟩, ⟨some 8, none, .load none (.tmp 7)⟩, ⟨some 9, none, .call (.fn (.cst (.fn (.func 87) [] []))) [.tmp 8]⟩, ⟨some 10, none, .call (.fn (.cst (.fn (.func 86) [] []))) [.tmp 9]⟩, ⟨some 2, none, .mv (.tmp 10)⟩]) .ret)))
def fd33 : AFun := ⟨.heap, 11, [.tmp 2], b33⟩
theorem ok33 : CodeOK Tryz.prog 33 fd33 := ⟨Tryz.f33, _, t33, ⟨Tryz.func33, by kernel_rfl, by kernel_rfl⟩, rfl, by kernel_rfl, rfl, by kernel_rfl⟩

/-- slices.Values[starling/fold.pile,string] -/
def t87 : List (List Nat) := []
def b87 : AC := (.seq (.region [⟨some 1, none, .box (.tmp 0)⟩, ⟨some 2, none, .mv (.cst .nilfn)⟩]) (.seq (.region [⟨some 3, none, .mkFn (.func 135) [] [.tmp 1]⟩, ⟨some 2, none, .mv (.tmp 3)⟩]) .ret))
def fd87 : AFun := ⟨.heap, 4, [.tmp 2], b87⟩
theorem ok87 : CodeOK Tryz.prog 87 fd87 := ⟨Tryz.f87, _, t87, ⟨Tryz.func87, by kernel_rfl, by kernel_rfl⟩, rfl, by kernel_rfl, rfl, by kernel_rfl⟩

/-- starling/fold.New -/
def t26 : List (List Nat) := []
def b26 : AC := (.seq (.region [⟨some 2, none, .mv (.cst (.ptr none))⟩]) (.seq (.seq (.region [⟨some 3, none, .mv (.tmp 0)⟩, ⟨some 4, none, .bin .lss (.tmp 3) (.cst (.int .i64 0))⟩, ⟨some 5, none, .mv (.tmp 4)⟩, ⟨some 6, some (5, false), .mv (.tmp 0)⟩, ⟨some 7, some (5, false), .bin .geq (.tmp 6) (.cst (.int .i64 16))⟩, ⟨some 8, none, .pick (.tmp 5) (.cst (.bool true)) (.tmp 7)⟩]) (.cond (.tmp 8) (.seq (.region [⟨some 2, none, .mv (.cst (.ptr none))⟩]) .ret) .skip)) (.seq (.region [⟨some 9, none, .mv (.tmp 0)⟩, ⟨some 10, none, .build [.int .i64 0, .nilsl, .str []] [(0, (1, .tmp 9))]⟩, ⟨some 11, none, .box (.tmp 10)⟩, ⟨some 2, none, .mv (.tmp 11)⟩]) .ret)))
def fd26 : AFun := ⟨.heap, 12, [.tmp 2], b26⟩
theorem ok26 : CodeOK Tryz.prog 26 fd26 := ⟨Tryz.f26, _, t26, ⟨Tryz.func26, by kernel_rfl, by kernel_rfl⟩, rfl, by kernel_rfl, rfl, by kernel_rfl⟩

/-- starling/starlinglaw19.key -/
def t27 : List (List Nat) := []
def b27 : AC := (.seq (.region [⟨some 2, none, .mv (.cst (.str []))⟩]) (.seq (.region [⟨some 3, none, .mv (.tmp 0)⟩, ⟨some 4, none, .conv .u64 (.tmp 3)⟩, ⟨some 5, none, .bin .rem (.tmp 4) (.cst (.int .u64 26))⟩, ⟨some 6, none, .conv .i64 (.tmp 5)⟩, ⟨some 7, none, .bin .add (.cst (.int .i64 97)) (.tmp 6)⟩, ⟨some 8, none, .conv .u8 (.tmp 7)⟩, ⟨some 9, none, .mv (.tmp 0)⟩, ⟨some 10, none, .conv .u64 (.tmp 9)⟩, ⟨some 11, none, .bin .quo (.tmp 10) (.cst (.int .u64 26))⟩, ⟨some 12, none, .bin .rem (.tmp 11) (.cst (.int .u64 26))⟩, ⟨some 13, none, .conv .i64 (.tmp 12)⟩, ⟨some 14, none, .bin .add (.cst (.int .i64 97)) (.tmp 13)⟩, ⟨some 15, none, .conv .u8 (.tmp 14)⟩, ⟨some 16, none, .buildSlice 1 2 [.int .u8 0, .int .u8 0] [(0, (1, .tmp 8)), (1, (1, .tmp 15))]⟩, ⟨some 17, none, .ofBytes (.tmp 16)⟩, ⟨some 2, none, .mv (.tmp 17)⟩]) .ret))
def fd27 : AFun := ⟨.pure, 18, [.tmp 2], b27⟩
theorem ok27 : CodeOK Tryz.prog 27 fd27 := ⟨Tryz.f27, _, t27, ⟨Tryz.func27, by kernel_rfl, by kernel_rfl⟩, rfl, by kernel_rfl, rfl, by kernel_rfl⟩

/-- (*starling/fold.Cursor).Next -/
def t28 : List (List Nat) := []
def b28 : AC := (.seq (.region [⟨some 4, none, .alloc [.str [], .int .i64 0, .int .i64 0, .int .i64 0, .int .i64 0, .int .i64 0, .int .i64 0, .int .i64 0, .int .i64 0, .nilsl]⟩, ⟨some 5, none, .mv (.cst (.bool false))⟩]) (.seq (.seq (.region [⟨some 8, none, .mv (.tmp 0)⟩, ⟨some 9, none, .eqptr false (.tmp 8) (.cst (.ptr none))⟩, ⟨some 10, none, .mv (.tmp 9)⟩, ⟨some 11, some (10, false), .mv (.tmp 1)⟩, ⟨some 12, some (10, false), .eqptr false (.tmp 11) (.cst (.ptr none))⟩, ⟨some 13, none, .pick (.tmp 10) (.cst (.bool true)) (.tmp 12)⟩]) (.cond (.tmp 13) (.seq (.region [⟨some 14, none, .build [.str [], .int .i64 0, .int .i64 0, .int .i64 0, .int .i64 0, .int .i64 0, .int .i64 0, .int .i64 0, .int .i64 0, .nilsl] []⟩, ⟨none, none, .store 10 (.tmp 4) (.tmp 14)⟩, ⟨some 5, none, .mv (.cst (.bool false))⟩]) .ret) .skip)) (.seq (.region [⟨some 16, none, .mv (.tmp 0)⟩, ⟨some 17, none, .mv (.tmp 1)⟩, ⟨some 18, none, .mv (.tmp 0)⟩, ⟨some 19, none, .nilchk (.tmp 18)⟩, ⟨some 20, none, .fieldAddr 0 (.tmp 19)⟩, ⟨some 21, none, .load none (.tmp 20)⟩, ⟨some 22, none, .call (.fn (.cst (.fn (.func 31) [] []))) [.tmp 17, .tmp 21]⟩, ⟨some 23, none, .call (.fn (.cst (.fn (.func 77) [] []))) [.tmp 16, .tmp 22]⟩, ⟨some 15, none, .mv (.tmp 23)⟩, ⟨some 24, none, .extract (.tmp 15) 0⟩, ⟨some 25, none, .extract (.tmp 15) 1⟩, ⟨some 6, none, .mv (.tmp 24)⟩, ⟨some 7, none, .mv (.tmp 25)⟩]) (.seq (.seq (.region [⟨some 26, none, .mv (.tmp 7)⟩, ⟨some 27, none, .un .not (.tmp 26)⟩]) (.cond (.tmp 27) (.seq (.region [⟨some 28, none, .build [.str [], .int .i64 0, .int .i64 0, .int .i64 0, .int .i64 0, .int .i64 0, .int .i64 0, .int .i64 0, .int .i64 0, .nilsl] []⟩, ⟨none, none, .store 10 (.tmp 4) (.tmp 28)⟩, ⟨some 5, none, .mv (.cst (.bool false))⟩]) .ret) .skip)) (.seq (.region [⟨some 29, none, .mv (.tmp 6)⟩, ⟨some 30, none, .mv (.tmp 1)⟩, ⟨some 31, none, .mv (.tmp 6)⟩, ⟨some 32, none, .call (.fn (.cst (.fn (.func 23) [] []))) [.tmp 30, .tmp 31]⟩, ⟨some 33, none, .build [.str [], .int .i64 0, .int .i64 0, .int .i64 0, .int .i64 0, .int .i64 0, .int .i64 0, .int .i64 0, .int .i64 0, .nilsl] [(0, (1, .tmp 29)), (1, (9, .tmp 32))]⟩, ⟨none, none, .store 10 (.tmp 4) (.tmp 33)⟩, ⟨some 5, none, .mv (.cst (.bool true))⟩]) .ret)))))
def fd28 : AFun := ⟨.heap, 34, [.cell 4 (some 10), .tmp 5], b28⟩
theorem ok28 : CodeOK Tryz.prog 28 fd28 := ⟨Tryz.f28, _, t28, ⟨Tryz.func28, by kernel_rfl, by kernel_rfl⟩, rfl, by kernel_rfl, rfl, by kernel_rfl⟩

/-- (*starling/fold.Cursor).Back -/
def t30 : List (List Nat) := [[]]
def b30 : AC := (.seq (.region [⟨some 4, none, .mv (.cst (.bool false))⟩]) (.seq (.seq (.draw [] [(false, ⟨some 5, none, .mv (.tmp 0)⟩), (false, ⟨some 6, none, .eqptr false (.tmp 5) (.cst (.ptr none))⟩), (false, ⟨some 7, none, .mv (.tmp 6)⟩), (false, ⟨some 8, some (7, false), .mv (.tmp 1)⟩), (false, ⟨some 9, some (7, false), .call (.fn (.cst (.fn (.func 29) [] []))) [.tmp 8]⟩), (false, ⟨some 10, some (7, false), .mv (.tmp 0)⟩), (false, ⟨some 11, some (7, false), .nilchk (.tmp 10)⟩), (false, ⟨some 12, some (7, false), .fieldAddr 0 (.tmp 11)⟩), (false, ⟨some 13, some (7, false), .load none (.tmp 12)⟩), (false, ⟨some 14, some (7, false), .bin .neq (.tmp 9) (.tmp 13)⟩), (false, ⟨some 15, none, .pick (.tmp 7) (.cst (.bool true)) (.tmp 14)⟩), (false, ⟨some 16, none, .mv (.tmp 15)⟩), (false, ⟨some 17, some (16, false), .mv (.tmp 1)⟩), (false, ⟨some 18, some (16, false), .mv (.tmp 0)⟩), (false, ⟨some 19, some (16, false), .nilchk (.tmp 18)⟩), (false, ⟨some 20, some (16, false), .fieldAddr 2 (.tmp 19)⟩), (true, ⟨some 21, some (16, false), .load none (.tmp 20)⟩), (false, ⟨some 22, some (16, false), .bin .gtr (.tmp 17) (.tmp 21)⟩), (false, ⟨some 23, none, .pick (.tmp 16) (.cst (.bool true)) (.tmp 22)⟩)]) (.cond (.tmp 23) (.seq (.region [⟨some 4, none, .mv (.cst (.bool false))⟩]) .ret) .skip)) (.seq (.seq (.region [⟨some 24, none, .mv (.tmp 0)⟩, ⟨some 25, none, .nilchk (.tmp 24)⟩, ⟨some 26, none, .fieldAddr 1 (.tmp 25)⟩, ⟨some 27, none, .load none (.tmp 26)⟩, ⟨some 28, none, .mv (.tmp 1)⟩, ⟨some 29, none, .call (.fn (.cst (.fn (.func 79) [] []))) [.tmp 27, .tmp 28]⟩, ⟨some 30, none, .un .not (.tmp 29)⟩]) (.cond (.tmp 30) (.region [⟨some 31, none, .mv (.tmp 0)⟩, ⟨some 32, none, .nilchk (.tmp 31)⟩, ⟨some 33, none, .fieldAddr 1 (.tmp 32)⟩, ⟨some 34, none, .mkIface 143 (.tmp 33)⟩, ⟨some 35, none, .mv (.tmp 1)⟩, ⟨some 36, none, .mkIface 9 (.tmp 35)⟩, ⟨some 37, none, .call (.fn (.cst (.fn (.func 80) [] []))) [.tmp 34, .tmp 36]⟩]) .skip)) (.seq (.region [⟨some 4, none, .mv (.cst (.bool true))⟩]) .ret))))
def fd30 : AFun := ⟨.heap, 38, [.tmp 4], b30⟩
theorem ok30 : CodeOK Tryz.prog 30 fd30 := ⟨Tryz.f30, _, t30, ⟨Tryz.func30, by kernel_rfl, by kernel_rfl⟩, rfl, by kernel_rfl, rfl, by kernel_rfl⟩

/-- (*starling/fold.Cursor).Over -/
def t32 : List (List Nat) := []
def b32 : AC := (.seq (.region [⟨some 4, none, .mv (.cst (.bool false))⟩]) (.seq (.seq (.region [⟨some 8, none, .mv (.tmp 0)⟩, ⟨some 9, none, .eqptr false (.tmp 8) (.cst (.ptr none))⟩, ⟨some 10, none, .mv (.tmp 9)⟩, ⟨some 11, some (10, false), .mv (.tmp 1)⟩, ⟨some 12, some (10, false), .eqptr false (.tmp 11) (.cst (.ptr none))⟩, ⟨some 13, none, .pick (.tmp 10) (.cst (.bool true)) (.tmp 12)⟩]) (.cond (.tmp 13) (.seq (.region [⟨some 4, none, .mv (.cst (.bool true))⟩]) .ret) .skip)) (.seq (.region [⟨some 14, none, .mv (.tmp 1)⟩, ⟨some 15, none, .mv (.tmp 0)⟩, ⟨some 16, none, .nilchk (.tmp 15)⟩, ⟨some 17, none, .fieldAddr 0 (.tmp 16)⟩, ⟨some 18, none, .load none (.tmp 17)⟩, ⟨some 19, none, .call (.fn (.cst (.fn (.func 31) [] []))) [.tmp 14, .tmp 18]⟩, ⟨some 5, none, .alloc [.nilsl]⟩, ⟨none, none, .store 1 (.tmp 5) (.tmp 19)⟩]) (.seq (.region [⟨some 21, none, .mv (.tmp 0)⟩, ⟨some 22, none, .load none (.tmp 5)⟩, ⟨some 23, none, .call (.fn (.cst (.fn (.func 82) [] []))) [.tmp 21, .tmp 22]⟩, ⟨some 20, none, .mv (.tmp 23)⟩, ⟨some 24, none, .extract (.tmp 20) 0⟩, ⟨some 25, none, .extract (.tmp 20) 1⟩, ⟨some 6, none, .mv (.tmp 24)⟩, ⟨some 7, none, .mv (.tmp 25)⟩]) (.seq (.region [⟨some 26, none, .mv (.tmp 7)⟩, ⟨some 27, none, .un .not (.tmp 26)⟩, ⟨some 28, none, .mv (.tmp 27)⟩, ⟨some 29, some (28, true), .mv (.tmp 0)⟩, ⟨some 30, some (28, true), .nilchk (.tmp 29)⟩, ⟨some 31, some (28, true), .fieldAddr 1 (.tmp 30)⟩, ⟨some 32, some (28, true), .load none (.tmp 31)⟩, ⟨some 33, some (28, true), .mkFn (.func 84) [] [.tmp 5]⟩, ⟨some 34, some (28, true), .call (.fn (.cst (.fn (.func 83) [] []))) [.tmp 32, .tmp 33]⟩, ⟨some 35, some (28, true), .un .not (.tmp 34)⟩, ⟨some 36, none, .pick (.tmp 28) (.tmp 35) (.cst (.bool false))⟩, ⟨some 4, none, .mv (.tmp 36)⟩]) .ret)))))
def fd32 : AFun := ⟨.heap, 37, [.tmp 4], b32⟩
theorem ok32 : CodeOK Tryz.prog 32 fd32 := ⟨Tryz.f32, _, t32, ⟨Tryz.func32, by kernel_rfl, by kernel_rfl⟩, rfl, by kernel_rfl, rfl, by kernel_rfl⟩

/-- (*starling/fold.Cursor).key -/
def t77 : List (List Nat) := [[4, 5, 6, 7, 10, 11, 12, 13, 14, 15, 16, 17, 18, 19, 20, 21, 22, 23, 24, 25, 26, 27, 28]]
def lp77_0 : AC := (.seq (.seq (.region [⟨some 10, none, .mv (.tmp 0)⟩, ⟨some 11, none, .nilchk (.tmp 10)⟩, ⟨some 12, none, .fieldAddr 1 (.tmp 11)⟩, ⟨some 13, none, .load none (.tmp 12)⟩, ⟨some 14, none, .lenSl (.tmp 13)⟩, ⟨some 15, none, .bin .gtr (.tmp 14) (.cst (.int .i64 0))⟩]) (.cond (.tmp 15) .skip (.exit 0))) (.block 1 (.seq (.region [⟨some 17, none, .mv (.tmp 0)⟩, ⟨some 18, none, .nilchk (.tmp 17)⟩, ⟨some 19, none, .fieldAddr 1 (.tmp 18)⟩, ⟨some 20, none, .mkIface 143 (.tmp 19)⟩, ⟨some 21, none, .call (.fn (.cst (.fn (.func 126) [] []))) [.tmp 20]⟩, ⟨some 22, none, .assertTo (.tmp 21) 9 (some (.str []))⟩, ⟨some 16, none, .mv (.tmp 22)⟩, ⟨some 23, none, .extract (.tmp 16) 0⟩, ⟨some 24, none, .extract (.tmp 16) 1⟩, ⟨some 6, none, .mv (.tmp 23)⟩, ⟨some 7, none, .mv (.tmp 24)⟩]) (.seq (.region [⟨some 25, none, .mv (.tmp 1)⟩, ⟨some 26, none, .mv (.tmp 6)⟩, ⟨some 27, none, .call (.fn (.cst (.fn (.func 85) [] []))) [.tmp 25, .tmp 26]⟩]) (.cond (.tmp 27) (.seq (.region [⟨some 28, none, .mv (.tmp 6)⟩, ⟨some 4, none, .mv (.tmp 28)⟩, ⟨some 5, none, .mv (.cst (.bool true))⟩]) .ret) .skip)))))
def b77 : AC := (.seq (.region [⟨some 4, none, .mv (.cst (.str []))⟩, ⟨some 5, none, .mv (.cst (.bool false))⟩]) (.seq (.block 0 (.loop (.seq (.kill [4, 5, 6, 7, 10, 11, 12, 13, 14, 15, 16, 17, 18, 19, 20, 21, 22, 23, 24, 25, 26, 27, 28]) lp77_0))) (.seq (.region [⟨some 30, none, .mv (.tmp 0)⟩, ⟨some 31, none, .mv (.tmp 1)⟩, ⟨some 32, none, .call (.fn (.cst (.fn (.func 82) [] []))) [.tmp 30, .tmp 31]⟩, ⟨some 29, none, .mv (.tmp 32)⟩, ⟨some 33, none, .extract (.tmp 29) 0⟩, ⟨some 34, none, .extract (.tmp 29) 1⟩, ⟨some 8, none, .mv (.tmp 33)⟩, ⟨some 9, none, .mv (.tmp 34)⟩]) (.seq (.seq (.region [⟨some 35, none, .mv (.tmp 9)⟩]) (.cond (.tmp 35) (.region [⟨some 36, none, .mv (.tmp 0)⟩, ⟨some 37, none, .mv (.tmp 8)⟩, ⟨some 38, none, .nilchk (.tmp 36)⟩, ⟨some 39, none, .fieldAddr 2 (.tmp 38)⟩, ⟨none, none, .store 1 (.tmp 39) (.tmp 37)⟩]) .skip)) (.seq (.region [⟨some 40, none, .mv (.tmp 8)⟩, ⟨some 41, none, .mv (.tmp 9)⟩, ⟨some 4, none, .mv (.tmp 40)⟩, ⟨some 5, none, .mv (.tmp 41)⟩]) .ret)))))
def fd77 : AFun := ⟨.heap, 42, [.tmp 4, .tmp 5], b77⟩
theorem ok77 : CodeOK Tryz.prog 77 fd77 := ⟨Tryz.f77, _, t77, ⟨Tryz.func77, by kernel_rfl, by kernel_rfl⟩, rfl, by kernel_rfl, rfl, by kernel_rfl⟩

/-- slices.Contains[starling/fold.pile,string] -/
def t79 : List (List Nat) := []
def b79 : AC := (.seq (.region [⟨some 4, none, .mv (.cst (.bool false))⟩]) (.seq (.region [⟨some 5, none, .mv (.tmp 0)⟩, ⟨some 6, none, .mv (.tmp 1)⟩, ⟨some 7, none, .call (.fn (.cst (.fn (.func 127) [] []))) [.tmp 5, .tmp 6]⟩, ⟨some 8, none, .bin .geq (.tmp 7) (.cst (.int .i64 0))⟩, ⟨some 4, none, .mv (.tmp 8)⟩]) .ret))
def fd79 : AFun := ⟨.pure, 9, [.tmp 4], b79⟩
theorem ok79 : CodeOK Tryz.prog 79 fd79 := ⟨Tryz.f79, _, t79, ⟨Tryz.func79, by kernel_rfl, by kernel_rfl⟩, rfl, by kernel_rfl, rfl, by kernel_rfl⟩

/-- container/heap.Push -/
def t80 : List (List Nat) := []
def b80 : AC := (.seq (.region [⟨some 4, none, .mv (.tmp 0)⟩, ⟨some 5, none, .mv (.tmp 1)⟩, ⟨some 6, none, .call (.meth (.tmp 4) "Push") [.tmp 5]⟩]) (.region [⟨some 7, none, .mv (.tmp 0)⟩, ⟨some 8, none, .mv (.tmp 0)⟩, ⟨some 9, none, .call (.meth (.tmp 8) "Len") []⟩, ⟨some 10, none, .bin .sub (.tmp 9) (.cst (.int .i64 1))⟩, ⟨some 11, none, .call (.fn (.cst (.fn (.func 128) [] []))) [.tmp 7, .tmp 10]⟩]))
def fd80 : AFun := ⟨.heap, 12, [], b80⟩
theorem ok80 : CodeOK Tryz.prog 80 fd80 := ⟨Tryz.f80, _, t80, ⟨Tryz.func80, by kernel_rfl, by kernel_rfl⟩, rfl, by kernel_rfl, rfl, by kernel_rfl⟩

/-- (*starling/fold.Cursor).ahead -/
def t82 : List (List Nat) := []
def b82 : AC := (.seq (.region [⟨some 4, none, .mv (.cst (.str []))⟩, ⟨some 5, none, .mv (.cst (.bool false))⟩]) (.seq (.region [⟨some 9, none, .mv (.tmp 1)⟩, ⟨some 10, none, .mv (.tmp 0)⟩, ⟨some 11, none, .nilchk (.tmp 10)⟩, ⟨some 12, none, .fieldAddr 2 (.tmp 11)⟩, ⟨some 13, none, .load none (.tmp 12)⟩, ⟨some 14, none, .call (.fn (.cst (.fn (.func 131) [] []))) [.tmp 9, .tmp 13]⟩, ⟨some 8, none, .mv (.tmp 14)⟩, ⟨some 15, none, .extract (.tmp 8) 0⟩, ⟨some 16, none, .extract (.tmp 8) 1⟩, ⟨some 6, none, .mv (.tmp 15)⟩, ⟨some 7, none, .mv (.tmp 16)⟩]) (.seq (.seq (.region [⟨some 17, none, .mv (.tmp 7)⟩]) (.cond (.tmp 17) (.region [⟨some 18, none, .mv (.tmp 6)⟩, ⟨some 19, none, .bin .add (.tmp 18) (.cst (.int .i64 1))⟩, ⟨some 6, none, .mv (.tmp 19)⟩]) .skip)) (.seq (.seq (.region [⟨some 20, none, .mv (.tmp 6)⟩, ⟨some 21, none, .mv (.tmp 1)⟩, ⟨some 22, none, .lenSl (.tmp 21)⟩, ⟨some 23, none, .bin .eql (.tmp 20) (.tmp 22)⟩]) (.cond (.tmp 23) (.seq (.region [⟨some 4, none, .mv (.cst (.str []))⟩, ⟨some 5, none, .mv (.cst (.bool false))⟩]) .ret) .skip)) (.seq (.region [⟨some 24, none, .mv (.tmp 1)⟩, ⟨some 25, none, .mv (.tmp 6)⟩, ⟨some 26, none, .idxSl 1 (.tmp 24) (.tmp 25)⟩, ⟨some 27, none, .load none (.tmp 26)⟩, ⟨some 4, none, .mv (.tmp 27)⟩, ⟨some 5, none, .mv (.cst (.bool true))⟩]) .ret)))))
def fd82 : AFun := ⟨.heap, 28, [.tmp 4, .tmp 5], b82⟩
theorem ok82 : CodeOK Tryz.prog 82 fd82 := ⟨Tryz.f82, _, t82, ⟨Tryz.func82, by kernel_rfl, by kernel_rfl⟩, rfl, by kernel_rfl, rfl, by kernel_rfl⟩

/-- slices.ContainsFunc[starling/fold.pile,string] -/
def t83 : List (List Nat) := []
def b83 : AC := (.seq (.region [⟨some 4, none, .mv (.cst (.bool false))⟩]) (.seq (.region [⟨some 5, none, .mv (.tmp 0)⟩, ⟨some 6, none, .mv (.tmp 1)⟩, ⟨some 7, none, .call (.fn (.cst (.fn (.func 132) [] []))) [.tmp 5, .tmp 6]⟩, ⟨some 8, none, .bin .geq (.tmp 7) (.cst (.int .i64 0))⟩, ⟨some 4, none, .mv (.tmp 8)⟩]) .ret))
def fd83 : AFun := ⟨.heap, 9, [.tmp 4], b83⟩
theorem ok83 : CodeOK Tryz.prog 83 fd83 := ⟨Tryz.f83, _, t83, ⟨Tryz.func83, by kernel_rfl, by kernel_rfl⟩, rfl, by kernel_rfl, rfl, by kernel_rfl⟩

/-- (*starling/fold.Cursor).Over$1 -/
def t84 : List (List Nat) := []
def b84 : AC := (.seq (.region [⟨some 3, none, .mv (.cst (.bool false))⟩]) (.seq (.region [⟨some 4, none, .load none (.tmp 1)⟩, ⟨some 5, none, .mv (.tmp 0)⟩, ⟨some 6, none, .call (.fn (.cst (.fn (.func 85) [] []))) [.tmp 4, .tmp 5]⟩, ⟨some 3, none, .mv (.tmp 6)⟩]) .ret))
def fd84 : AFun := ⟨.heap, 7, [.tmp 3], b84⟩
theorem ok84 : CodeOK Tryz.prog 84 fd84 := ⟨Tryz.f84, _, t84, ⟨Tryz.func84, by kernel_rfl, by kernel_rfl⟩, rfl, by kernel_rfl, rfl, by kernel_rfl⟩

/-- slices.Contains[[]string,string] -/
def t85 : List (List Nat) := []
def b85 : AC := (.seq (.region [⟨some 4, none, .mv (.cst (.bool false))⟩]) (.seq (.region [⟨some 5, none, .mv (.tmp 0)⟩, ⟨some 6, none, .mv (.tmp 1)⟩, ⟨some 7, none, .call (.fn (.cst (.fn (.func 133) [] []))) [.tmp 5, .tmp 6]⟩, ⟨some 8, none, .bin .geq (.tmp 7) (.cst (.int .i64 0))⟩, ⟨some 4, none, .mv (.tmp 8)⟩]) .ret))
def fd85 : AFun := ⟨.pure, 9, [.tmp 4], b85⟩
theorem ok85 : CodeOK Tryz.prog 85 fd85 := ⟨Tryz.f85, _, t85, ⟨Tryz.func85, by kernel_rfl, by kernel_rfl⟩, rfl, by kernel_rfl, rfl, by kernel_rfl⟩

/-- container/heap.Pop -/
def t126 : List (List Nat) := []
def b126 : AC := (.seq (.region [⟨some 2, none, .mv (.cst .niliface)⟩]) (.seq (.region [⟨some 4, none, .mv (.tmp 0)⟩, ⟨some 5, none, .call (.meth (.tmp 4) "Len") []⟩, ⟨some 6, none, .bin .sub (.tmp 5) (.cst (.int .i64 1))⟩, ⟨some 3, none, .mv (.tmp 6)⟩]) (.seq (.region [⟨some 7, none, .mv (.tmp 0)⟩, ⟨some 8, none, .mv (.tmp 3)⟩, ⟨some 9, none, .call (.meth (.tmp 7) "Swap") [.cst (.int .i64 0), .tmp 8]⟩]) (.seq (.region [⟨some 10, none, .mv (.tmp 0)⟩, ⟨some 11, none, .mv (.tmp 3)⟩, ⟨some 12, none, .call (.fn (.cst (.fn (.func 147) [] []))) [.tmp 10, .cst (.int .i64 0), .tmp 11]⟩]) (.seq (.region [⟨some 13, none, .mv (.tmp 0)⟩, ⟨some 14, none, .call (.meth (.tmp 13) "Pop") []⟩, ⟨some 2, none, .mv (.tmp 14)⟩]) .ret)))))
def fd126 : AFun := ⟨.heap, 15, [.tmp 2], b126⟩
theorem ok126 : CodeOK Tryz.prog 126 fd126 := ⟨Tryz.f126, _, t126, ⟨Tryz.func126, by kernel_rfl, by kernel_rfl⟩, rfl, by kernel_rfl, rfl, by kernel_rfl⟩

/-- slices.Index[starling/fold.pile,string] -/
def t127 : List (List Nat) := [[4, 5, 6, 9, 10, 11, 12, 13, 14, 15, 16, 17, 18]]
def lp127_0 : AC := (.seq (.region [⟨some 9, none, .bin .lss (.tmp 8) (.tmp 7)⟩]) (.seq (.cond (.tmp 9) .skip (.exit 0)) (.seq (.block 1 (.seq (.region [⟨some 10, none, .mv (.tmp 8)⟩, ⟨some 5, none, .mv (.tmp 10)⟩]) (.seq (.region [⟨some 11, none, .mv (.tmp 1)⟩, ⟨some 12, none, .mv (.tmp 0)⟩, ⟨some 13, none, .mv (.tmp 5)⟩, ⟨some 14, none, .idxSl 1 (.tmp 12) (.tmp 13)⟩, ⟨some 15, none, .load none (.tmp 14)⟩, ⟨some 16, none, .bin .eql (.tmp 11) (.tmp 15)⟩]) (.cond (.tmp 16) (.seq (.region [⟨some 17, none, .mv (.tmp 5)⟩, ⟨some 4, none, .mv (.tmp 17)⟩]) .ret) .skip)))) (.region [⟨some 18, none, .bin .add (.tmp 8) (.cst (.int .i64 1))⟩, ⟨some 8, none, .mv (.tmp 18)⟩]))))
def b127 : AC := (.seq (.region [⟨some 4, none, .mv (.cst (.int .i64 0))⟩]) (.seq (.seq (.region [⟨some 6, none, .mv (.tmp 0)⟩, ⟨some 7, none, .lenSl (.tmp 6)⟩, ⟨some 8, none, .mv (.cst (.int .i64 0))⟩]) (.block 0 (.loop (.seq (.kill [4, 5, 6, 9, 10, 11, 12, 13, 14, 15, 16, 17, 18]) lp127_0)))) (.seq (.region [⟨some 4, none, .mv (.cst (.int .i64 (-1)))⟩]) .ret)))
def fd127 : AFun := ⟨.pure, 19, [.tmp 4], b127⟩
theorem ok127 : CodeOK Tryz.prog 127 fd127 := ⟨Tryz.f127, _, t127, ⟨Tryz.func127, by kernel_rfl, by kernel_rfl⟩, rfl, by kernel_rfl, rfl, by kernel_rfl⟩

/-- container/heap.up -/
def t128 : List (List Nat) := [[4, 5, 6, 7, 8, 9, 10, 11, 12, 13, 14, 15, 16, 17, 18, 19, 20, 21, 22]]
def lp128_0 : AC := (.block 1 (.seq (.region [⟨some 5, none, .mv (.tmp 1)⟩, ⟨some 6, none, .bin .sub (.tmp 5) (.cst (.int .i64 1))⟩, ⟨some 7, none, .bin .quo (.tmp 6) (.cst (.int .i64 2))⟩, ⟨some 4, none, .mv (.tmp 7)⟩]) (.seq (.seq (.region [⟨some 8, none, .mv (.tmp 4)⟩, ⟨some 9, none, .mv (.tmp 1)⟩, ⟨some 10, none, .bin .eql (.tmp 8) (.tmp 9)⟩, ⟨some 11, none, .mv (.tmp 10)⟩, ⟨some 12, some (11, false), .mv (.tmp 0)⟩, ⟨some 13, some (11, false), .mv (.tmp 1)⟩, ⟨some 14, some (11, false), .mv (.tmp 4)⟩, ⟨some 15, some (11, false), .call (.meth (.tmp 12) "Less") [.tmp 13, .tmp 14]⟩, ⟨some 16, some (11, false), .un .not (.tmp 15)⟩, ⟨some 17, none, .pick (.tmp 11) (.cst (.bool true)) (.tmp 16)⟩]) (.cond (.tmp 17) (.exit 0) .skip)) (.seq (.region [⟨some 18, none, .mv (.tmp 0)⟩, ⟨some 19, none, .mv (.tmp 4)⟩, ⟨some 20, none, .mv (.tmp 1)⟩, ⟨some 21, none, .call (.meth (.tmp 18) "Swap") [.tmp 19, .tmp 20]⟩]) (.region [⟨some 22, none, .mv (.tmp 4)⟩, ⟨some 1, none, .mv (.tmp 22)⟩])))))
def b128 : AC := (.block 0 (.loop (.seq (.kill [4, 5, 6, 7, 8, 9, 10, 11, 12, 13, 14, 15, 16, 17, 18, 19, 20, 21, 22]) lp128_0)))
def fd128 : AFun := ⟨.heap, 23, [], b128⟩
theorem ok128 : CodeOK Tryz.prog 128 fd128 := ⟨Tryz.f128, _, t128, ⟨Tryz.func128, by kernel_rfl, by kernel_rfl⟩, rfl, by kernel_rfl, rfl, by kernel_rfl⟩

/-- slices.BinarySearch[[]string,string] -/
def t131 : List (List Nat) := [[4, 5, 9, 10, 11, 12, 13, 14, 15, 16, 17, 18, 19, 20, 21, 22, 23, 24, 25, 26, 27, 28, 29, 30]]
def lp131_0 : AC := (.seq (.seq (.region [⟨some 13, none, .mv (.tmp 7)⟩, ⟨some 14, none, .mv (.tmp 8)⟩, ⟨some 15, none, .bin .lss (.tmp 13) (.tmp 14)⟩]) (.cond (.tmp 15) .skip (.exit 0))) (.block 1 (.seq (.region [⟨some 16, none, .mv (.tmp 7)⟩, ⟨some 17, none, .mv (.tmp 8)⟩, ⟨some 18, none, .bin .add (.tmp 16) (.tmp 17)⟩, ⟨some 19, none, .conv .u64 (.tmp 18)⟩, ⟨some 20, none, .bin .shr (.tmp 19) (.cst (.int .u64 1))⟩, ⟨some 21, none, .conv .i64 (.tmp 20)⟩, ⟨some 9, none, .mv (.tmp 21)⟩]) (.seq (.region [⟨some 22, none, .mv (.tmp 0)⟩, ⟨some 23, none, .mv (.tmp 9)⟩, ⟨some 24, none, .idxSl 1 (.tmp 22) (.tmp 23)⟩, ⟨some 25, none, .load none (.tmp 24)⟩, ⟨some 26, none, .mv (.tmp 1)⟩, ⟨some 27, none, .call (.fn (.cst (.fn (.func 166) [] []))) [.tmp 25, .tmp 26]⟩]) (.cond (.tmp 27) (.region [⟨some 28, none, .mv (.tmp 9)⟩, ⟨some 29, none, .bin .add (.tmp 28) (.cst (.int .i64 1))⟩, ⟨some 7, none, .mv (.tmp 29)⟩]) (.region [⟨some 30, none, .mv (.tmp 9)⟩, ⟨some 8, none, .mv (.tmp 30)⟩]))))))
def b131 : AC := (.seq (.region [⟨some 4, none, .mv (.cst (.int .i64 0))⟩, ⟨some 5, none, .mv (.cst (.bool false))⟩]) (.seq (.region [⟨some 10, none, .mv (.tmp 0)⟩, ⟨some 11, none, .lenSl (.tmp 10)⟩, ⟨some 6, none, .mv (.tmp 11)⟩]) (.seq (.region [⟨some 12, none, .mv (.tmp 6)⟩, ⟨some 7, none, .mv (.cst (.int .i64 0))⟩, ⟨some 8, none, .mv (.tmp 12)⟩]) (.seq (.block 0 (.loop (.seq (.kill [4, 5, 9, 10, 11, 12, 13, 14, 15, 16, 17, 18, 19, 20, 21, 22, 23, 24, 25, 26, 27, 28, 29, 30]) lp131_0))) (.seq (.region [⟨some 31, none, .mv (.tmp 7)⟩, ⟨some 32, none, .mv (.tmp 7)⟩, ⟨some 33, none, .mv (.tmp 6)⟩, ⟨some 34, none, .bin .lss (.tmp 32) (.tmp 33)⟩, ⟨some 35, none, .mv (.tmp 34)⟩, ⟨some 36, some (35, true), .mv (.tmp 0)⟩, ⟨some 37, some (35, true), .mv (.tmp 7)⟩, ⟨some 38, some (35, true), .idxSl 1 (.tmp 36) (.tmp 37)⟩, ⟨some 39, some (35, true), .load none (.tmp 38)⟩, ⟨some 40, some (35, true), .mv (.tmp 1)⟩, ⟨some 41, some (35, true), .bin .eql (.tmp 39) (.tmp 40)⟩, ⟨some 42, some (35, true), .mv (.tmp 41)⟩, ⟨some 43, some (42, false), .mv (.tmp 0)⟩, ⟨some 44, some (42, false), .mv (.tmp 7)⟩, ⟨some 45, some (42, false), .idxSl 1 (.tmp 43) (.tmp 44)⟩, ⟨some 46, some (42, false), .load none (.tmp 45)⟩, ⟨some 47, some (42, false), .call (.fn (.cst (.fn (.func 171) [] []))) [.tmp 46]⟩, ⟨some 48, some (42, false), .mv (.tmp 47)⟩, ⟨some 49, some (48, true), .mv (.tmp 1)⟩, ⟨some 50, some (48, true), .call (.fn (.cst (.fn (.func 171) [] []))) [.tmp 49]⟩, ⟨some 51, some (42, false), .pick (.tmp 48) (.tmp 50) (.cst (.bool false))⟩, ⟨some 52, some (35, true), .pick (.tmp 42) (.cst (.bool true)) (.tmp 51)⟩, ⟨some 53, none, .pick (.tmp 35) (.tmp 52) (.cst (.bool false))⟩, ⟨some 4, none, .mv (.tmp 31)⟩, ⟨some 5, none, .mv (.tmp 53)⟩]) .ret)))))
def fd131 : AFun := ⟨.heap, 54, [.tmp 4, .tmp 5], b131⟩
theorem ok131 : CodeOK Tryz.prog 131 fd131 := ⟨Tryz.f131, _, t131, ⟨Tryz.func131, by kernel_rfl, by kernel_rfl⟩, rfl, by kernel_rfl, rfl, by kernel_rfl⟩

/-- slices.IndexFunc[starling/fold.pile,string] -/
def t132 : List (List Nat) := [[4, 5, 6, 9, 10, 11, 12, 13, 14, 15, 16, 17, 18]]
def lp132_0 : AC := (.seq (.region [⟨some 9, none, .bin .lss (.tmp 8) (.tmp 7)⟩]) (.seq (.cond (.tmp 9) .skip (.exit 0)) (.seq (.block 1 (.seq (.region [⟨some 10, none, .mv (.tmp 8)⟩, ⟨some 5, none, .mv (.tmp 10)⟩]) (.seq (.region [⟨some 11, none, .mv (.tmp 1)⟩, ⟨some 12, none, .mv (.tmp 0)⟩, ⟨some 13, none, .mv (.tmp 5)⟩, ⟨some 14, none, .idxSl 1 (.tmp 12) (.tmp 13)⟩, ⟨some 15, none, .load none (.tmp 14)⟩, ⟨some 16, none, .call (.fn (.tmp 11)) [.tmp 15]⟩]) (.cond (.tmp 16) (.seq (.region [⟨some 17, none, .mv (.tmp 5)⟩, ⟨some 4, none, .mv (.tmp 17)⟩]) .ret) .skip)))) (.region [⟨some 18, none, .bin .add (.tmp 8) (.cst (.int .i64 1))⟩, ⟨some 8, none, .mv (.tmp 18)⟩]))))
def b132 : AC := (.seq (.region [⟨some 4, none, .mv (.cst (.int .i64 0))⟩]) (.seq (.seq (.region [⟨some 6, none, .mv (.tmp 0)⟩, ⟨some 7, none, .lenSl (.tmp 6)⟩, ⟨some 8, none, .mv (.cst (.int .i64 0))⟩]) (.block 0 (.loop (.seq (.kill [4, 5, 6, 9, 10, 11, 12, 13, 14, 15, 16, 17, 18]) lp132_0)))) (.seq (.region [⟨some 4, none, .mv (.cst (.int .i64 (-1)))⟩]) .ret)))
def fd132 : AFun := ⟨.heap, 19, [.tmp 4], b132⟩
theorem ok132 : CodeOK Tryz.prog 132 fd132 := ⟨Tryz.f132, _, t132, ⟨Tryz.func132, by kernel_rfl, by kernel_rfl⟩, rfl, by kernel_rfl, rfl, by kernel_rfl⟩

/-- slices.Index[[]string,string] -/
def t133 : List (List Nat) := [[4, 5, 6, 9, 10, 11, 12, 13, 14, 15, 16, 17, 18]]
def lp133_0 : AC := (.seq (.region [⟨some 9, none, .bin .lss (.tmp 8) (.tmp 7)⟩]) (.seq (.cond (.tmp 9) .skip (.exit 0)) (.seq (.block 1 (.seq (.region [⟨some 10, none, .mv (.tmp 8)⟩, ⟨some 5, none, .mv (.tmp 10)⟩]) (.seq (.region [⟨some 11, none, .mv (.tmp 1)⟩, ⟨some 12, none, .mv (.tmp 0)⟩, ⟨some 13, none, .mv (.tmp 5)⟩, ⟨some 14, none, .idxSl 1 (.tmp 12) (.tmp 13)⟩, ⟨some 15, none, .load none (.tmp 14)⟩, ⟨some 16, none, .bin .eql (.tmp 11) (.tmp 15)⟩]) (.cond (.tmp 16) (.seq (.region [⟨some 17, none, .mv (.tmp 5)⟩, ⟨some 4, none, .mv (.tmp 17)⟩]) .ret) .skip)))) (.region [⟨some 18, none, .bin .add (.tmp 8) (.cst (.int .i64 1))⟩, ⟨some 8, none, .mv (.tmp 18)⟩]))))
def b133 : AC := (.seq (.region [⟨some 4, none, .mv (.cst (.int .i64 0))⟩]) (.seq (.seq (.region [⟨some 6, none, .mv (.tmp 0)⟩, ⟨some 7, none, .lenSl (.tmp 6)⟩, ⟨some 8, none, .mv (.cst (.int .i64 0))⟩]) (.block 0 (.loop (.seq (.kill [4, 5, 6, 9, 10, 11, 12, 13, 14, 15, 16, 17, 18]) lp133_0)))) (.seq (.region [⟨some 4, none, .mv (.cst (.int .i64 (-1)))⟩]) .ret)))
def fd133 : AFun := ⟨.pure, 19, [.tmp 4], b133⟩
theorem ok133 : CodeOK Tryz.prog 133 fd133 := ⟨Tryz.f133, _, t133, ⟨Tryz.func133, by kernel_rfl, by kernel_rfl⟩, rfl, by kernel_rfl, rfl, by kernel_rfl⟩

/-- container/heap.down -/
def t147 : List (List Nat) := [[6, 8, 9, 10, 11, 12, 13, 14, 15, 16, 17, 18, 19, 20, 21, 22, 23, 24, 25, 26, 27, 28, 29, 30, 31, 32, 33, 34, 35, 36, 37, 38, 39, 40, 41, 42, 43, 44]]
def lp147_0 : AC := (.block 1 (.seq (.region [⟨some 12, none, .mv (.tmp 7)⟩, ⟨some 13, none, .bin .mul (.cst (.int .i64 2)) (.tmp 12)⟩, ⟨some 14, none, .bin .add (.tmp 13) (.cst (.int .i64 1))⟩, ⟨some 8, none, .mv (.tmp 14)⟩]) (.seq (.seq (.region [⟨some 15, none, .mv (.tmp 8)⟩, ⟨some 16, none, .mv (.tmp 2)⟩, ⟨some 17, none, .bin .geq (.tmp 15) (.tmp 16)⟩, ⟨some 18, none, .mv (.tmp 17)⟩, ⟨some 19, some (18, false), .mv (.tmp 8)⟩, ⟨some 20, some (18, false), .bin .lss (.tmp 19) (.cst (.int .i64 0))⟩, ⟨some 21, none, .pick (.tmp 18) (.cst (.bool true)) (.tmp 20)⟩]) (.cond (.tmp 21) (.exit 0) .skip)) (.seq (.region [⟨some 22, none, .mv (.tmp 8)⟩, ⟨some 9, none, .mv (.tmp 22)⟩]) (.seq (.seq (.region [⟨some 23, none, .mv (.tmp 8)⟩, ⟨some 24, none, .bin .add (.tmp 23) (.cst (.int .i64 1))⟩, ⟨some 10, none, .mv (.tmp 24)⟩]) (.seq (.region [⟨some 25, none, .mv (.tmp 10)⟩, ⟨some 26, none, .mv (.tmp 2)⟩, ⟨some 27, none, .bin .lss (.tmp 25) (.tmp 26)⟩, ⟨some 28, none, .mv (.tmp 27)⟩, ⟨some 29, some (28, true), .mv (.tmp 0)⟩, ⟨some 30, some (28, true), .mv (.tmp 10)⟩, ⟨some 31, some (28, true), .mv (.tmp 8)⟩, ⟨some 32, some (28, true), .call (.meth (.tmp 29) "Less") [.tmp 30, .tmp 31]⟩, ⟨some 33, none, .pick (.tmp 28) (.tmp 32) (.cst (.bool false))⟩]) (.cond (.tmp 33) (.region [⟨some 34, none, .mv (.tmp 10)⟩, ⟨some 9, none, .mv (.tmp 34)⟩]) .skip))) (.seq (.seq (.region [⟨some 35, none, .mv (.tmp 0)⟩, ⟨some 36, none, .mv (.tmp 9)⟩, ⟨some 37, none, .mv (.tmp 7)⟩, ⟨some 38, none, .call (.meth (.tmp 35) "Less") [.tmp 36, .tmp 37]⟩, ⟨some 39, none, .un .not (.tmp 38)⟩]) (.cond (.tmp 39) (.exit 0) .skip)) (.seq (.region [⟨some 40, none, .mv (.tmp 0)⟩, ⟨some 41, none, .mv (.tmp 7)⟩, ⟨some 42, none, .mv (.tmp 9)⟩, ⟨some 43, none, .call (.meth (.tmp 40) "Swap") [.tmp 41, .tmp 42]⟩]) (.region [⟨some 44, none, .mv (.tmp 9)⟩, ⟨some 7, none, .mv (.tmp 44)⟩]))))))))
def b147 : AC := (.seq (.region [⟨some 6, none, .mv (.cst (.bool false))⟩]) (.seq (.region [⟨some 11, none, .mv (.tmp 1)⟩, ⟨some 7, none, .mv (.tmp 11)⟩]) (.seq (.block 0 (.loop (.seq (.kill [6, 8, 9, 10, 11, 12, 13, 14, 15, 16, 17, 18, 19, 20, 21, 22, 23, 24, 25, 26, 27, 28, 29, 30, 31, 32, 33, 34, 35, 36, 37, 38, 39, 40, 41, 42, 43, 44]) lp147_0))) (.seq (.region [⟨some 45, none, .mv (.tmp 7)⟩, ⟨some 46, none, .mv (.tmp 1)⟩, ⟨some 47, none, .bin .gtr (.tmp 45) (.tmp 46)⟩, ⟨some 6, none, .mv (.tmp 47)⟩]) .ret))))
def fd147 : AFun := ⟨.heap, 48, [.tmp 6], b147⟩
theorem ok147 : CodeOK Tryz.prog 147 fd147 := ⟨Tryz.f147, _, t147, ⟨Tryz.func147, by kernel_rfl, by kernel_rfl⟩, rfl, by kernel_rfl, rfl, by kernel_rfl⟩

/-- cmp.Less[string] -/
def t166 : List (List Nat) := []
def b166 : AC := (.seq (.region [⟨some 4, none, .mv (.cst (.bool false))⟩]) (.seq (.region [⟨some 5, none, .mv (.tmp 0)⟩, ⟨some 6, none, .call (.fn (.cst (.fn (.func 199) [] []))) [.tmp 5]⟩, ⟨some 7, none, .mv (.tmp 6)⟩, ⟨some 8, some (7, true), .mv (.tmp 1)⟩, ⟨some 9, some (7, true), .call (.fn (.cst (.fn (.func 199) [] []))) [.tmp 8]⟩, ⟨some 10, some (7, true), .un .not (.tmp 9)⟩, ⟨some 11, none, .pick (.tmp 7) (.tmp 10) (.cst (.bool false))⟩, ⟨some 12, none, .mv (.tmp 11)⟩, ⟨some 13, some (12, false), .mv (.tmp 0)⟩, ⟨some 14, some (12, false), .mv (.tmp 1)⟩, ⟨some 15, some (12, false), .bin .lss (.tmp 13) (.tmp 14)⟩, ⟨some 16, none, .pick (.tmp 12) (.cst (.bool true)) (.tmp 15)⟩, ⟨some 4, none, .mv (.tmp 16)⟩]) .ret))
def fd166 : AFun := ⟨.pure, 17, [.tmp 4], b166⟩
theorem ok166 : CodeOK Tryz.prog 166 fd166 := ⟨Tryz.f166, _, t166, ⟨Tryz.func166, by kernel_rfl, by kernel_rfl⟩, rfl, by kernel_rfl, rfl, by kernel_rfl⟩

/-- slices.isNaN[string] -/
def t171 : List (List Nat) := []
def b171 : AC := (.seq (.region [⟨some 2, none, .mv (.cst (.bool false))⟩]) (.seq (.region [⟨some 3, none, .mv (.tmp 0)⟩, ⟨some 4, none, .mv (.tmp 0)⟩, ⟨some 5, none, .bin .neq (.tmp 3) (.tmp 4)⟩, ⟨some 2, none, .mv (.tmp 5)⟩]) .ret))
def fd171 : AFun := ⟨.pure, 6, [.tmp 2], b171⟩
theorem ok171 : CodeOK Tryz.prog 171 fd171 := ⟨Tryz.f171, _, t171, ⟨Tryz.func171, by kernel_rfl, by kernel_rfl⟩, rfl, by kernel_rfl, rfl, by kernel_rfl⟩

/-- cmp.isNaN[string] -/
def t199 : List (List Nat) := []
def b199 : AC := (.seq (.region [⟨some 2, none, .mv (.cst (.bool false))⟩]) (.seq (.region [⟨some 3, none, .mv (.tmp 0)⟩, ⟨some 4, none, .mv (.tmp 0)⟩, ⟨some 5, none, .bin .neq (.tmp 3) (.tmp 4)⟩, ⟨some 2, none, .mv (.tmp 5)⟩]) .ret))
def fd199 : AFun := ⟨.pure, 6, [.tmp 2], b199⟩
theorem ok199 : CodeOK Tryz.prog 199 fd199 := ⟨Tryz.f199, _, t199, ⟨Tryz.func199, by kernel_rfl, by kernel_rfl⟩, rfl, by kernel_rfl, rfl, by kernel_rfl⟩

/-- (starling/fold.pile).Len -/
def t258 : List (List Nat) := []
def b258 : AC := (.seq (.region [⟨some 2, none, .mv (.cst (.int .i64 0))⟩]) (.seq (.region [⟨some 3, none, .mv (.tmp 0)⟩, ⟨some 4, none, .lenSl (.tmp 3)⟩, ⟨some 2, none, .mv (.tmp 4)⟩]) .ret))
def fd258 : AFun := ⟨.pure, 5, [.tmp 2], b258⟩
theorem ok258 : CodeOK Tryz.prog 258 fd258 := ⟨Tryz.f258, _, t258, ⟨Tryz.func258, by kernel_rfl, by kernel_rfl⟩, rfl, by kernel_rfl, rfl, by kernel_rfl⟩

/-- (starling/fold.pile).Less -/
def t259 : List (List Nat) := [[]]
def b259 : AC := (.seq (.region [⟨some 6, none, .mv (.cst (.bool false))⟩]) (.seq (.draw [] [(false, ⟨some 7, none, .mv (.tmp 0)⟩), (false, ⟨some 8, none, .mv (.tmp 1)⟩), (false, ⟨some 9, none, .idxSl 1 (.tmp 7) (.tmp 8)⟩), (false, ⟨some 10, none, .load none (.tmp 9)⟩), (false, ⟨some 11, none, .mv (.tmp 0)⟩), (false, ⟨some 12, none, .mv (.tmp 2)⟩), (false, ⟨some 13, none, .idxSl 1 (.tmp 11) (.tmp 12)⟩), (false, ⟨some 14, none, .load none (.tmp 13)⟩), (false, ⟨some 15, none, .bin .lss (.tmp 10) (.tmp 14)⟩), (false, ⟨some 6, none, .mv (.tmp 15)⟩)]) .ret))
def fd259 : AFun := ⟨.pure, 16, [.tmp 6], b259⟩
theorem ok259 : CodeOK Tryz.prog 259 fd259 := ⟨Tryz.f259, _, t259, ⟨Tryz.func259, by kernel_rfl, by kernel_rfl⟩, rfl, by kernel_rfl, rfl, by kernel_rfl⟩

/-- (starling/fold.pile).Swap -/
def t260 : List (List Nat) := [[]]
def b260 : AC := (.draw [] [(false, ⟨some 6, none, .mv (.tmp 0)⟩), (false, ⟨some 7, none, .mv (.tmp 1)⟩), (false, ⟨some 8, none, .mv (.tmp 0)⟩), (false, ⟨some 9, none, .mv (.tmp 2)⟩), (false, ⟨some 10, none, .mv (.tmp 0)⟩), (false, ⟨some 11, none, .mv (.tmp 2)⟩), (false, ⟨some 12, none, .idxSl 1 (.tmp 10) (.tmp 11)⟩), (false, ⟨some 13, none, .load none (.tmp 12)⟩), (false, ⟨some 14, none, .mv (.tmp 0)⟩), (false, ⟨some 15, none, .mv (.tmp 1)⟩), (false, ⟨some 16, none, .idxSl 1 (.tmp 14) (.tmp 15)⟩), (false, ⟨some 17, none, .load none (.tmp 16)⟩), (false, ⟨some 18, none, .idxSl 1 (.tmp 6) (.tmp 7)⟩), (true, ⟨none, none, .store 1 (.tmp 18) (.tmp 13)⟩), (false, ⟨some 19, none, .idxSl 1 (.tmp 8) (.tmp 9)⟩), (true, ⟨none, none, .store 1 (.tmp 19) (.tmp 17)⟩)])
def fd260 : AFun := ⟨.heap, 20, [], b260⟩
theorem ok260 : CodeOK Tryz.prog 260 fd260 := ⟨Tryz.f260, _, t260, ⟨Tryz.func260, by kernel_rfl, by kernel_rfl⟩, rfl, by kernel_rfl, rfl, by kernel_rfl⟩

/-- (*starling/fold.pile).Pop -/
def t261 : List (List Nat) := []
def b261 : AC := (.seq (.region [⟨some 2, none, .mv (.cst .niliface)⟩]) (.seq (.region [⟨some 5, none, .mv (.tmp 0)⟩, ⟨some 6, none, .nilchk (.tmp 5)⟩, ⟨some 7, none, .load none (.tmp 6)⟩, ⟨some 8, none, .lenSl (.tmp 7)⟩, ⟨some 9, none, .bin .sub (.tmp 8) (.cst (.int .i64 1))⟩, ⟨some 3, none, .mv (.tmp 9)⟩]) (.seq (.region [⟨some 10, none, .mv (.tmp 0)⟩, ⟨some 11, none, .nilchk (.tmp 10)⟩, ⟨some 12, none, .load none (.tmp 11)⟩, ⟨some 13, none, .mv (.tmp 3)⟩, ⟨some 14, none, .idxSl 1 (.tmp 12) (.tmp 13)⟩, ⟨some 15, none, .load none (.tmp 14)⟩, ⟨some 4, none, .mv (.tmp 15)⟩]) (.seq (.region [⟨some 16, none, .mv (.tmp 0)⟩, ⟨some 17, none, .mv (.tmp 0)⟩, ⟨some 18, none, .nilchk (.tmp 17)⟩, ⟨some 19, none, .load none (.tmp 18)⟩, ⟨some 20, none, .mv (.tmp 3)⟩, ⟨some 21, none, .sliceSl 1 (.tmp 19) none (some (.tmp 20)) none⟩, ⟨some 22, none, .nilchk (.tmp 16)⟩, ⟨none, none, .store 1 (.tmp 22) (.tmp 21)⟩]) (.seq (.region [⟨some 23, none, .mv (.tmp 4)⟩, ⟨some 24, none, .mkIface 9 (.tmp 23)⟩, ⟨some 2, none, .mv (.tmp 24)⟩]) .ret)))))
def fd261 : AFun := ⟨.heap, 25, [.tmp 2], b261⟩
theorem ok261 : CodeOK Tryz.prog 261 fd261 := ⟨Tryz.f261, _, t261, ⟨Tryz.func261, by kernel_rfl, by kernel_rfl⟩, rfl, by kernel_rfl, rfl, by kernel_rfl⟩

/-- (*starling/fold.pile).Push -/
def t262 : List (List Nat) := []
def b262 : AC := (.seq (.region [⟨some 7, none, .mv (.tmp 1)⟩, ⟨some 8, none, .assertTo (.tmp 7) 9 (some (.str []))⟩, ⟨some 6, none, .mv (.tmp 8)⟩, ⟨some 9, none, .extract (.tmp 6) 0⟩, ⟨some 10, none, .extract (.tmp 6) 1⟩, ⟨some 4, none, .mv (.tmp 9)⟩, ⟨some 5, none, .mv (.tmp 10)⟩]) (.seq (.region [⟨some 11, none, .mv (.tmp 5)⟩]) (.cond (.tmp 11) (.region [⟨some 12, none, .mv (.tmp 0)⟩, ⟨some 13, none, .mv (.tmp 0)⟩, ⟨some 14, none, .nilchk (.tmp 13)⟩, ⟨some 15, none, .load none (.tmp 14)⟩, ⟨some 16, none, .mv (.tmp 4)⟩, ⟨some 17, none, .buildSlice 1 1 [.str []] [(0, (1, .tmp 16))]⟩, ⟨some 18, none, .append 1 16 (.tmp 15) (.tmp 17)⟩, ⟨some 19, none, .nilchk (.tmp 12)⟩, ⟨none, none, .store 1 (.tmp 19) (.tmp 18)⟩]) .skip)))
def fd262 : AFun := ⟨.heap, 20, [], b262⟩
theorem ok262 : CodeOK Tryz.prog 262 fd262 := ⟨Tryz.f262, _, t262, ⟨Tryz.func262, by kernel_rfl, by kernel_rfl⟩, rfl, by kernel_rfl, rfl, by kernel_rfl⟩

end Go.Proofs.YtgbnbgkldeifkaaGreatA

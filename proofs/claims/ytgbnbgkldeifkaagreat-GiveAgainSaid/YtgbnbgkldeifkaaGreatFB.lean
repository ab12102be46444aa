/- The small code of some of the functions, as wip/tools/gen.py printed it; each is that of the program. No statement about the program is proved here. -/
import Derived.Test.YtgbnbgkldeifkaaGreatProg
import Derived.Test.YtgbnbgkldeifkaaGreatB3
namespace Go.Proofs.YtgbnbgkldeifkaaGreatA
open Go
set_option maxRecDepth 1000000

/-- starling/spot.May -/
def t70 : List (List Nat) := []
def b70 : AC := (.seq (.region [⟨some 2, none, .mv (.cst (.bool false))⟩]) (.seq (.region [⟨some 3, none, .mv (T 0)⟩, ⟨some 4, none, .lenStr (T 3)⟩, ⟨some 5, none, .bin .geq (T 4) (.cst (I 1))⟩, ⟨some 6, none, .mv (T 5)⟩, ⟨some 7, some (6, true), .mv (T 0)⟩, ⟨some 8, some (6, true), .lenStr (T 7)⟩, ⟨some 9, some (6, true), .bin .leq (T 8) (.cst (I 32))⟩, ⟨some 10, none, .pick (T 6) (T 9) (.cst (.bool false))⟩, ⟨some 2, none, .mv (T 10)⟩]) .ret))
def fd70 : AFun := ⟨.pure, 11, [.tmp 2], b70⟩
theorem ok70 : CodeOK Tryz.prog 70 fd70 := ⟨Tryz.f70, _, t70, ⟨Tryz.func70, by kernel_rfl, by kernel_rfl⟩, rfl, by kernel_rfl, rfl, by kernel_rfl⟩

/-- starling/spot.Of -/
def t29 : List (List Nat) := []
def b29 : AC := (.seq (.region [⟨some 2, none, .mv (.cst (I 0))⟩]) (.seq (.seq (.region [⟨some 3, none, .mv (T 0)⟩, ⟨some 4, none, .call (.fn (.cst (.fn (.func 70) [] []))) [T 3]⟩, ⟨some 5, none, .un .not (T 4)⟩]) (.cond (T 5) (.seq (.region [⟨some 2, none, .mv (.cst (I (-1)))⟩]) .ret) .skip)) (.seq (.region [⟨some 6, none, .mv (T 0)⟩, ⟨some 7, none, .call (.fn (.cst (.fn (.func 78) [] []))) [T 6]⟩, ⟨some 8, none, .bin .rem (T 7) (.cst (.int .u64 16))⟩, ⟨some 9, none, .conv .i64 (T 8)⟩, ⟨some 2, none, .mv (T 9)⟩]) .ret)))
def fd29 : AFun := ⟨.pure, 10, [.tmp 2], b29⟩
theorem ok29 : CodeOK Tryz.prog 29 fd29 := ⟨Tryz.f29, _, t29, ⟨Tryz.func29, by kernel_rfl, by kernel_rfl⟩, rfl, by kernel_rfl, rfl, by kernel_rfl⟩

/-- starling/spot.Hash -/
def t78 : List (List Nat) := [[2, 4, 5, 8, 9, 10, 11, 12, 13, 14, 15, 16, 17]]
def lp78_0 : AC := (.seq (.region [⟨some 8, none, .bin .lss (T 7) (T 6)⟩]) (.seq (.cond (T 8) .skip (.exit 0)) (.seq (.block 1 (.seq (.region [⟨some 9, none, .mv (T 7)⟩, ⟨some 4, none, .mv (T 9)⟩]) (.region [⟨some 10, none, .mv (T 3)⟩, ⟨some 11, none, .mv (T 0)⟩, ⟨some 12, none, .mv (T 4)⟩, ⟨some 13, none, .idxStr (T 11) (T 12)⟩, ⟨some 14, none, .conv .u64 (T 13)⟩, ⟨some 15, none, .bin .xor (T 10) (T 14)⟩, ⟨some 16, none, .bin .mul (T 15) (.cst (.int .u64 1099511628211))⟩, ⟨some 3, none, .mv (T 16)⟩]))) (.region [⟨some 17, none, .bin .add (T 7) (.cst (I 1))⟩, ⟨some 7, none, .mv (T 17)⟩]))))
def b78 : AC := (.seq (.region [⟨some 2, none, .mv (.cst (.int .u64 0))⟩]) (.seq (.region [⟨some 3, none, .mv (.cst (.int .u64 14695981039346656037))⟩]) (.seq (.seq (.region [⟨some 5, none, .mv (T 0)⟩, ⟨some 6, none, .lenStr (T 5)⟩, ⟨some 7, none, .mv (.cst (I 0))⟩]) (.block 0 (.loop (.seq (.kill [2, 4, 5, 8, 9, 10, 11, 12, 13, 14, 15, 16, 17]) lp78_0)))) (.seq (.region [⟨some 18, none, .mv (T 3)⟩, ⟨some 19, none, .mv (T 3)⟩, ⟨some 20, none, .bin .shr (T 19) (.cst (.int .u64 32))⟩, ⟨some 21, none, .bin .xor (T 18) (T 20)⟩, ⟨some 2, none, .mv (T 21)⟩]) .ret))))
def fd78 : AFun := ⟨.pure, 22, [.tmp 2], b78⟩
theorem ok78 : CodeOK Tryz.prog 78 fd78 := ⟨Tryz.f78, _, t78, ⟨Tryz.func78, by kernel_rfl, by kernel_rfl⟩, rfl, by kernel_rfl, rfl, by kernel_rfl⟩

/-- (*starling/vault.Vault).Keys -/
def t31 : List (List Nat) := [[4, 6, 7, 8, 9, 10, 11, 12, 13, 14, 15, 16, 18, 19, 20, 21, 22, 23, 24, 25, 26, 27, 28, 29]]
def lp31_0 : AC := (.seq (.region [⟨some 18, none, .nextM (T 17)⟩, ⟨some 19, none, .extract (T 18) 0⟩]) (.seq (.cond (T 19) .skip (.exit 0)) (.block 1 (.seq (.region [⟨some 20, none, .entryM (T 17)⟩, ⟨some 21, none, .extract (T 20) 0⟩, ⟨some 6, none, .mv (T 21)⟩]) (.seq (.region [⟨some 22, none, .mv (T 6)⟩, ⟨some 23, none, .call (.fn (.cst (.fn (.func 29) [] []))) [T 22]⟩, ⟨some 24, none, .mv (T 1)⟩, ⟨some 25, none, .bin .eql (T 23) (T 24)⟩]) (.cond (T 25) (.region [⟨some 26, none, .mv (T 5)⟩, ⟨some 27, none, .mv (T 6)⟩, ⟨some 28, none, .buildSlice 1 1 [.str []] [(0, (1, T 27))]⟩, ⟨some 29, none, .append 1 16 (T 26) (T 28)⟩, ⟨some 5, none, .mv (T 29)⟩]) .skip))))))
def b31 : AC := (.seq (.region [⟨some 4, none, .mv (.cst .nilsl)⟩]) (.seq (.seq (.region [⟨some 7, none, .mv (T 0)⟩, ⟨some 8, none, .eqptr false (T 7) (.cst (.ptr none))⟩, ⟨some 9, none, .mv (T 8)⟩, ⟨some 10, some (9, false), .mv (T 1)⟩, ⟨some 11, some (9, false), .bin .lss (T 10) (.cst (I 0))⟩, ⟨some 12, none, .pick (T 9) (.cst (.bool true)) (T 11)⟩]) (.cond (T 12) (.seq (.region [⟨some 4, none, .mv (.cst .nilsl)⟩]) .ret) .skip)) (.seq (.region [⟨some 5, none, .mv (.cst .nilsl)⟩]) (.seq (.seq (.region [⟨some 13, none, .mv (T 0)⟩, ⟨some 14, none, .nilchk (T 13)⟩, ⟨some 15, none, .fieldAddr 47 (T 14)⟩, ⟨some 16, none, .load none (T 15)⟩, ⟨some 17, none, .rangeM (T 16)⟩]) (.block 0 (.loop (.seq (.kill [4, 6, 7, 8, 9, 10, 11, 12, 13, 14, 15, 16, 18, 19, 20, 21, 22, 23, 24, 25, 26, 27, 28, 29]) lp31_0)))) (.seq (.region [⟨some 30, none, .mv (T 5)⟩, ⟨some 31, none, .call (.fn (.cst (.fn (.func 81) [] []))) [T 30]⟩]) (.seq (.region [⟨some 32, none, .mv (T 5)⟩, ⟨some 4, none, .mv (T 32)⟩]) .ret))))))
def fd31 : AFun := ⟨.heap, 33, [.tmp 4], b31⟩
theorem ok31 : CodeOK Tryz.prog 31 fd31 := ⟨Tryz.f31, _, t31, ⟨Tryz.func31, by kernel_rfl, by kernel_rfl⟩, rfl, by kernel_rfl, rfl, by kernel_rfl⟩

/-- maps.DeleteFunc[map[string]starling/api.Bag,string,starling/api.Bag] -/
def t111 : List (List Nat) := [[4, 5, 6, 8, 9, 10, 11, 12, 13, 14, 15, 16, 17, 18]]
def lp111_0 : AC := (.seq (.region [⟨some 8, none, .nextM (T 7)⟩, ⟨some 9, none, .extract (T 8) 0⟩]) (.seq (.cond (T 9) .skip (.exit 0)) (.block 1 (.seq (.region [⟨some 10, none, .entryM (T 7)⟩, ⟨some 11, none, .extract (T 10) 0⟩, ⟨some 12, none, .extract (T 10) 1⟩, ⟨some 5, none, .alloc [I 0, I 0, I 0, I 0, I 0, I 0, I 0, I 0, .nilsl]⟩, ⟨some 4, none, .mv (T 11)⟩, ⟨none, none, .store 9 (T 5) (T 12)⟩]) (.seq (.region [⟨some 13, none, .mv (T 1)⟩, ⟨some 14, none, .mv (T 4)⟩, ⟨some 15, none, .load (some 9) (T 5)⟩, ⟨some 16, none, .call (.fn (T 13)) [T 14, T 15]⟩]) (.cond (T 16) (.region [⟨some 17, none, .mv (T 0)⟩, ⟨some 18, none, .mv (T 4)⟩, ⟨none, none, .mapDel .s (T 17) (T 18)⟩]) .skip))))))
def b111 : AC := (.seq (.region [⟨some 6, none, .mv (T 0)⟩, ⟨some 7, none, .rangeM (T 6)⟩]) (.block 0 (.loop (.seq (.kill [4, 5, 6, 8, 9, 10, 11, 12, 13, 14, 15, 16, 17, 18]) lp111_0))))
def fd111 : AFun := ⟨.heap, 19, [], b111⟩
theorem ok111 : CodeOK Tryz.prog 111 fd111 := ⟨Tryz.f111, _, t111, ⟨Tryz.func111, by kernel_rfl, by kernel_rfl⟩, rfl, by kernel_rfl, rfl, by kernel_rfl⟩

/-- (*starling/vault.Vault).counts$1 -/
def t112 : List (List Nat) := [[]]
def b112 : AC := (.seq (.region [⟨some 4, none, .box (T 1)⟩, ⟨some 5, none, .mv (.cst (.bool false))⟩]) (.seq (.draw [] [(false, ⟨some 6, none, .mv (T 0)⟩), (false, ⟨some 7, none, .call (.fn (.cst (.fn (.func 29) [] []))) [T 6]⟩), (false, ⟨some 8, none, .fieldAddr 55 (T 2)⟩), (false, ⟨some 9, none, .load none (T 8)⟩), (false, ⟨some 10, none, .bin .eql (T 7) (T 9)⟩), (false, ⟨some 5, none, .mv (T 10)⟩)]) .ret))
def fd112 : AFun := ⟨.heap, 11, [.tmp 5], b112⟩
theorem ok112 : CodeOK Tryz.prog 112 fd112 := ⟨Tryz.f112, _, t112, ⟨Tryz.func112, by kernel_rfl, by kernel_rfl⟩, rfl, by kernel_rfl, rfl, by kernel_rfl⟩

end Go.Proofs.YtgbnbgkldeifkaaGreatA

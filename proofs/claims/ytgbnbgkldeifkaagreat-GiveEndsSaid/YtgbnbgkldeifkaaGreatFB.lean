/- The small code of some of the functions, as wip/tools/gen.py printed it; each is that of the program. No statement about the program is proved here. -/
import Derived.Test.YtgbnbgkldeifkaaGreatProg
import Derived.Test.YtgbnbgkldeifkaaGreatB3
namespace Go.Proofs.YtgbnbgkldeifkaaGreatA
open Go
set_option maxRecDepth 1000000

/-- starling/spot.May -/
def t70:List (List Nat):=[]
def b70:AC:=(.seq (.region [oO 2 (.mv (.cst (.bool false)))]) (.seq (.region [oM 3 0,oO 4 (.lenStr (T 3)),oO 5 (.bin .geq (T 4) (oC 1)),oM 6 5,⟨some 7,some (6,true),.mv (T 0)⟩,⟨some 8,some (6,true),.lenStr (T 7)⟩,⟨some 9,some (6,true),.bin .leq (T 8) (oC 32)⟩,oO 10 (.pick (T 6) (T 9) (.cst (.bool false))),oM 2 10]) .ret))
def fd70:AFun:=⟨.pure,11,[.tmp 2],b70⟩
theorem ok70:CodeOK Tryz.prog 70 fd70:=⟨Tryz.f70,_,t70,⟨Tryz.func70,by kernel_rfl,by kernel_rfl⟩,rfl,by kernel_rfl,rfl,by kernel_rfl⟩

/-- starling/spot.Of -/
def t29:List (List Nat):=[]
def b29:AC:=(.seq (.region [oO 2 (.mv (oC 0))]) (.seq (.seq (.region [oM 3 0,oO 4 (oF 70 [T 3]),oO 5 (.un .not (T 4))]) (.cond (T 5) (.seq (.region [oO 2 (.mv (.cst (I (-1))))]) .ret) .skip)) (.seq (.region [oM 6 0,oO 7 (oF 78 [T 6]),oO 8 (.bin .rem (T 7) (.cst (.int .u64 16))),oO 9 (.conv .i64 (T 8)),oM 2 9]) .ret)))
def fd29:AFun:=⟨.pure,10,[.tmp 2],b29⟩
theorem ok29:CodeOK Tryz.prog 29 fd29:=⟨Tryz.f29,_,t29,⟨Tryz.func29,by kernel_rfl,by kernel_rfl⟩,rfl,by kernel_rfl,rfl,by kernel_rfl⟩

/-- starling/spot.Hash -/
def t78:List (List Nat):=[[2,4,5,8,9,10,11,12,13,14,15,16,17]]
def lp78_0:AC:=(.seq (.region [oO 8 (.bin .lss (T 7) (T 6))]) (.seq (.cond (T 8) .skip (.exit 0)) (.seq (.block 1 (.seq (.region [oM 9 7,oM 4 9]) (.region [oM 10 3,oM 11 0,oM 12 4,oO 13 (.idxStr (T 11) (T 12)),oO 14 (.conv .u64 (T 13)),oO 15 (.bin .xor (T 10) (T 14)),oO 16 (.bin .mul (T 15) (.cst (.int .u64 1099511628211))),oM 3 16]))) (.region [oO 17 (.bin .add (T 7) (oC 1)),oM 7 17]))))
def b78:AC:=(.seq (.region [oO 2 (.mv (.cst (.int .u64 0)))]) (.seq (.region [oO 3 (.mv (.cst (.int .u64 14695981039346656037)))]) (.seq (.seq (.region [oM 5 0,oO 6 (.lenStr (T 5)),oO 7 (.mv (oC 0))]) (.block 0 (.loop (.seq (.kill [2,4,5,8,9,10,11,12,13,14,15,16,17]) lp78_0)))) (.seq (.region [oM 18 3,oM 19 3,oO 20 (.bin .shr (T 19) (.cst (.int .u64 32))),oO 21 (.bin .xor (T 18) (T 20)),oM 2 21]) .ret))))
def fd78:AFun:=⟨.pure,22,[.tmp 2],b78⟩
theorem ok78:CodeOK Tryz.prog 78 fd78:=⟨Tryz.f78,_,t78,⟨Tryz.func78,by kernel_rfl,by kernel_rfl⟩,rfl,by kernel_rfl,rfl,by kernel_rfl⟩

/-- (*starling/vault.Vault).Keys -/
def t31:List (List Nat):=[[4,6,7,8,9,10,11,12,13,14,15,16,18,19,20,21,22,23,24,25,26,27,28,29]]
def lp31_0:AC:=(.seq (.region [oO 18 (.nextM (T 17)),oO 19 (.extract (T 18) 0)]) (.seq (.cond (T 19) .skip (.exit 0)) (.block 1 (.seq (.region [oO 20 (.entryM (T 17)),oO 21 (.extract (T 20) 0),oM 6 21]) (.seq (.region [oM 22 6,oO 23 (oF 29 [T 22]),oM 24 1,oO 25 (.bin .eql (T 23) (T 24))]) (.cond (T 25) (.region [oM 26 5,oM 27 6,oO 28 (.buildSlice 1 1 [.str []] [(0,(1,T 27))]),oO 29 (.append 1 16 (T 26) (T 28)),oM 5 29]) .skip))))))
def b31:AC:=(.seq (.region [oO 4 (.mv (.cst .nilsl))]) (.seq (.seq (.region [oM 7 0,oO 8 (.eqptr false (T 7) (.cst (.ptr none))),oM 9 8,⟨some 10,some (9,false),.mv (T 1)⟩,⟨some 11,some (9,false),.bin .lss (T 10) (oC 0)⟩,oO 12 (.pick (T 9) (.cst (.bool true)) (T 11))]) (.cond (T 12) (.seq (.region [oO 4 (.mv (.cst .nilsl))]) .ret) .skip)) (.seq (.region [oO 5 (.mv (.cst .nilsl))]) (.seq (.seq (.region [oM 13 0,oO 14 (.nilchk (T 13)),oO 15 (.fieldAddr 47 (T 14)),oO 16 (.load none (T 15)),oO 17 (.rangeM (T 16))]) (.block 0 (.loop (.seq (.kill [4,6,7,8,9,10,11,12,13,14,15,16,18,19,20,21,22,23,24,25,26,27,28,29]) lp31_0)))) (.seq (.region [oM 30 5,oO 31 (oF 81 [T 30])]) (.seq (.region [oM 32 5,oM 4 32]) .ret))))))
def fd31:AFun:=⟨.heap,33,[.tmp 4],b31⟩
theorem ok31:CodeOK Tryz.prog 31 fd31:=⟨Tryz.f31,_,t31,⟨Tryz.func31,by kernel_rfl,by kernel_rfl⟩,rfl,by kernel_rfl,rfl,by kernel_rfl⟩

/-- maps.DeleteFunc[map[string]starling/api.Bag,string,starling/api.Bag] -/
def t111:List (List Nat):=[[4,5,6,8,9,10,11,12,13,14,15,16,17,18]]
def lp111_0:AC:=(.seq (.region [oO 8 (.nextM (T 7)),oO 9 (.extract (T 8) 0)]) (.seq (.cond (T 9) .skip (.exit 0)) (.block 1 (.seq (.region [oO 10 (.entryM (T 7)),oO 11 (.extract (T 10) 0),oO 12 (.extract (T 10) 1),oO 5 (.alloc [I 0,I 0,I 0,I 0,I 0,I 0,I 0,I 0,.nilsl]),oM 4 11,⟨none,none,.store 9 (T 5) (T 12)⟩]) (.seq (.region [oM 13 1,oM 14 4,oO 15 (.load (some 9) (T 5)),oO 16 (.call (.fn (T 13)) [T 14,T 15])]) (.cond (T 16) (.region [oM 17 0,oM 18 4,⟨none,none,.mapDel .s (T 17) (T 18)⟩]) .skip))))))
def b111:AC:=(.seq (.region [oM 6 0,oO 7 (.rangeM (T 6))]) (.block 0 (.loop (.seq (.kill [4,5,6,8,9,10,11,12,13,14,15,16,17,18]) lp111_0))))
def fd111:AFun:=⟨.heap,19,[],b111⟩
theorem ok111:CodeOK Tryz.prog 111 fd111:=⟨Tryz.f111,_,t111,⟨Tryz.func111,by kernel_rfl,by kernel_rfl⟩,rfl,by kernel_rfl,rfl,by kernel_rfl⟩

/-- (*starling/vault.Vault).counts$1 -/
def t112:List (List Nat):=[[]]
def b112:AC:=(.seq (.region [oO 4 (.box (T 1)),oO 5 (.mv (.cst (.bool false)))]) (.seq (.draw [] [(false,oM 6 0),(false,oO 7 (oF 29 [T 6])),(false,oO 8 (.fieldAddr 55 (T 2))),(false,oO 9 (.load none (T 8))),(false,oO 10 (.bin .eql (T 7) (T 9))),(false,oM 5 10)]) .ret))
def fd112:AFun:=⟨.heap,11,[.tmp 5],b112⟩
theorem ok112:CodeOK Tryz.prog 112 fd112:=⟨Tryz.f112,_,t112,⟨Tryz.func112,by kernel_rfl,by kernel_rfl⟩,rfl,by kernel_rfl,rfl,by kernel_rfl⟩

end Go.Proofs.YtgbnbgkldeifkaaGreatA

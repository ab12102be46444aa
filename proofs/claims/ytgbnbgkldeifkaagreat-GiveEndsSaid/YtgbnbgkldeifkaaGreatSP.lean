/- Whose part a key is, in plain words. No program is in sight here. -/
import Derived.Test.YtgbnbgkldeifkaaGreatA32
namespace Go.Proofs.YtgbnbgkldeifkaaGreatA
open Go
set_option linter.unusedSimpArgs false
set_option linter.unusedVariables false
set_option maxRecDepth 1000000
def keyOk (s:List UInt8):Bool:=decide (1≤s.length) && decide (s.length≤32)
def numOf:Option AV→Int
 | some (.int _ n)=>n
 | _=>0
def xorF (a b:Int):Int:=numOf (binAV .xor (.int .u64 a) (.int .u64 b))
theorem xor_eq (a b:Int):binAV .xor (.int .u64 a) (.int .u64 b)=some (.int .u64 (xorF a b)):=by simp [xorF,binAV,binInt,numOf]
theorem xor_nn (a b:Int):0≤xorF a b:=by
 simp only [xorF,binAV,binInt,if_true,numOf,IntKind.wrap,IntKind.signed,IntKind.bits]
 simp
 omega
def mulF (a b:Int):Int:=numOf (binAV .mul (.int .u64 a) (.int .u64 b))
theorem mul_eq (a b:Int):binAV .mul (.int .u64 a) (.int .u64 b)=some (.int .u64 (mulF a b)):=by simp [mulF,binAV,binInt,numOf]
def shrF (a b:Int):Int:=numOf (binAV .shr (.int .u64 a) (.int .u64 b))
theorem shr_eq (a:Int):binAV .shr (.int .u64 a) (.int .u64 32)=some (.int .u64 (shrF a 32)):=by simp [shrF,binAV,binInt,numOf]
attribute [local simp high] xor_eq mul_eq shr_eq
def hstep (h:Int) (b:UInt8):Int:=mulF (xorF h (IntKind.u64.wrap (b.toNat:Int))) 1099511628211
def hashF (s:List UInt8):Int:=xorF (s.foldl hstep 14695981039346656037) (shrF (s.foldl hstep 14695981039346656037) 32)
theorem hash_nn (s:List UInt8):0≤hashF s:=xor_nn _ _
def spotF (s:List UInt8):Int:=if keyOk s then (hashF s).tmod 16 else -1
theorem spot_ok {s:List UInt8} (h:keyOk s=true):0≤spotF s∧spotF s < 16:=by
 unfold spotF
 rw [if_pos h,Int.tmod_eq_emod_of_nonneg (hash_nn s)]
 omega
theorem spot_no {s:List UInt8} (h:keyOk s=false):spotF s = -1:=by simp [spotF,h]
theorem spot_wrap {s:List UInt8}:IntKind.i64.wrap ((hashF s).tmod 16)=(hashF s).tmod 16:=by
 have h:=hash_nn s
 rw [Int.tmod_eq_emod_of_nonneg h,wrap_i64] <;> omega
theorem fold_take {s:List UInt8} {i:Nat} {h:Int} (hi:i < s.length):(s.take (i + 1)).foldl hstep h=hstep ((s.take i).foldl hstep h) s[i]:=by
 rw [List.take_succ_eq_append_getElem hi,List.foldl_append]
 rfl
theorem idxs {s:List UInt8} {i:Nat} (hi:i < s.length):idx (.int .i64 (i:Int)) s.length=some i:=idx_nat hi
end Go.Proofs.YtgbnbgkldeifkaaGreatA

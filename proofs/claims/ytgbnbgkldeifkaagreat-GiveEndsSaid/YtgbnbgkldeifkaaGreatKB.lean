/- The part of a key, in the small environment. No statement about the program is proved here. -/
import Derived.Test.YtgbnbgkldeifkaaGreatE1B
import Derived.Test.YtgbnbgkldeifkaaGreatSP
namespace Go.Proofs.YtgbnbgkldeifkaaGreatA.B
open Go
set_option linter.unusedSimpArgs false
set_option linter.unusedVariables false
set_option maxRecDepth 1000000
attribute [local simp high] xor_eq mul_eq shr_eq
theorem c70 (s:List UInt8):Pu envE 70 [.str s] (.bool (keyOk s)):=by
 refine pu_is e70 rfl ?_
 rw [fr_init (by simp [fd70])]
 by_cases h1:(1:Int)≤s.length
 · have h1':1≤s.length:=by omega
   by_cases h2:(s.length:Int)≤32
   · have h2':s.length≤32:=by omega
     simp [fd70,b70,h1,h2,h1',h2',keyOk]
   · have h2':¬ s.length≤32:=by omega
     simp [fd70,b70,h1,h2,h1',h2',keyOk]
 · have h1':¬ 1≤s.length:=by omega
   simp [fd70,b70,h1,h1',keyOk]
@[simp] theorem k70 {s:List UInt8} {H:Heap} {K:AV→Heap→Prop}:wPu envE 70 (some [.str s]) H K=K (.bool (keyOk s)) H:=(wPu_eq (c70 s)).trans (by simp)
theorem c78 (s:List UInt8) (hl:s.length < 4611686018427387904):Pu envE 78 [.str s] (.int .u64 (hashF s)):=by
 refine pu_is e78 rfl ?_
 rw [fr_init (by simp [fd78])]
 simp [fd78,b78]
 refine loop_go [0,3,6,7] rfl (fun m vs H=>∃ i,m + i=s.length∧i≤s.length∧vs=[.str s,.int .u64 ((s.take i).foldl hstep 14695981039346656037),I s.length,I i]) ?_ s.length ⟨0,rfl,by omega,rfl⟩
 rintro J hJ m vs H f ⟨i,hm,hi0,rfl⟩
 by_cases hi:i < s.length
 · have hw:=wrap_succ (i:=i) (by omega)
   have e:=fold_take (h:=14695981039346656037) hi
   have hg:s.getD i 0=s[i]:=by rw [List.getD_eq_getElem?_getD,List.getElem?_eq_getElem hi];rfl
   simp [lp78_0,hi,idxs hi,hg,hw]
   refine nxt hJ (m - 1) (by omega) ⟨i + 1,by omega,by omega,?_⟩
   rw [e]
   rfl
 · have e:s.take i=s:=List.take_of_length_le (by omega)
   rw [e]
   simp [lp78_0,hi]
   rfl
@[simp] theorem k78 {s:List UInt8} {H:Heap} {K:AV→Heap→Prop} (hl:s.length < 4611686018427387904):wPu envE 78 (some [.str s]) H K=K (.int .u64 (hashF s)) H:=(wPu_eq (c78 s hl)).trans (by simp)
theorem c29 (s:List UInt8):Pu envE 29 [.str s] (I (spotF s)):=by
 refine pu_is e29 rfl ?_
 rw [fr_init (by simp [fd29])]
 cases h:keyOk s
 · simp [fd29,b29,h,spotF]
 · have hl:s.length < 4611686018427387904:=by simp [keyOk] at h;omega
   simp [fd29,b29,h,hl,spotF,spot_wrap]
@[simp] theorem k29 {s:List UInt8} {H:Heap} {K:AV→Heap→Prop}:wPu envE 29 (some [.str s]) H K=K (I (spotF s)) H:=(wPu_eq (c29 s)).trans (by simp)
end Go.Proofs.YtgbnbgkldeifkaaGreatA.B

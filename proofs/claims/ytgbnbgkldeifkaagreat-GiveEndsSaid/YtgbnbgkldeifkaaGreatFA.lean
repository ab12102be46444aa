/- Texts in rows: Index, Contains, BinarySearch; what a cursor has ahead. A cursor: what is ahead, what is told next. A cursor in memory, beside a vault. What a cursor's functions do. No statement about the program is proved here. -/
import Derived.Test.YtgbnbgkldeifkaaGreatFH
namespace Go.Proofs.YtgbnbgkldeifkaaGreatA
open Go
set_option linter.unusedSimpArgs false
set_option linter.unusedVariables false
set_option maxRecDepth 1000000
theorem c133 (l:List (List UInt8)) (x:List UInt8) (few:l.length < 1000000000000):∃ n:Int,Pu envE 133 [roL strC l,.str x] (I n)∧(decide (0≤n)=l.contains x):=by
 suffices h:∃ d,Pu envE 133 [roL strC l,.str x] d∧∃ n,d=I n∧(decide (0≤n)=l.contains x) by
  obtain ⟨d,h1,n,rfl,h2⟩:=h
  exact ⟨n,h1,h2⟩
 refine pu_ex e133 rfl ?_
 rw [fr_init (by simp [fd133])]
 simp [fd133,b133]
 refine loop_go [0,1,7,8] rfl (fun m vs H=>∃ i,m + i=l.length∧(∀ k (h:k < l.length),k < i→l[k] ≠ x)∧vs=[roL strC l,.str x,I l.length,I i]) ?_ l.length ⟨0,rfl,fun k _ h=>by omega,rfl⟩
 rintro J hJ m vs H f ⟨i,hm,hno,rfl⟩
 by_cases hi:i < l.length
 · have hw:=wrap_succ (i:=i) (by omega)
   by_cases he:x=l[i]
   · have hb:(x == l[i])=true:=by simpa using he
     have hc:(0≤(i:Int)):=by omega
     have hmem:l[i] ∈ l:=List.getElem_mem _
     simp [lp133_0,hi,idxSl_roL hi,str_load hi,-load_tp,binStr,hb,hc]
     rw [he]
     exact hmem
   · have hb:(x == l[i])=false:=by simpa using he
     simp [lp133_0,hi,idxSl_roL hi,str_load hi,-load_tp,binStr,hb,hw]
     refine nxt hJ (m - 1) (by omega) ⟨i + 1,by omega,fun k h hk=>?_,rfl⟩
     by_cases q:k=i
     · subst q;exact fun e=>he e.symm
     · exact hno k h (by omega)
 · have hnm:x ∉ l:=fun hx=>by
    obtain ⟨k,hk,e⟩:=List.getElem_of_mem hx
    exact hno k hk (by omega) e
   simp [lp133_0,hi]
   exact hnm
theorem c85 (l:List (List UInt8)) (x:List UInt8) (few:l.length < 1000000000000):Pu envE 85 [roL strC l,.str x] (.bool (l.contains x)):=by
 refine pu_is e85 rfl ?_
 obtain ⟨n,h1,h2⟩:=c133 l x few
 rw [fr_init (by simp [fd85])]
 simp [fd85,b85,wPu_eq h1]
 simpa using h2
theorem k85 {l:List (List UInt8)} {x:List UInt8} (few:l.length < 1000000000000) {H:Heap} {K:AV→Heap→Prop}:wPu envE 85 (some [roL strC l,.str x]) H K=K (.bool (l.contains x)) H:=(wPu_eq (c85 l x few)).trans (by simp)
theorem c127 (l:List (List UInt8)) (x:List UInt8) (few:l.length < 1000000000000):∃ n:Int,Pu envE 127 [roL strC l,.str x] (I n)∧(decide (0≤n)=l.contains x):=by
 suffices h:∃ d,Pu envE 127 [roL strC l,.str x] d∧∃ n,d=I n∧(decide (0≤n)=l.contains x) by
  obtain ⟨d,h1,n,rfl,h2⟩:=h
  exact ⟨n,h1,h2⟩
 refine pu_ex e127 rfl ?_
 rw [fr_init (by simp [fd127])]
 simp [fd127,b127]
 refine loop_go [0,1,7,8] rfl (fun m vs H=>∃ i,m + i=l.length∧(∀ k (h:k < l.length),k < i→l[k] ≠ x)∧vs=[roL strC l,.str x,I l.length,I i]) ?_ l.length ⟨0,rfl,fun k _ h=>by omega,rfl⟩
 rintro J hJ m vs H f ⟨i,hm,hno,rfl⟩
 by_cases hi:i < l.length
 · have hw:=wrap_succ (i:=i) (by omega)
   by_cases he:x=l[i]
   · have hb:(x == l[i])=true:=by simpa using he
     have hc:(0≤(i:Int)):=by omega
     have hmem:l[i] ∈ l:=List.getElem_mem _
     simp [lp127_0,hi,idxSl_roL hi,str_load hi,-load_tp,binStr,hb,hc]
     rw [he]
     exact hmem
   · have hb:(x == l[i])=false:=by simpa using he
     simp [lp127_0,hi,idxSl_roL hi,str_load hi,-load_tp,binStr,hb,hw]
     refine nxt hJ (m - 1) (by omega) ⟨i + 1,by omega,fun k h hk=>?_,rfl⟩
     by_cases q:k=i
     · subst q;exact fun e=>he e.symm
     · exact hno k h (by omega)
 · have hnm:x ∉ l:=fun hx=>by
    obtain ⟨k,hk,e⟩:=List.getElem_of_mem hx
    exact hno k hk (by omega) e
   simp [lp127_0,hi]
   exact hnm
theorem c79 (l:List (List UInt8)) (x:List UInt8) (few:l.length < 1000000000000):Pu envE 79 [roL strC l,.str x] (.bool (l.contains x)):=by
 refine pu_is e79 rfl ?_
 obtain ⟨n,h1,h2⟩:=c127 l x few
 rw [fr_init (by simp [fd79])]
 simp [fd79,b79,wPu_eq h1]
 simpa using h2
theorem k79 {l:List (List UInt8)} {x:List UInt8} (few:l.length < 1000000000000) {H:Heap} {K:AV→Heap→Prop}:wPu envE 79 (some [roL strC l,.str x]) H K=K (.bool (l.contains x)) H:=(wPu_eq (c79 l x few)).trans (by simp)
theorem c199 (x:List UInt8):Pu envE 199 [.str x] (.bool false):=by
 refine pu_is e199 rfl ?_
 rw [fr_init (by simp [fd199])]
 simp [fd199,b199,binStr]
@[simp] theorem k199 {x:List UInt8} {H:Heap} {K:AV→Heap→Prop}:wPu envE 199 (some [.str x]) H K=K (.bool false) H:=(wPu_eq (c199 x)).trans (by simp)
theorem c171 (x:List UInt8):Pu envE 171 [.str x] (.bool false):=by
 refine pu_is e171 rfl ?_
 rw [fr_init (by simp [fd171])]
 simp [fd171,b171,binStr]
@[simp] theorem k171 {x:List UInt8} {H:Heap} {K:AV→Heap→Prop}:wPu envE 171 (some [.str x]) H K=K (.bool false) H:=(wPu_eq (c171 x)).trans (by simp)
theorem c166 (x y:List UInt8):Pu envE 166 [.str x,.str y] (.bool (strLess x y)):=by
 refine pu_is e166 rfl ?_
 rw [fr_init (by simp [fd166])]
 simp [fd166,b166,binStr]
@[simp] theorem k166 {x y:List UInt8} {H:Heap} {K:AV→Heap→Prop}:wPu envE 166 (some [.str x,.str y]) H K=K (.bool (strLess x y)) H:=(wPu_eq (c166 x y)).trans (by simp)
def Strict (l:List (List UInt8)):Prop:=l.Pairwise fun a b=>strLess a b=true
theorem sless_tri {a b:List UInt8} (h1:strLess a b=false) (h2:strLess b a=false):a=b:=by
 have g1:¬ a < b:=fun e=>by rw [strLess_iff.2 e] at h1;cases h1
 have g2:¬ b < a:=fun e=>by rw [strLess_iff.2 e] at h2;cases h2
 exact List.le_antisymm (List.not_lt.1 g2) (List.not_lt.1 g1)
theorem sless_irr {a:List UInt8}:strLess a a=false:=by
 cases e:strLess a a
 · rfl
 · rw [sless_ord.asym _ _ e] at e;cases e
theorem sless_tr {a b c:List UInt8} (h1:strLess a b=true) (h2:strLess b c=true):strLess a c=true:=strLess_iff.2 (List.lt_trans (strLess_iff.1 h1) (strLess_iff.1 h2))
theorem keys_strict {s:VSt} {p:Int} (h:(s.bags.map Prod.fst).Nodup):Strict (keysS s p):=by
 refine List.pairwise_iff_getElem.2 fun i j hi hj hij=>?_
 have h1:=List.pairwise_iff_getElem.1 (sortS_sorted (l:=partF (s.bags.map Prod.fst) p)) i j hi hj hij
 have hn:(sortS (partF (s.bags.map Prod.fst) p)).Nodup:=(sortS_perm).nodup_iff.2 (h.filter _)
 have hne:=List.pairwise_iff_getElem.1 hn i j hi hj hij
 rw [strLess_iff]
 exact Classical.byContradiction fun q=>hne (List.le_antisymm h1 (List.not_lt.1 q))
structure Found (K:List (List UInt8)) (x:List UInt8) (i:Nat):Prop where
 le:i≤K.length
 below:∀ k (h:k < K.length),k < i→strLess K[k] x=true
 above:∀ k (h:k < K.length),i≤k→strLess K[k] x=false
def thereF (K:List (List UInt8)) (x:List UInt8) (i:Nat):Bool:=K[i]? == some x
def aheadF (K:List (List UInt8)) (last:List UInt8):Option (List UInt8):=K.find? fun k=>strLess last k
theorem ahead_found {K:List (List UInt8)} {x:List UInt8} {i:Nat} (hs:Strict K) (h:Found K x i):aheadF K x=if thereF K x i then K[i + 1]? else K[i]?:=by
 have hlow:∀ k (hk:k < K.length),k < i→(!strLess x K[k])=true:=fun k hk hki=>by
  rw [sless_ord.asym _ _ (h.below k hk hki)]
  rfl
 have none_of:(∀ k (hk:k < K.length),strLess x K[k]=false)→aheadF K x=none:=fun q=>by
  unfold aheadF
  rw [List.find?_eq_none]
  intro y hy
  obtain ⟨k,hk,rfl⟩:=List.getElem_of_mem hy
  rw [q k hk]
  simp
 have some_of:∀ j (hj:j < K.length),strLess x K[j]=true→(∀ k (hk:k < K.length),k < j→strLess x K[k]=false)→aheadF K x=some K[j]:=fun j hj q1 q2=>by
  unfold aheadF
  rw [List.find?_eq_some_iff_getElem]
  exact ⟨q1,j,hj,rfl,fun k hk=>by rw [q2 k (by omega) hk];rfl⟩
 by_cases ht:thereF K x i=true
 · rw [if_pos ht]
   have hx:K[i]?=some x:=by simpa [thereF] using ht
   obtain ⟨hi,hix⟩:=List.getElem?_eq_some_iff.1 hx
   have hle:∀ k (hk:k < K.length),k≤i→strLess x K[k]=false:=fun k hk q=>by
    by_cases e:k=i
    · subst e;rw [hix];exact sless_irr
    · exact sless_ord.asym _ _ (h.below k hk (by omega))
   by_cases h1:i + 1 < K.length
   · rw [List.getElem?_eq_getElem h1]
     refine some_of _ h1 ?_ fun k hk q=>hle k hk (by omega)
     have:=List.pairwise_iff_getElem.1 hs i (i + 1) hi h1 (by omega)
     rwa [hix] at this
   · rw [List.getElem?_eq_none (by omega)]
     exact none_of fun k hk=>hle k hk (by omega)
 · rw [if_neg ht]
   by_cases hi:i < K.length
   · rw [List.getElem?_eq_getElem hi]
     refine some_of _ hi ?_ fun k hk q=>sless_ord.asym _ _ (h.below k hk q)
     have hne:K[i] ≠ x:=fun e=>ht (by simp [thereF,List.getElem?_eq_getElem hi,e])
     cases e:strLess x K[i]
     · exact absurd (sless_tri (h.above i hi (Nat.le_refl _)) e) hne
     · rfl
   · rw [List.getElem?_eq_none (by omega)]
     exact none_of fun k hk=>sless_ord.asym _ _ (h.below k hk (by omega))
theorem shr1 {a:Nat} (h:a < 4611686018427387904):IntKind.i64.wrap (((IntKind.u64.wrap (a:Int)).fdiv 2))=((a / 2:Nat):Int):=by
 have e:IntKind.u64.wrap (a:Int)=(a:Int):=by simp [IntKind.wrap,IntKind.signed,IntKind.bits];omega
 rw [e,Int.fdiv_eq_ediv_of_nonneg _ (by omega),wrap_i64] <;> omega
end Go.Proofs.YtgbnbgkldeifkaaGreatA
namespace Go.Proofs.YtgbnbgkldeifkaaGreatA
open Go
set_option linter.unusedSimpArgs false
set_option linter.unusedVariables false
set_option maxRecDepth 1000000
section
variable {lim:Nat} {H:Heap} {K:List (List UInt8)} {v:AV}
theorem row_str0 (h:Row lim H 1 strC K v) {i:Nat} (hi:i < K.length) {k:IntKind}:∃ p,idxSlAV 1 (.int k (i:Int)) v=some p∧loadAt H none p=some (.str K[i]):=⟨_,h.at hi,h.load1 (g:=AV.str) (fun _=>rfl) hi⟩
set_option maxHeartbeats 1000000 in
theorem c131 (h:Row lim H 1 strC K v) (hs:Strict K) (few:K.length < 1000000000000) (x:List UInt8) (l2:Nat) :
 WCl envE 131 [v,.str x] l2 H fun r H'=>H'=H∧∃ i,Found K x i∧r=.tup [I i,.bool (thereF K x i)]:=by
 refine cl_of e131 rfl ?_
 rw [fr_init (by simp [fd131])]
 simp [fd131,b131,h.len]
 refine loop_go [0,1,6,7,8] rfl (fun m vs H'=>H'=H∧∃ i j,m + i=j∧i≤j∧j≤K.length∧(∀ k (h:k < K.length),k < i→strLess K[k] x=true)∧(∀ k (h:k < K.length),j≤k→strLess K[k] x=false)∧vs=[v,.str x,I K.length,I i,I j]) ?_ K.length ⟨rfl,0,K.length,rfl,Nat.zero_le _,Nat.le_refl _,fun k _ q=>by omega,fun k h q=>by omega,rfl⟩
 rintro J hJ m vs H' f ⟨rfl,i,j,hm,hij,hj,hlo,hhi,rfl⟩
 by_cases hc:i < j
 · obtain ⟨mid,hmid⟩:∃ mid,mid=(i + j) / 2:=⟨_,rfl⟩
   have hml:mid < K.length:=by omega
   have hw:IntKind.i64.wrap ((i:Int) + (j:Int))=((i + j:Nat):Int):=by rw [wrap_i64] <;> omega
   have hsh:=shr1 (a:=i + j) (by omega)
   rw [← hmid] at hsh
   rw [Int.natCast_add] at hw hsh
   obtain ⟨p,hp1,hp2⟩:=row_str0 h hml (k:=.i64)
   by_cases hlt:strLess K[mid] x=true
   · have hwm:=wrap_succ (i:=mid) (by omega)
     simp [lp131_0,hc,hw,hsh,hp1,hp2,hlt,hwm,IntKind.bits]
     exact nxt hJ (m - (mid + 1 - i)) (by omega) ⟨rfl,mid + 1,j,by omega,by omega,hj,fun k hk q=>by
      by_cases e:k=mid
      · subst e;exact hlt
      · by_cases e2:k < i
        · exact hlo k hk e2
        · have:=List.pairwise_iff_getElem.1 hs k mid hk hml (by omega)
          exact sless_tr this hlt,hhi,rfl⟩
   · have hlt':strLess K[mid] x=false:=by simpa using hlt
     simp [lp131_0,hc,hw,hsh,hp1,hp2,hlt',IntKind.bits]
     exact nxt hJ (m - (j - mid)) (by omega) ⟨rfl,i,mid,by omega,by omega,by omega,hlo,fun k hk q=>by
      by_cases e:k=mid
      · subst e;exact hlt'
      · have h1:=List.pairwise_iff_getElem.1 hs mid k hml hk (by omega)
        exact sless_ord.tr _ _ _ hlt' (sless_ord.asym _ _ h1),rfl⟩
 · obtain rfl:i=j:=by omega
   by_cases hl:i < K.length
   · obtain ⟨p,hp1,hp2⟩:=row_str0 h hl (k:=.i64)
     by_cases he:K[i]=x
     · have hb:(K[i] == x)=true:=by simpa using he
       simp [lp131_0,hl,hp1,hp2,binStr,he]
       exact ⟨i,⟨by omega,hlo,hhi⟩,rfl,by simp [thereF,List.getElem?_eq_getElem hl,he]⟩
     · have hb:(K[i] == x)=false:=by simpa using he
       simp [lp131_0,hl,hp1,hp2,binStr,hb]
       exact ⟨i,⟨by omega,hlo,hhi⟩,rfl,by simp [thereF,List.getElem?_eq_getElem hl,he]⟩
   · simp [lp131_0,hl]
     exact ⟨i,⟨by omega,hlo,hhi⟩,rfl,by simp [thereF,List.getElem?_eq_none (show K.length≤i by omega)]⟩
end
def optTup (o:Option (List UInt8)):AV:=.tup [.str (o.getD []),.bool o.isSome]
section
variable {lim:Nat} {H:Heap} {K:List (List UInt8)} {v w:AV} {cb:Nat} {part:Int} {last:List UInt8}
theorem c82 (hb:H[cb]?=some (curB part w last)) (h:Row lim H 1 strC K v) (hs:Strict K) (few:K.length < 1000000000000) (l2:Nat) :
 WCl envE 82 [.ptr (some (cb,0)),v] l2 H fun r H'=>H'=H∧r=optTup (aheadF K last):=by
 refine cl_of e82 rfl ?_
 have hcb:=cells_of hb
 rw [fr_init (by simp [fd82])]
 simp [fd82,b82,hcb,curB,shapeOf]
 refine WCl.mono (c131 h hs few last l2) ?_
 rintro _ _ ⟨rfl,i,hf,rfl⟩
 have ha:=ahead_found hs hf
 have hle:=hf.le
 have hlen:=h.len
 cases ht:thereF K last i
 · rw [ht] at ha
   simp only [Bool.false_eq_true,if_false] at ha
   by_cases hi:i < K.length
   · obtain ⟨p,hp1,hp2⟩:=row_str0 h hi (k:=.i64)
     have hne:¬ ((i:Int)=(K.length:Int)):=by omega
     have hne2:¬ i=K.length:=by omega
     rw [List.getElem?_eq_getElem hi] at ha
     simp [ht,hlen,hne,hne2,hp1,hp2,ha,optTup]
   · obtain rfl:i=K.length:=by omega
     rw [List.getElem?_eq_none (Nat.le_refl _)] at ha
     simp [ht,hlen,ha,optTup]
 · rw [ht] at ha
   simp only [if_true] at ha
   have hil:i < K.length:=by
    have:K[i]?=some last:=by simpa [thereF] using ht
    exact (List.getElem?_eq_some_iff.1 this).1
   have hw:=wrap_succ (i:=i) (by omega)
   by_cases hi:i + 1 < K.length
   · obtain ⟨p,hp1,hp2⟩:=row_str0 h hi (k:=.i64)
     have hne:¬ (((i + 1:Nat):Int)=(K.length:Int)):=by omega
     have hne2:¬ i + 1=K.length:=by omega
     have hne3:¬ ((i:Int) + 1=(K.length:Int)):=by omega
     rw [List.getElem?_eq_getElem hi] at ha
     rw [Int.natCast_add,Int.natCast_one] at hw hp1
     simp [ht,hlen,hne,hne2,hne3,hp1,hp2,hw,ha,optTup]
   · have he:i + 1=K.length:=by omega
     have he3:((i:Int) + 1=(K.length:Int)):=by omega
     rw [List.getElem?_eq_none (by omega)] at ha
     rw [Int.natCast_add,Int.natCast_one] at hw
     have hwl:IntKind.i64.wrap (K.length:Int)=(K.length:Int):=by rw [wrap_i64] <;> omega
     simp [ht,hlen,he,he3,hwl,ha,optTup]
end
end Go.Proofs.YtgbnbgkldeifkaaGreatA
namespace Go.Proofs.YtgbnbgkldeifkaaGreatA
open Go
set_option linter.unusedSimpArgs false
set_option linter.unusedVariables false
set_option maxRecDepth 1000000
def isCur:ABlk→Bool
 | .cells false [_,_,.str _]=>true
 | .cells true (.str _ :: _)=>true
 | _=>false
structure CurM (H:Heap) (cb:Nat) (part:Int) (due:List (List UInt8)) (last:List UInt8) (v:AV):Prop where
 strict:Strict due
 few:due.length < 1000000000
 pile:(due=[]∧v=.nilsl∧H[cb]?=some (curB part .nilsl last))∨∃ b l Rs,l.Perm due∧HeapN strLess l l.length∧v=.sl b 0 l.length 1∧Pile H cb b part last l (Rs.map .str)∧l++Rs ≠ []
section
variable {H H' X:Heap} {cb:Nat} {part:Int} {due:List (List UInt8)} {last:List UInt8} {v v':AV}
theorem CurM.box (h:CurM H cb part due last v):H[cb]?=some (curB part v last):=by
 rcases h.pile with ⟨_,e,g⟩ | ⟨b,l,Rs,_,_,e,g,_⟩
 · rw [e];exact g
 · rw [e];exact g.box
theorem CurM.pileV (h:CurM H cb part due last v):∃ l,l.Perm due∧HeapN strLess l l.length∧PileV H cb part last l v:=by
 rcases h.pile with ⟨e1,e2,g⟩ | ⟨b,l,Rs,h1,h2,e2,g,_⟩
 · rw [e1,e2];exact ⟨[],.refl _,fun k k0 kn=>by simp at kn,.nil g⟩
 · rw [e2];exact ⟨l,h1,h2,.sl g⟩
theorem CurM.app (h:CurM H cb part due last v):CurM (H++X) cb part due last v:=by
 refine ⟨h.strict,h.few,?_⟩
 rcases h.pile with ⟨a,b,c⟩ | ⟨b,l,Rs,h1,h2,h3,h4,h5⟩
 · exact .inl ⟨a,b,get_app c⟩
 · exact .inr ⟨b,l,Rs,h1,h2,h3,⟨get_app h4.box,get_app h4.row,h4.few⟩,h5⟩
theorem CurM.off_ge (h:CurM H cb part due last v) {c:Nat} (hc:H.length≤c):Off v c:=by
 rcases h.pile with ⟨_,e,_⟩ | ⟨b,l,Rs,_,_,e,g,_⟩
 · rw [e];exact Off.nil
 · rw [e];exact Off.sl (by have:=lt_of g.row;omega)
theorem pile_cur {l Rs:List (List UInt8)} (h:l++Rs ≠ []):isCur (pileB l (Rs.map .str))=true:=by
 cases l with
 | cons x l=>rfl
 | nil =>
  cases Rs with
  | cons x l=>rfl
  | nil=>exact absurd rfl h
theorem CurM.off (h:CurM H cb part due last v) {c:Nat} {z:ABlk} (hz:H[c]?=some z) (hi:isCur z=false):Off v c:=by
 rcases h.pile with ⟨_,e,_⟩ | ⟨b,l,Rs,_,_,e,g,hne⟩
 · rw [e];exact Off.nil
 · rw [e]
   refine Off.sl fun e=>?_
   subst e
   rw [g.row] at hz
   cases hz
   rw [pile_cur hne] at hi
   cases hi
theorem CurM.ne (h:CurM H cb part due last v) {c:Nat} {z:ABlk} (hz:H[c]?=some z) (hi:isCur z=false):c ≠ cb:=by
 rintro rfl
 rw [h.box] at hz
 cases hz
 cases hi
structure FrV (H H':Heap) (cb:Nat) (v v':AV):Prop where
 len:H.length≤H'.length
 keep:∀ (c:Nat) (z:ABlk),H[c]?=some z→c ≠ cb→Off v c→H'[c]?=some z
 offs:∀ c,c < H.length→Off v c→Off v' c
theorem FrV.refl:FrV H H cb v v:=⟨Nat.le_refl _,fun _ _ h _ _=>h,fun _ _ h=>h⟩
theorem FrV.app:FrV H (H++X) cb v v:=⟨by simp,fun _ _ h _ _=>get_app h,fun _ _ h=>h⟩
theorem FrV.trans {H1:Heap} {v1:AV} (h:FrV H H1 cb v v1) (k:FrV H1 H' cb v1 v'):FrV H H' cb v v' :=
 ⟨Nat.le_trans h.len k.len,fun c z hz n o=>k.keep c z (h.keep c z hz n o) n (h.offs c (lt_of hz) o),fun c hc o=>k.offs c (Nat.lt_of_lt_of_le hc h.len) (h.offs c hc o)⟩
theorem FrV.still (f:FrV H H' cb v v') (h:CurM H cb part due last v) {c:Nat} {z:ABlk} (hz:H[c]?=some z) (hi:isCur z=false):H'[c]?=some z:=f.keep c z hz (h.ne hz hi) (h.off hz hi)
theorem val_cur {l:List Val}:isCur (.cells true (l.flatMap valC))=false:=by
 cases l <;> rfl
theorem int_cur {l:List Int}:isCur (.cells true (l.flatMap intC))=false:=by
 cases l <;> rfl
theorem Row.keepC {α:Type} {lim e:Nat} {f:α→List AV} {l:List α} {w:AV} (h:Row lim H e f l w) (hf:isCur (.cells true (l.flatMap f))=false) (hk:∀ (b:Nat) (z:ABlk),H[b]?=some z→isCur z=false→H'[b]?=some z):Row lim H' e f l w:=by
 rcases h with h | ⟨ne,c,g1,g2,g3⟩
 · exact .inl h
 · exact .inr ⟨ne,c,g1,g2,hk c _ g3 hf⟩
theorem Ents.keepC:∀ {l:List (List UInt8 × Bag)} {es:List (AV × AV × Nat)},Ents H l es→(∀ (b:Nat) (z:ABlk),H[b]?=some z→isCur z=false→H'[b]?=some z)→Ents H' l es
 | [],[],_,_=>trivial
 | (k,b) :: l,e :: es,h,hk=>by
  obtain ⟨⟨r,n,h1,h2⟩,h3⟩:=h
  exact ⟨⟨r,n,h1,h2.keepC val_cur hk⟩,h3.keepC hk⟩
 | [],_ :: _,h,_=>h.elim
 | _ :: _,[],h,_=>h.elim
theorem DRow.keepC {lim:Nat} {ds:List Deed} {v:AV} (h:DRow lim H ds v) (hv:ds=[]→v=.nilsl) (hk:∀ (b:Nat) (z:ABlk),H[b]?=some z→isCur z=false→H'[b]?=some z):DRow lim H' ds v:=by
 rcases h with h | ⟨c,cs,h0,h1,h2,h3,h4⟩
 · exact .inl h
 · have ne:ds ≠ []:=fun e=>by rw [hv e] at h1;cases h1
   have hl:=List.length_pos_iff.2 ne
   have hcs:isCur (.cells true cs)=false:=by
    obtain ⟨v1,v2,e,_⟩:=h4 0 hl
    rw [Nat.zero_mul,List.drop_zero] at e
    cases cs with
    | nil=>rfl
    | cons x cs =>
     rw [List.take_succ_cons] at e
     have:x=I (ds[0]'hl).kind:=by
      have:=congrArg List.head? e
      simpa [deedM,deedV] using this
     subst this
     rfl
   refine .inr ⟨c,cs,h0,h1,hk _ _ h2 hcs,h3,fun i hi=>?_⟩
   obtain ⟨v1,v2,e,r1,r2,o1,o2⟩:=h4 i hi
   exact ⟨v1,v2,e,r1.keepC val_cur hk,r2.keepC int_cur hk,o1,o2⟩
theorem vlt_cur {lb mi:Nat} {s:VSt} {q:AV}:isCur (.cells false (vltC lb mi s q))=false:=by kernel_rfl
theorem Vlt.keepC {p lb mi:Nat} {s:VSt} {w q:AV} {es:List (AV × AV × Nat)} {ck:Nat} (h:Vlt H p lb mi s w q es ck) (hk:∀ (b:Nat) (z:ABlk),H[b]?=some z→isCur z=false→H'[b]?=some z):Vlt H' p lb mi s w q es ck :=
 ⟨hk _ _ h.box vlt_cur,⟨hk _ _ h.led.at' rfl,h.led.row.keepC h.vn hk,h.led.few⟩,h.tgt.keepC int_cur hk,hk _ _ h.map rfl,⟨h.ents.ents.keepC hk,h.ents.lt,h.ents.nd,h.ents.uniq⟩,h.vn⟩
theorem str_isD {l:List (List UInt8)}:isD (l.map AV.str)=false:=by
 unfold isD
 rw [List.getElem?_map]
 cases l[11]? <;> rfl
theorem vlt_three {lb mi:Nat} {s:VSt} {q a b c:AV}:vltC lb mi s q ≠ [a,b,c]:=fun e=>by
 have:=congrArg List.length e
 rw [vlt_len] at this
 cases this
theorem CurM.keepK {p lb mi:Nat} {s:VSt} {w q:AV} {es:List (AV × AV × Nat)} {ck:Nat} (h:CurM H cb part due last v) (hv:Vlt H p lb mi s w q es ck) (k:Kp H H' p lb mi):CurM H' cb part due last v:=by
 have n1:∀ u,H[cb]?=some (curB part u last)→cb ≠ p:=fun u hu=>by
  rintro rfl
  rw [hv.box] at hu
  have:=Option.some.inj hu
  injection this with _ e
  exact vlt_three e
 have n2:∀ u,H[cb]?=some (curB part u last)→cb ≠ lb:=fun u hu=>by
  rintro rfl
  rw [hv.led.at'] at hu
  cases hu
 have n3:∀ u,H[cb]?=some (curB part u last)→cb ≠ mi:=fun u hu=>by
  rintro rfl
  rw [hv.map] at hu
  cases hu
 have kb:∀ u,H[cb]?=some (curB part u last)→H'[cb]?=some (curB part u last):=fun u hu=>k.keep _ _ hu (n1 u hu) (n2 u hu) (n3 u hu) fun y e=>by cases e
 refine ⟨h.strict,h.few,?_⟩
 rcases h.pile with ⟨a,b,c⟩ | ⟨b,l,Rs,h1,h2,h3,h4,h5⟩
 · exact .inl ⟨a,b,kb _ c⟩
 · refine .inr ⟨b,l,Rs,h1,h2,h3,⟨kb _ h4.box,k.keep _ _ h4.row ?_ ?_ ?_ ?_,h4.few⟩,h5⟩
   · rintro rfl
     have:=h4.row
     rw [hv.box] at this
     cases this
   · rintro rfl
     have:=h4.row
     rw [hv.led.at'] at this
     cases this
   · rintro rfl
     have:=h4.row
     rw [hv.map] at this
     cases this
   · intro y e
     cases e
     rw [← List.map_append]
     exact str_isD
end
end Go.Proofs.YtgbnbgkldeifkaaGreatA
namespace Go.Proofs.YtgbnbgkldeifkaaGreatA
open Go
set_option linter.unusedSimpArgs false
set_option linter.unusedVariables false
set_option maxRecDepth 1000000
def nextF (K:List (List UInt8)):List (List UInt8)→List UInt8→Option (List UInt8) × List (List UInt8) × List UInt8
 | [],last=>(aheadF K last,[],(aheadF K last).getD last)
 | d :: ds,last=>if K.contains d then (some d,ds,last) else nextF K ds last
section
variable {H:Heap} {cb:Nat} {part:Int} {due:List (List UInt8)} {last:List UInt8} {v:AV}
theorem CurM.pop {d:List UInt8} {ds:List (List UInt8)} (h:CurM H cb part (d :: ds) last v) :
 WCl envE 126 [.iface 143 (.ptr (some (cb,1)))] 0 H fun r H'=>r=.iface 9 (.str d)∧∃ v',CurM H' cb part ds last v'∧FrV H H' cb v v':=by
 rcases h.pile with ⟨e,_,_⟩ | ⟨b,l,Rs,h1,h2,rfl,h4,h5⟩
 · cases e
 · have hne:l ≠ []:=fun e=>by rw [e] at h1;exact absurd h1.symm (List.not_perm_cons_nil)
   refine WCl.mono (c126 h4 h2 hne) ?_
   rintro _ H' ⟨x,l',rfl,p1,low,hh,hp,hlen,keep⟩
   have hx:x=d:=by
    have m1:d ∈ l:=h1.symm.subset (.head _)
    have m2:x ∈ d :: ds:=h1.subset (p1.subset (.head _))
    rcases List.mem_cons.1 m2 with q | q
    · exact q
    · have:=(List.pairwise_cons.1 h.strict).1 x q
      rw [low d m1] at this
      cases this
   subst hx
   have p2:l'.Perm ds:=(p1.trans h1).cons_inv
   have hs:=(List.pairwise_cons.1 h.strict).2
   have hf:=h.few
   simp only [List.length_cons] at hf
   refine ⟨rfl,_,⟨hs,by omega,.inr ⟨b,l',x :: Rs,p2,hh,rfl,hp,by simp⟩⟩,⟨by omega,fun c z hz n o=>keep c z hz n fun e=>?_,fun c hc o=>Off.sl fun e=>?_⟩⟩
   · subst e;exact o 0 l.length 1 rfl
   · subst e;exact o 0 l.length 1 rfl
theorem CurM.len (h:CurM H cb part due last v):lenSlAV v=some (I due.length):=by
 rcases h.pile with ⟨rfl,rfl,g⟩ | ⟨b,l,Rs,h1,h2,rfl,g,_⟩
 · rfl
 · rw [← h1.length_eq];rfl
theorem CurM.told (h:CurM H cb part due last v) (k:List UInt8):CurM (H.set cb (curB part v k)) cb part due k v:=by
 have hl:=lt_of h.box
 refine ⟨h.strict,h.few,?_⟩
 rcases h.pile with ⟨a,b,c⟩ | ⟨b,l,Rs,h1,h2,h3,h4,h5⟩
 · subst b;exact .inl ⟨a,rfl,by rw [List.getElem?_set_self hl]⟩
 · subst h3;exact .inr ⟨b,l,Rs,h1,h2,rfl,⟨by rw [List.getElem?_set_self hl],get_set h4.row h4.ne,h4.few⟩,h5⟩
variable {K:List (List UInt8)} {kv:AV}
theorem Row.frV {H':Heap} {v':AV} {lim:Nat} (h:Row lim H 1 strC K kv) (f:FrV H H' cb v v') (hcb:H[cb]?=some (curB part v last)) (ha:∀ b o n s,kv=.sl b o n s→Off v b):Row lim H' 1 strC K kv:=by
 rcases h with h | ⟨ne,c,g1,g2,g3⟩
 · exact .inl h
 · refine .inr ⟨ne,c,g1,g2,f.keep c _ g3 (fun e=>?_) (ha _ _ _ _ g2)⟩
   subst e
   rw [hcb] at g3
   cases g3
set_option maxHeartbeats 1000000 in
theorem c77 (h:CurM H cb part due last v) (hk:Row 0 H 1 strC K kv) (hs:Strict K) (few:K.length < 1000000000000) (ha:∀ b o n s,kv=.sl b o n s→Off v b) :
 WCl envE 77 [.ptr (some (cb,0)),kv] 0 H fun r H'=>r=optTup (nextF K due last).1∧∃ v',CurM H' cb part (nextF K due last).2.1 (nextF K due last).2.2 v'∧FrV H H' cb v v':=by
 refine cl_of e77 rfl ?_
 rw [fr_init (by simp [fd77])]
 simp [fd77,b77]
 refine loop_go [0,1] rfl (fun m vs H'=>∃ due' v',m=due'.length∧nextF K due' last=nextF K due last∧CurM H' cb part due' last v'∧FrV H H' cb v v'∧vs=[.ptr (some (cb,0)),kv]) ?_ due.length ⟨due,v,rfl,rfl,h,.refl,rfl⟩
 rintro J hJ m vs H1 f ⟨due1,v1,rfl,hn,h1,fr1,rfl⟩
 have hb1:=cells_of h1.box
 have hlen:=h1.len
 have hk1:=hk.frV fr1 h.box ha
 cases due1 with
 | nil =>
  have call:=c82 h1.box hk1 hs few 0
  rw [← hn]
  simp [lp77_0,hb1,curB,shapeOf,hlen]
  refine WCl.mono call ?_
  rintro _ H2 ⟨e,rfl⟩
  obtain rfl:=e.symm
  cases ho:aheadF K last with
  | none =>
   simp [optTup,nextF,ho]
   exact ⟨v1,h1,fr1⟩
  | some k =>
   have e1:storeAt 0 H1 1 (.ptr (some (cb,2))) (.str k)=some (H1.set cb (curB part v1 k)):=by
    have:=store_of (lim:=0) (n:=1) (o:=2) (v:=.str k) h1.box (by omega) (by simp [AV.cells]) (by simp) (by simp [AV.cells,AV.one])
    rw [this]
    rfl
   simp [optTup,nextF,ho,e1]
   exact ⟨v1,h1.told k,fr1.trans ⟨by simp,fun c z hz n o=>get_set hz (Ne.symm n),fun c hc o=>o⟩⟩
 | cons d ds =>
  have hpos:(0:Int) < (ds.length:Int) + 1:=by omega
  simp [lp77_0,hb1,curB,shapeOf,hlen,hpos]
  refine WCl.mono h1.pop ?_
  rintro _ H2 ⟨rfl,v2,h2,fr2⟩
  have hk2:=hk.frV (fr1.trans fr2) h.box ha
  have hfz:=hk2.frz (d:=10) (fun x=>(rfl:(strC x).length=1)) str_flat
  have k85':=fun H' K'=>k85 (l:=K) (x:=d) few (H:=H') (K:=K')
  by_cases hc:K.contains d=true
  · have hc':d ∈ K:=by simpa using hc
    rw [← hn]
    simp [hfz,k85',hc,hc',nextF,optTup]
    exact ⟨v2,h2,fr1.trans fr2⟩
  · have hc':¬ d ∈ K:=by simpa using hc
    simp [hfz,k85',hc,hc']
    refine nxt hJ ds.length (by simp) ⟨ds,v2,rfl,?_,h2,fr1.trans fr2,rfl⟩
    rw [← hn]
    simp [nextF,hc']
end
end Go.Proofs.YtgbnbgkldeifkaaGreatA

/- The small machine, part B2. No statement about the program is proved here. -/
import Derived.Test.YtgbnbgkldeifkaaGreatB1
import Derived.ProofKit
import Derived.OpenShut
import Derived.ChangeArms
import Derived.Carry
import Derived.Below
import Derived.SizedLaws
/- A step of the small machine; regions in the order of the text. No statement about the program is proved here. -/
namespace Go.Proofs.YtgbnbgkldeifkaaGreatA
open Go Go.RowKit
set_option linter.unusedVariables false
section
variable {w0:World} {ro:Nat→Prop} {P:Program} {μ:Mu} {H:Heap} {w:World} {T:Tmps} {lim:Nat} {E:AEnv}
theorem AR.get {a:Act} {t:Nat} {v:AV} (h:AR w0 ro μ T a) (e:T[t]?=some v):∃ v',a.tmps[t]?=some v'∧VR w0 ro μ v v':=by
 obtain ⟨v',h1,h2⟩:=h.2.get e
 exact ⟨v',by simpa using h1,h2⟩
theorem wanted_sim {ops:Array Oper} {o:Oper} {a:Act} {g:Option (Nat × Bool)} {b:Bool} (har:AR w0 ro μ T a) (hg:lowGuard ops o.guard=some g) (h:wantedA T g=some b) :
 Region.wanted o (yielded ops a.tmps)=b:=by
 unfold Region.wanted
 cases e:o.guard with
 | none =>
  rw [e] at hg
  simp only [lowGuard,Option.some.injEq] at hg
  subst hg
  simp only [wantedA,Option.some.injEq] at h
  simpa using h
 | some p =>
  obtain ⟨j,want⟩:=p
  rw [e] at hg
  simp only [lowGuard,Option.map_eq_some_iff] at hg
  obtain ⟨t,h1,rfl⟩:=hg
  simp only [wantedA] at h
  unfold yielded
  simp only [h1,Option.bind_some]
  split at h
  · rename_i c ec
    obtain ⟨v',h2,h3⟩:=har.get ec
    cases h3
    cases h
    rw [h2]
    cases c <;> cases want <;> rfl
  · rename_i ec
    obtain ⟨v',h2,h3⟩:=har.get ec
    cases h3
    cases h
    rw [h2]
    rfl
  · cases h
theorem lowOper_dst {ops:Array Oper} {o:Oper}:(lowOper P ops o).dst=o.dst:=by
 unfold lowOper;split <;> rfl
def ValOf (E:AEnv) (ex:AC→Nat→Tmps→Heap→Step) (lim:Nat) (o:AOper) (T:Tmps) (H:Heap) (v:AV) (H':Heap):Prop :=
 (wantedA T o.guard=some false∧v=.noval∧H'=H)∨(wantedA T o.guard=some true∧runOp E ex lim T H o.op=some (v,H'))
theorem stepOp_val {ex:AC→Nat→Tmps→Heap→Step} {o:AOper} {R:Tmps × Heap} (h:stepOp E ex lim o T H=some R):∃ v,R.1=putT T o.dst v∧ValOf E ex lim o T H v R.2:=by
 unfold stepOp at h
 simp only [Option.bind_eq_some_iff] at h
 obtain ⟨b,h1,h2⟩:=h
 cases b with
 | false =>
  simp only [Option.some.injEq] at h2
  subst h2
  exact ⟨.noval,rfl,.inl ⟨h1,rfl,rfl⟩⟩
 | true =>
  simp only [Option.map_eq_some_iff] at h2
  obtain ⟨⟨v,H2⟩,h3,rfl⟩:=h2
  exact ⟨v,rfl,.inr ⟨h1,h3⟩⟩
theorem step_val (hE:EnvOK P E) {ex:AC→Nat→Tmps→Heap→Step} (hC:CallSim P E ex) {ops:Array Oper} {i:Nat} {o:Oper} {a:Act} {v:AV} {H':Heap} (hi:ops[i]?=some o)
 (hr:HR w0 ro μ H w) (har:AR w0 ro μ T a) (h:ValOf E ex lim (lowOper P ops o) T H v H')
 {K:Act→World→Prop} {Q:Exit→Act→World→Prop} (hK:∀ μ' v' w',Post w0 ro lim μ H w μ' H' w'→VR w0 ro μ' v v'→K (a.put o.dst v') w'):wpOp P ops Q i K a w:=by
 unfold wpOp
 simp only [hi]
 cases hg:lowGuard ops o.guard with
 | none =>
  have:lowOper P ops o=⟨o.dst,none,.fail⟩:=by simp only [lowOper,hg]
  rw [this] at h
  rcases h with ⟨h,_⟩ | ⟨_,h⟩
  · simp [wantedA] at h
  · simp [runOp,aop] at h
 | some g =>
  have e1:lowOper P ops o=⟨o.dst,g,lowOp P o.op⟩:=by simp only [lowOper,hg]
  rw [e1] at h
  rcases h with ⟨h1,rfl,rfl⟩ | ⟨h1,h3⟩
  · rw [wanted_sim har hg h1]
    simp only [Bool.false_eq_true,if_false]
    exact hK μ _ w (Post.refl hr) .noval
  · rw [wanted_sim har hg h1]
    simp only [if_true]
    exact .inl (run_sim hE hC hr har h3 fun μ' v' w' hp hv=>hK μ' _ w' hp hv)
theorem step_sim (hE:EnvOK P E) {ex:AC→Nat→Tmps→Heap→Step} (hC:CallSim P E ex) {ops:Array Oper} {i:Nat} {o:Oper} {a:Act} {T':Tmps} {H':Heap} (hi:ops[i]?=some o)
 (hr:HR w0 ro μ H w) (har:AR w0 ro μ T a) (h:stepOp E ex lim (lowOper P ops o) T H=some (T',H'))
 {K:Act→World→Prop} {Q:Exit→Act→World→Prop} (hK:∀ μ' a' w',Post w0 ro lim μ H w μ' H' w'→AR w0 ro μ' T' a'→K a' w'):wpOp P ops Q i K a w:=by
 obtain ⟨v,h1,h2⟩:=stepOp_val h
 simp only at h1 h2
 subst h1
 refine step_val hE hC hi hr har h2 fun μ' v' w' hp hv=>hK μ' _ w' hp ?_
 rw [lowOper_dst]
 exact (har.ext hp.ext).put o.dst hv
theorem ops_sim (hE:EnvOK P E) {ex:AC→Nat→Tmps→Heap→Step} (hC:CallSim P E ex) {ops:Array Oper} {Q:Exit→Act→World→Prop} {w1:World} {μ1:Mu} {H1:Heap}:∀ (n k:Nat) (μ:Mu) (H:Heap) (w:World) (T:Tmps) (a:Act) (T':Tmps) (H':Heap),k + n=ops.size →
 HR w0 ro μ H w→AR w0 ro μ T a→Post w0 ro lim μ1 H1 w1 μ H w→runOps E ex lim ((ops.toList.drop k).map (lowOper P ops)) T H=some (T',H') →
 (∀ μ' a' w',Post w0 ro lim μ1 H1 w1 μ' H' w'→AR w0 ro μ' T' a'→Q .normal a' w')→wpOps P ops Q (List.range' k n) a w
 | 0,k,μ,H,w,T,a,T',H',hk,hr,har,hp,h,hQ=>by
  have:ops.toList.drop k=[]:=List.drop_eq_nil_of_le (by simp;omega)
  rw [this] at h
  simp only [List.map_nil,runOps,Option.some.injEq,Prod.mk.injEq] at h
  obtain ⟨rfl,rfl⟩:=h
  exact hQ μ a w hp har
 | n + 1,k,μ,H,w,T,a,T',H',hk,hr,har,hp,h,hQ=>by
  have hlt:k < ops.size:=by omega
  have hi:ops[k]?=some ops[k]:=Array.getElem?_eq_getElem hlt
  have:ops.toList.drop k=ops[k] :: ops.toList.drop (k + 1):=by
   rw [List.drop_eq_getElem_cons (by simpa using hlt)];simp
  rw [this] at h
  simp only [List.map_cons,runOps,Option.bind_eq_some_iff] at h
  obtain ⟨⟨T2,H2⟩,h1,h2⟩:=h
  rw [List.range'_succ,wpOps_cons]
  exact step_sim hE hC hi hr har h1 fun μ' a' w' hp' har'=>ops_sim hE hC n (k + 1) μ' H2 w' T2 a' T' H' (by omega) hp'.hr har' (hp.trans hp') h2 hQ
theorem region_sim (hE:EnvOK P E) {ex:AC→Nat→Tmps→Heap→Step} (hC:CallSim P E ex) {id:Nat} {ops:Array Oper} {Q:Exit→Act→World→Prop} {a:Act} {T':Tmps} {H':Heap}
 (hr:HR w0 ro μ H w) (har:AR w0 ro μ T a) (h:runOps E ex lim (ops.toList.map (lowOper P ops)) T H=some (T',H'))
 (hQ:∀ μ' a' w',Post w0 ro lim μ H w μ' H' w'→AR w0 ro μ' T' a'→Q .normal a' w'):(Code.region id ops false).wp P Q a w:=by
 refine wp_region ?_
 rw [List.range_eq_range']
 exact ops_sim hE hC ops.size 0 μ H w T a T' H' (by omega) hr har (Post.refl hr) (by simpa using h) hQ
end
end Go.Proofs.YtgbnbgkldeifkaaGreatA
/- What an operation reads; who is ahead of whom. No statement about the program is proved here. -/
namespace Go.Proofs.YtgbnbgkldeifkaaGreatA
open Go Go.RowKit
set_option linter.unusedVariables false
section
variable {E:AEnv} {ex:AC→Nat→Tmps→Heap→Step} {T T2:Tmps} {lim:Nat} {H:Heap}
theorem ev_congr {x:AX} (h:∀ t ∈ xTmps x,T.getD t .undef=T2.getD t .undef):x.ev T=x.ev T2:=by
 cases x with
 | tmp t=>exact h t (by simp [xTmps])
 | cst v=>rfl
theorem evs_congr {xs:List AX} (h:∀ t ∈ xs.flatMap xTmps,T.getD t .undef=T2.getD t .undef):xs.map (·.ev T)=xs.map (·.ev T2) :=
 List.map_congr_left fun x hx=>ev_congr fun t ht=>h t (List.mem_flatMap.2 ⟨x,hx,ht⟩)
theorem evo_congr {x:Option AX} (h:∀ t ∈ oTmps x,T.getD t .undef=T2.getD t .undef):x.map (·.ev T)=x.map (·.ev T2):=by
 cases x with
 | none=>rfl
 | some x=>simp only [Option.map_some];rw [ev_congr (x:=x) fun t ht=>h t (by simpa [oTmps] using ht)]
theorem evp_congr {ps:List (Nat × Nat × AX)} (h:∀ t ∈ ps.flatMap fun (_,_,x)=>xTmps x,T.getD t .undef=T2.getD t .undef):(ps.map fun (o,s,x)=>(o,s,x.ev T))=(ps.map fun (o,s,x)=>(o,s,x.ev T2)) :=
 List.map_congr_left fun ⟨o,s,x⟩ hx=>by
  simp only [ev_congr (x:=x) fun t ht=>h t (List.mem_flatMap.2 ⟨(o,s,x),hx,ht⟩)]
theorem runOp_congr {op:AOp} (h:∀ t ∈ opTmps op,T.getD t .undef=T2.getD t .undef):runOp E ex lim T H op=runOp E ex lim T2 H op:=by
 cases op
 case fail=>rfl
 case alloc z=>rfl
 case lenConst n=>rfl
 case mkMap=>rfl
 case build z ps=>simp only [runOp,aop];rw [evp_congr (ps:=ps) h]
 case buildSlice es len z ps=>simp only [runOp,aop];rw [evp_congr (ps:=ps) h]
 case max xs=>simp only [runOp,aop];rw [evs_congr (xs:=xs) h]
 case min xs=>simp only [runOp,aop];rw [evs_congr (xs:=xs) h]
 case pick c a b =>
  simp only [opTmps,List.mem_append] at h
  simp only [runOp,aop]
  rw [ev_congr (x:=c) fun t ht=>h t (.inl (.inl ht)),ev_congr (x:=a) fun t ht=>h t (.inl (.inr ht)),ev_congr (x:=b) fun t ht=>h t (.inr ht)]
 case mapSet ck c a b =>
  simp only [opTmps,List.mem_append] at h
  simp only [runOp,aop]
  rw [ev_congr (x:=c) fun t ht=>h t (.inl (.inl ht)),ev_congr (x:=a) fun t ht=>h t (.inl (.inr ht)),ev_congr (x:=b) fun t ht=>h t (.inr ht)]
 case mkFn f a b =>
  simp only [opTmps,List.mem_append] at h
  simp only [runOp,aop]
  rw [evs_congr (xs:=a) fun t ht=>h t (.inl ht),evs_congr (xs:=b) fun t ht=>h t (.inr ht)]
 case sliceArr len es x l hh m =>
  simp only [opTmps,List.mem_append] at h
  simp only [runOp,aop]
  rw [ev_congr (x:=x) fun t ht=>h t (.inl (.inl (.inl ht))),evo_congr (x:=l) fun t ht=>h t (.inl (.inl (.inr ht))),evo_congr (x:=hh) fun t ht=>h t (.inl (.inr ht))]
 case sliceSl es x l hh m =>
  simp only [opTmps,List.mem_append] at h
  simp only [runOp,aop]
  rw [ev_congr (x:=x) fun t ht=>h t (.inl (.inl (.inl ht))),evo_congr (x:=l) fun t ht=>h t (.inl (.inl (.inr ht))),evo_congr (x:=hh) fun t ht=>h t (.inl (.inr ht)),evo_congr (x:=m) fun t ht=>h t (.inr ht)]
 case sliceStr x l hh =>
  simp only [opTmps,List.mem_append] at h
  simp only [runOp,aop]
  rw [ev_congr (x:=x) fun t ht=>h t (.inl (.inl ht)),evo_congr (x:=l) fun t ht=>h t (.inl (.inr ht)),evo_congr (x:=hh) fun t ht=>h t (.inr ht)]
 case call c xs =>
  simp only [opTmps,List.mem_append] at h
  have e:∀ as,callee E H T c as=callee E H T2 c as:=fun as=>by
   cases c with
   | fn x=>simp only [callee];rw [ev_congr (x:=x) fun t ht=>h t (.inl ht)]
   | meth x name=>simp only [callee];rw [ev_congr (x:=x) fun t ht=>h t (.inl ht)]
  simp only [runOp]
  rw [evs_congr (xs:=xs) fun t ht=>h t (.inr ht),e]
 all_goals
  simp only [opTmps,List.mem_append] at h
  simp only [runOp,aop]
  first
   | (rw [ev_congr fun t ht=>h t (.inl ht),ev_congr fun t ht=>h t (.inr ht)];done)
   | (rw [ev_congr h];done)
theorem quiet_form {op:AOp} (hq:quietOp op=true):aop lim H T op=((aop 0 [] T op).map (·.1)).map (·,H):=by
 cases op <;> simp only [quietOp,Bool.false_eq_true] at hq <;> simp only [aop]
 all_goals first
  | rfl
  | (simp only [Option.map_map,Function.comp_def];done)
  | (simp only [Option.map_bind,Function.comp_def,Option.map_map];(repeat' split) <;> first | rfl | (simp [Option.map_map,Option.map_bind,Function.comp_def];done))
  | ((repeat' split) <;> first | rfl | (simp [Option.map_map,Option.map_bind,Function.comp_def];done))
  | (cases idx _ _ <;> simp only [Option.bind_none,Option.bind_some,Option.map_none] <;> (repeat' split) <;> first | rfl | (simp [Option.map_map,Option.map_bind,Function.comp_def];done))
theorem quiet_aop {op:AOp} {r:AV} {H':Heap} (hq:quietOp op=true) (h:aop lim H T op=some (r,H')):H'=H∧∀ lim2 H2,aop lim2 H2 T op=some (r,H2):=by
 rw [quiet_form hq,Option.map_eq_some_iff] at h
 obtain ⟨a,h1,h2⟩:=h
 cases h2
 exact ⟨rfl,fun lim2 H2=>by rw [quiet_form hq,h1];rfl⟩
end
theorem befores_spec:∀ (os:List Oper) (acc:List Nat),(∀ j,j < acc.length→(befores os acc)[j]?=acc[j]?) ∧
 ∀ (j:Nat) (o:Oper),os[j]?=some o→(befores os acc)[acc.length + j]?=some (bitsOf ((befores os acc).take (acc.length + j)) o.after.toList)
 | [],acc=>⟨fun _ _=>rfl,fun j o h=>by simp at h⟩
 | o :: os,acc=>by
  obtain ⟨h1,h2⟩:=befores_spec os (acc++[bitsOf acc o.after.toList])
  have keep:∀ j,j < acc.length→(befores os (acc++[bitsOf acc o.after.toList]))[j]?=acc[j]?:=fun j hj=>by
   rw [h1 j (by simp;omega),List.getElem?_append_left hj]
  refine ⟨keep,fun j x hx=>?_⟩
  simp only [befores]
  cases j with
  | zero =>
   simp only [List.getElem?_cons_zero,Option.some.injEq] at hx
   subst hx
   have e:(befores os (acc++[bitsOf acc o.after.toList])).take acc.length=acc:=by
    apply List.ext_getElem?
    intro i
    rw [List.getElem?_take]
    split
    · rename_i hi;exact keep i hi
    · rename_i hi;rw [List.getElem?_eq_none (by omega)]
   rw [Nat.add_zero,e,h1 _ (by simp)]
   simp
  | succ j =>
   have:=h2 j x (by simpa using hx)
   rw [List.length_append,List.length_singleton,Nat.add_assoc,Nat.add_comm 1 j] at this
   exact this
theorem bits_test {acc:List Nat} {i:Nat}:∀ {es:List Edge},(bitsOf acc es).testBit i=true→∃ e ∈ es,Region.binds .any e=true∧(e.on=i∨(acc.getD e.on 0).testBit i=true)
 | [],h=>by simp [bitsOf] at h
 | e :: es,h=>by
  simp only [bitsOf] at h
  split at h
  · rename_i hb
    simp only [Nat.testBit_or,Bool.or_eq_true] at h
    rcases h with (h | h) | h
    · obtain ⟨e',h1,h2⟩:=bits_test h
      exact ⟨e',.tail _ h1,h2⟩
    · rw [Nat.testBit_two_pow] at h
      exact ⟨e,.head _,hb,.inl (by simpa using h)⟩
    · exact ⟨e,.head _,hb,.inr h⟩
  · obtain ⟨e',h1,h2⟩:=bits_test h
    exact ⟨e',.tail _ h1,h2⟩
theorem edges_lt {ops:List Oper} (h:edgesOk ops=true) {j:Nat} {o:Oper} (ho:ops[j]?=some o) {e:Edge} (he:e ∈ o.after.toList) (hb:Region.binds .any e=true):e.on < j:=by
 unfold edgesOk at h
 rw [List.all_eq_true] at h
 have:=h (o,j) (List.mem_zipIdx_iff_getElem?.2 ho)
 simp only [List.all_eq_true] at this
 have:=this e he
 rw [hb] at this
 simpa using this
theorem before_closed {ops:List Oper} {D:Nat→Prop} (he:edgesOk ops=true) (hD:∀ (j:Nat) (o:Oper),ops[j]?=some o→D j→∀ e ∈ o.after.toList,Region.binds .any e=true→D e.on) :
 ∀ (N j i:Nat) (o:Oper),j < N→ops[j]?=some o→(∀ e ∈ o.after.toList,Region.binds .any e=true→D e.on)→isBefore (befores ops []) i j=true→D i
 | 0,j,_,_,hj,_,_,_=>absurd hj (Nat.not_lt_zero j)
 | N + 1,j,i,o,hj,ho,hp,hb=>by
  have h2:=(befores_spec ops []).2 j o ho
  simp only [List.length_nil,Nat.zero_add] at h2
  unfold isBefore at hb
  rw [List.getD_eq_getElem?_getD,h2] at hb
  simp only [Option.getD_some] at hb
  obtain ⟨e,h3,h4,h5⟩:=bits_test hb
  rcases h5 with rfl | h5
  · exact hp e h3 h4
  · have hlt:=edges_lt he ho h3 h4
    have hle:j < ops.length:=(List.getElem?_eq_some_iff.1 ho).1
    have hk:ops[e.on]?=some (ops[e.on]'(by omega)):=List.getElem?_eq_getElem _
    refine before_closed he hD N e.on i _ (by omega) hk (hD e.on _ hk (hp e h3 h4)) ?_
    unfold isBefore
    rw [List.getD_eq_getElem?_getD,List.getElem?_take,if_pos hlt] at h5
    rw [List.getD_eq_getElem?_getD]
    exact h5
end Go.Proofs.YtgbnbgkldeifkaaGreatA
/- Regions whose order is drawn. No statement about the program is proved here. -/
namespace Go.Proofs.YtgbnbgkldeifkaaGreatA
open Go Go.RowKit
set_option linter.unusedVariables false
theorem ext_take {μ μ':Mu} (E:Ext μ μ') (n:Nat):Ext (μ.take n) (μ'.take n):=fun b loc h=>by
 rw [List.getElem?_take] at h ⊢
 split at h
 · rename_i q;rw [if_pos q];exact E b loc h
 · cases h
theorem ext_take_le {μ:Mu} {n m:Nat} (h:n≤m):Ext (μ.take n) (μ.take m):=fun b loc e=>by
 rw [List.getElem?_take] at e ⊢
 split at e
 · rw [if_pos (by omega)];exact e
 · cases e
theorem ext_of_take {μ:Mu} {n:Nat}:Ext (μ.take n) μ:=fun b loc e=>by
 rw [List.getElem?_take] at e
 split at e
 · exact e
 · cases e
section
variable {w0:World} {ro:Nat→Prop} {P:Program} {μ:Mu} {H:Heap} {w:World} {T:Tmps} {lim:Nat} {E:AEnv} {ex:AC→Nat→Tmps→Heap→Step} {ops:Array Oper}
theorem alive_pre {H X:Heap} {b:Nat} (h:alive H b):alive (H++X) b:=by
 unfold alive at *
 have:b < H.length:=by
  rcases Nat.lt_or_ge b H.length with q | q
  · exact q
  · rw [List.getElem?_eq_none q] at h;rcases h with ⟨_,_,h⟩ | ⟨_,_,h⟩ | ⟨_,_,_,_,h⟩ <;> cases h
 rw [List.getElem?_append_left this]
 exact h
theorem alive_cut {H X:Heap} {b:Nat} (hb:b < H.length) (h:alive (H++X) b):alive H b:=by
 unfold alive at *
 rw [List.getElem?_append_left hb] at h
 exact h
theorem alive_lt {H:Heap} {b:Nat} (h:alive H b):b < H.length:=by
 unfold alive at h
 rcases Nat.lt_or_ge b H.length with q | q
 · exact q
 · rw [List.getElem?_eq_none q] at h;rcases h with ⟨_,_,h⟩ | ⟨_,_,h⟩ | ⟨_,_,_,_,h⟩ <;> cases h
theorem BR.later {loc:Loc} {w':World} {H:Heap} {b:Nat} (h:BR w0 ro μ loc w H[b]?) (hk:∀ c,c < w.heap.size→w'.heap[c]?=w.heap[c]?):BR w0 ro μ loc w' H[b]?:=by
 cases e:H[b]? with
 | none=>rw [e] at h;exact h.elim
 | some x =>
  cases x with
  | dead=>trivial
  | cells g cs=>have:=BR.lt (H:=H) (b:=b) (.inl ⟨g,cs,e⟩) h;rw [e] at h;exact BR.world (hk _ this) h
  | map es c=>have:=BR.lt (H:=H) (b:=b) (.inr (.inl ⟨es,c,e⟩)) h;rw [e] at h;exact BR.world (hk _ this) h
  | iter m s l k=>have:=BR.lt (H:=H) (b:=b) (.inr (.inr ⟨m,s,l,k,e⟩)) h;rw [e] at h;exact BR.world (hk _ this) h
theorem Post.room {μ':Mu} {H':Heap} {w':World} (h:Post w0 ro lim μ H w μ' H' w') (X:Heap):Post w0 ro lim μ H w (μ'++List.replicate X.length none) (H'++X) w':=by
 have hl:μ'.length=H'.length:=h.hr.len
 have old:∀ (b:Nat) (loc:Loc),(μ'++List.replicate X.length none)[b]?=some (some loc)→b < H'.length∧μ'[b]?=some (some loc):=fun b loc e=>by
  rcases Nat.lt_or_ge b μ'.length with q | q
  · rw [List.getElem?_append_left q] at e;exact ⟨by omega,e⟩
  · rw [List.getElem?_append_right q,List.getElem?_replicate] at e
    split at e <;> cases e
 refine ⟨?_,⟨by simp [hl],h.hr.grow,h.hr.old,fun b loc e=>?_,fun b b' l l' a a' e e'=>?_⟩,h.os,h.tape,h.output,h.size,h.frame,fun c hc ⟨b,l,h1,h2,h3,h4⟩=>?_,fun b hb hl'=>?_,?_⟩
 · obtain ⟨ν,rfl⟩:=h.app;exact ⟨_,List.append_assoc _ _ _⟩
 · obtain ⟨q,e'⟩:=old b loc e
   rw [List.getElem?_append_left q]
   exact (h.hr.blk b loc e').ext (Ext.app _ _)
 · obtain ⟨q,e1⟩:=old b l e
   obtain ⟨q',e2⟩:=old b' l' e'
   exact h.hr.inj b b' l l' (alive_cut q a) (alive_cut q' a') e1 e2
 · obtain ⟨q,e1⟩:=old b l h3
   exact h.sub c hc ⟨b,l,h1,alive_cut q h2,e1,h4⟩
 · rw [List.getElem?_append_left (Nat.lt_of_lt_of_le hl' h.more)];exact h.low b hb hl'
 · have:=h.more;simp;omega
theorem HR.blank (h1:w0.heap.size≤w.heap.size) (h2:∀ c,ro c→c < w0.heap.size∧w.heap[c]?=w0.heap[c]?) (μ:Mu):HR w0 ro μ (List.replicate μ.length .dead) w:=by
 refine ⟨by simp,h1,h2,fun b loc e=>?_,fun b b' l l' a=>?_⟩
 · have:b < μ.length:=(List.getElem?_eq_some_iff.1 e).1
   rw [List.getElem?_replicate,if_pos this]
   trivial
 · unfold alive at a
   rw [List.getElem?_replicate] at a
   split at a <;> rcases a with ⟨_,_,a⟩ | ⟨_,_,a⟩ | ⟨_,_,_,_,a⟩ <;> cases a
def patch (T:Tmps) (l:List Nat):Tmps:=T.mapIdx fun i v=>if l.contains i then v else .undef
theorem patch_get {l:List Nat} {t:Nat}:(patch T l)[t]?=(T[t]?).map fun v=>if l.contains t then v else .undef:=by
 unfold patch
 rw [List.getElem?_mapIdx]
theorem patch_same {l:List Nat} {t:Nat} (h:t ∈ l):(patch T l)[t]?=T[t]?:=by
 rw [patch_get]
 cases T[t]? with
 | none=>rfl
 | some v=>simp [h]
theorem val_patch {o:AOper} {v:AV} {H':Heap} (h:ValOf E ex lim o T H v H'):ValOf E ex lim o (patch T (operTmps o)) H v H':=by
 have e1:wantedA (patch T (operTmps o)) o.guard=wantedA T o.guard:=by
  cases hg:o.guard with
  | none=>rfl
  | some p =>
   obtain ⟨t,b⟩:=p
   simp only [wantedA]
   rw [patch_same (by simp [operTmps,hg])]
 have e2:runOp E ex lim (patch T (operTmps o)) H o.op=runOp E ex lim T H o.op:=runOp_congr fun t ht=>by
  rw [List.getD_eq_getElem?_getD,List.getD_eq_getElem?_getD,patch_same (by simp [operTmps,ht])]
 unfold ValOf
 rw [e1,e2]
 exact h
theorem val_quiet {o:AOper} {v:AV} {H':Heap} (hq:quietOp o.op=true) (h:ValOf E ex lim o T H v H'):H'=H∧∀ lim2 H2,ValOf E ex lim2 o T H2 v H2:=by
 rcases h with ⟨h1,h2,h3⟩ | ⟨h1,h2⟩
 · exact ⟨h3,fun lim2 H2=>.inl ⟨h1,h2,rfl⟩⟩
 · have e:∀ lim H,runOp E ex lim T H o.op=aop lim H T o.op:=fun lim H=>by
    generalize ho:o.op=op at hq
    cases op <;> first | rfl | cases hq
   rw [e] at h2
   obtain ⟨h3,h4⟩:=quiet_aop hq h2
   exact ⟨h3,fun lim2 H2=>.inr ⟨h1,by rw [e];exact h4 lim2 H2⟩⟩
theorem draw_states {B:Option (List Nat)}:∀ (l:List (Bool × AOper)) (T:Tmps) (H:Heap) (R:Tmps × Heap),runDraw E ex lim B l T H=some R →
 ∃ S:Nat→Tmps × Heap,S 0=(T,H)∧S l.length=R∧∀ k b o,l[k]?=some (b,o)→stepD E ex lim B b o (S k).1 (S k).2=some (S (k + 1))
 | [],T,H,R,h=>by
  simp only [runDraw,Option.some.injEq] at h
  exact ⟨fun _=>(T,H),rfl,h,fun k b o e=>by simp at e⟩
 | (b,o) :: l,T,H,R,h=>by
  simp only [runDraw,Option.bind_eq_some_iff] at h
  obtain ⟨r,h1,h2⟩:=h
  obtain ⟨S,h3,h4,h5⟩:=draw_states l r.1 r.2 R h2
  refine ⟨fun | 0=>(T,H) | k + 1=>S k,rfl,h4,fun k b' o' e=>?_⟩
  cases k with
  | zero =>
   simp only [List.getElem?_cons_zero,Option.some.injEq,Prod.mk.injEq] at e
   obtain ⟨rfl,rfl⟩:=e
   simp only [h1,h3]
  | succ k=>exact h5 k b' o' (by simpa using e)
theorem const_any {c:Value} {a:AV} {μ2:Mu} (h:ofConst c=some a) {v:Value} (k:VR w0 ro μ a v):VR w0 ro μ2 a v:=by
 unfold ofConst at h
 split at h <;> cases h <;> cases k <;> constructor
 assumption
theorem consts_any:∀ {cs:List Value} {as:List AV},ofConsts cs=some as→∀ a ∈ as,∀ {μ μ2:Mu} {v:Value},VR w0 ro μ a v→VR w0 ro μ2 a v
 | [],as,h=>by simp only [ofConsts,Option.some.injEq] at h;subst h;intro a ha;cases ha
 | c :: cs,as,h=>by
  simp only [ofConsts,Option.bind_eq_some_iff,Option.map_eq_some_iff] at h
  obtain ⟨a,h1,as',h2,rfl⟩:=h
  intro b hb μ μ2 v k
  rcases List.mem_cons.1 hb with rfl | hb
  · exact const_any h1 k
  · exact consts_any h2 b hb k
theorem const_block {cs:List Value} {z:List AV} {g:Bool} {loc:Loc} {μ2:Mu} (h:ofConsts cs=some z) (k:BR w0 ro μ loc w (some (.cells g z))):BR w0 ro μ2 loc w (some (.cells g z)):=by
 obtain ⟨h0,arr,t,h1,h2,h3,h4⟩:=k
 exact ⟨h0,arr,t,h1,h2,h3,fun j v e=>let ⟨o,v',a,r⟩:=h4 j v e;⟨o,v',a,consts_any h v (List.mem_of_getElem? e) r⟩⟩
theorem low_alloc {o:Op} {z:List AV} (e:lowOp P o=.alloc z):∃ cs,ofConsts cs=some z:=by
 cases o <;> simp only [lowOp,lowLookup,lowMapSet,lowAssert] at e
 case alloc t =>
  split at e
  · rename_i z' hz
    cases e
    unfold zeroT at hz
    rw [Option.bind_eq_some_iff] at hz
    obtain ⟨zv,_,h2⟩:=hz
    exact ⟨_,h2⟩
  · cases e
 case binOp op t x y yt =>
  split at e
  · unfold lowBin at e
    (repeat' split at e) <;> cases e
  · cases e
 case call c =>
  unfold lowCall at e
  split at e
  · cases e
  · split at e
    · unfold lowBuiltin at e
      (repeat' split at e) <;> cases e
    · split at e <;> cases e
    · split at e <;> cases e
 all_goals first | (cases e;done) | ((repeat' split at e) <;> cases e)
theorem hide_len {B:List Nat} {H:Heap}:(hide B H).length=H.length:=by
 induction B with
 | nil=>rfl
 | cons b B ih=>simp only [hide,List.length_set,ih]
theorem unhide_len {B:List Nat} {H H':Heap}:(unhide B H H').length=H'.length:=by
 induction B with
 | nil=>rfl
 | cons b B ih=>simp only [unhide,List.length_set,ih]
theorem hideO_len {B:Option (List Nat)} {H:Heap}:(hideO B H).length=H.length:=by
 cases B with
 | none=>rfl
 | some B=>exact hide_len
theorem unhideO_len {B:Option (List Nat)} {H H':Heap}:(unhideO B H H').length=H'.length:=by
 cases B with
 | none=>rfl
 | some B=>exact unhide_len
theorem hide_get {B:List Nat} {H:Heap} {i:Nat}:(hide B H)[i]?=if i ∈ B then (H[i]?).map (fun _=>.dead) else H[i]?:=by
 induction B with
 | nil=>simp [hide]
 | cons b B ih =>
  simp only [hide,List.getElem?_set,hide_len,ih]
  by_cases e:b=i
  · subst e
    by_cases h:b < H.length
    · simp [h]
    · simp [h]
  · have e':¬ i=b:=fun q=>e q.symm
    simp [e,e']
theorem unhide_get {B:List Nat} {H H':Heap} {i:Nat} (hb:∀ b,b ∈ B→b < H.length) (hl:H.length≤H'.length):(unhide B H H')[i]?=if i ∈ B then H[i]? else H'[i]?:=by
 induction B with
 | nil=>simp [unhide]
 | cons b B ih =>
  simp only [unhide,List.getElem?_set,unhide_len,ih fun c hc=>hb c (.tail _ hc)]
  by_cases e:b=i
  · subst e
    have h1:=hb b (.head _)
    have h2:b < H'.length:=by omega
    simp [h1,h2]
  · have e':¬ i=b:=fun q=>e q.symm
    simp [e,e']
theorem hideO_get {B:Option (List Nat)} {H:Heap} {i:Nat}:(hideO B H)[i]?=if i ∈ B.getD [] then (H[i]?).map (fun _=>.dead) else H[i]?:=by
 cases B with
 | none=>simp [hideO]
 | some B=>exact hide_get
theorem unhideO_get {B:Option (List Nat)} {H H':Heap} {i:Nat} (hb:∀ b,b ∈ B.getD []→b < H.length) (hl:H.length≤H'.length):(unhideO B H H')[i]?=if i ∈ B.getD [] then H[i]? else H'[i]?:=by
 cases B with
 | none=>simp [unhideO]
 | some B=>exact unhide_get hb hl
theorem alive_hide {B:Option (List Nat)} {H:Heap} {b:Nat}:alive (hideO B H) b ↔ ¬ b ∈ B.getD []∧alive H b:=by
 unfold alive
 by_cases h:b ∈ B.getD []
 · simp only [hideO_get,h,if_true,not_true,false_and,iff_false]
   rintro (⟨g,cs,e⟩ | ⟨es,c,e⟩ | ⟨m,s,l,k,e⟩) <;> simp [Option.map_eq_some_iff] at e
 · simp only [hideO_get,h,if_false,not_false_iff,true_and]
theorem alive_unhide {B:Option (List Nat)} {H H':Heap} (hb:∀ b,b ∈ B.getD []→b < H.length) (hl:H.length≤H'.length) {b:Nat}:alive (unhideO B H H') b ↔ (b ∈ B.getD []∧alive H b)∨(¬ b ∈ B.getD []∧alive H' b):=by
 unfold alive
 by_cases h:b ∈ B.getD []
 · simp only [unhideO_get hb hl,h,if_true,true_and,not_true,false_and,or_false]
 · simp only [unhideO_get hb hl,h,if_false,false_and,not_false_iff,true_and,false_or]
theorem HR.hide {μ:Mu} {H:Heap} {w:World} (h:HR w0 ro μ H w) (B:Option (List Nat)):HR w0 ro μ (hideO B H) w where
 len:=by rw [hideO_len];exact h.len
 grow:=h.grow
 old:=h.old
 blk:=fun b loc e=>by
  have h1:=h.blk b loc e
  rw [hideO_get]
  split
  · cases q:H[b]? with
    | none=>rw [q] at h1;exact h1.elim
    | some x=>exact True.intro
  · exact h1
 inj:=fun b b' loc loc' a1 a2=>h.inj b b' loc loc' (alive_hide.1 a1).2 (alive_hide.1 a2).2
theorem Owned.hide {μ:Mu} {H:Heap} {B:Option (List Nat)} {lim c:Nat} (h:Owned μ (hideO B H) lim c):Owned μ H lim c:=by
 obtain ⟨b,loc,h1,h2,h3,h4⟩:=h
 exact ⟨b,loc,h1,(alive_hide.1 h2).2,h3,h4⟩
theorem hidden_row {μ:Mu} {H:Heap} {w:World} (h:HR w0 ro μ H w) {B:Option (List Nat)} {b:Nat} {loc:Loc} (hb:b ∈ B.getD []) (ha:alive H b) (e:μ[b]?=some (some loc)) {lim:Nat}:¬ Owned μ (hideO B H) lim loc.c:=by
 rintro ⟨b2,loc2,_,h2,h3,h4⟩
 obtain ⟨h5,h6⟩:=alive_hide.1 h2
 exact h5 ((h.inj b2 b loc2 loc h6 ha h3 e h4) ▸ hb)
theorem row_lt {μ:Mu} {H:Heap} {w:World} (h:HR w0 ro μ H w) {b:Nat} {loc:Loc} (ha:alive H b) (e:μ[b]?=some (some loc)):loc.c < w.heap.size:=by
 have h1:=h.blk b loc e
 have key:∀ {x},w.heap[loc.c]?=some x→loc.c < w.heap.size:=fun q=>(Array.getElem?_eq_some_iff.1 q).1
 rcases ha with ⟨g,cs,q⟩ | ⟨es,c,q⟩ | ⟨m,s,l,k,q⟩
 · rw [q] at h1;obtain ⟨_,arr,t,q2,_⟩:=h1;exact key q2
 · rw [q] at h1;obtain ⟨_,ces,q2,_⟩:=h1;exact key q2
 · rw [q] at h1;obtain ⟨_,_,m',q2,_⟩:=h1;exact key q2
theorem BR.row {μ:Mu} {loc:Loc} {w w':World} {x:Option ABlk} (h:BR w0 ro μ loc w x) (e:w'.heap[loc.c]?=w.heap[loc.c]?):BR w0 ro μ loc w' x:=by
 unfold BR at h ⊢
 rw [e]
 exact h
theorem Post.revive {μ μ':Mu} {H H':Heap} {w w':World} {B:Option (List Nat)} {lim:Nat} (hr:HR w0 ro μ H w) (hb:∀ b,b ∈ B.getD []→b < H.length) (hlim:lim≤H.length) (h:Post w0 ro lim μ (hideO B H) w μ' H' w'):Post w0 ro lim μ H w μ' (unhideO B H H') w':=by
 have hl:H.length≤H'.length:=by have:=h.more;rwa [hideO_len] at this
 have back:∀ {b loc},b < H.length→μ'[b]?=some (some loc)→μ[b]?=some (some loc):=fun {b loc} hlt e=>by
  obtain ⟨ν,q⟩:=h.app
  rw [q,List.getElem?_append_left (by rw [hr.len];exact hlt)] at e
  exact e
 have low':∀ b,b < lim→b < H.length→H'[b]?=(hideO B H)[b]?:=fun b h1 h2=>h.low b h1 (by rw [hideO_len];exact h2)
 -- who is alive behind it and isn't hidden was there,or has a row of its own
 have other:∀ {b loc c},¬ b ∈ B.getD []→alive H' b→μ'[b]?=some (some loc)→loc.c=c→c < w.heap.size→(∃ b2 loc2,¬ b2 ∈ B.getD []∧alive H b2∧μ[b2]?=some (some loc2)∧loc2.c=c):=fun {b loc c} h1 h2 h3 h4 h5=>by
  rcases Nat.lt_or_ge b lim with q | q
  · have hlt:b < H.length:=by omega
    have e:=low' b q hlt
    have ha:alive (hideO B H) b:=by
     unfold alive at h2 ⊢
     rw [e] at h2
     exact h2
    exact ⟨b,loc,h1,(alive_hide.1 ha).2,back hlt h3,h4⟩
  · obtain ⟨b2,loc2,g1,g2,g3,g4⟩:=h.sub c h5 ⟨b,loc,q,h2,h3,h4⟩
    exact ⟨b2,loc2,(alive_hide.1 g2).1,(alive_hide.1 g2).2,g3,g4⟩
 refine ⟨h.app,⟨by rw [unhideO_len];exact h.hr.len,h.hr.grow,h.hr.old,fun b loc e=>?_,?_⟩,h.os,h.tape,h.output,h.size,fun c hc ho=>h.frame c hc fun q=>ho q.hide,fun c hc=>?_,fun b h1 h2=>?_,by rw [unhideO_len];exact hl⟩
 · rw [unhideO_get hb hl]
   split
   · rename_i hm
     have e2:=back (hb b hm) e
     have h1:=hr.blk b loc e2
     by_cases ha:alive H b
     · exact (h1.ext h.ext).row (h.frame loc.c (row_lt hr ha e2) (hidden_row hr hm ha e2))
     · cases q:H[b]? with
       | none=>rw [q] at h1;exact h1.elim
       | some x =>
        cases x with
        | dead=>exact True.intro
        | cells g cs=>exact absurd (.inl ⟨g,cs,q⟩) ha
        | map es c=>exact absurd (.inr (.inl ⟨es,c,q⟩)) ha
        | iter m s l k=>exact absurd (.inr (.inr ⟨m,s,l,k,q⟩)) ha
   · exact h.hr.blk b loc e
 · intro b b' loc loc' a1 a2 e1 e2 e3
   rcases (alive_unhide hb hl).1 a1 with ⟨m1,l1⟩ | ⟨m1,l1⟩
   · have f1:=back (hb b m1) e1
     rcases (alive_unhide hb hl).1 a2 with ⟨m2,l2⟩ | ⟨m2,l2⟩
     · exact hr.inj b b' loc loc' l1 l2 f1 (back (hb b' m2) e2) e3
     · obtain ⟨b2,loc2,g1,g2,g3,g4⟩:=other m2 l2 e2 e3.symm (row_lt hr l1 f1)
       exact absurd ((hr.inj b2 b loc2 loc g2 l1 g3 f1 g4) ▸ m1) g1
   · rcases (alive_unhide hb hl).1 a2 with ⟨m2,l2⟩ | ⟨m2,l2⟩
     · have f2:=back (hb b' m2) e2
       obtain ⟨b2,loc2,g1,g2,g3,g4⟩:=other m1 l1 e1 e3 (row_lt hr l2 f2)
       exact absurd ((hr.inj b2 b' loc2 loc' g2 l2 g3 f2 g4) ▸ m2) g1
     · exact h.hr.inj b b' loc loc' l1 l2 e1 e2 e3
 · rintro ⟨b,loc,h1,h2,h3,h4⟩
   rcases (alive_unhide hb hl).1 h2 with ⟨m1,l1⟩ | ⟨m1,l1⟩
   · exact ⟨b,loc,h1,l1,back (hb b m1) h3,h4⟩
   · exact (h.sub c hc ⟨b,loc,h1,l1,h3,h4⟩).hide
 · rw [unhideO_get hb hl]
   split
   · rfl
   · rename_i hm
     rw [low' b h1 h2,hideO_get,if_neg hm]
structure Dr (P:Program) (E:AEnv) (ex:AC→Nat→Tmps→Heap→Step) (lim:Nat) (B:Option (List Nat)) (ops:Array Oper) (S:Nat→Tmps × Heap):Prop where
 ap:apartOk (befores ops.toList []) (ops.toList.map (lowOper P ops))=true
 ed:edgesOk ops.toList=true
 le:lim≤(S 0).2.length
 hb:∀ b,b ∈ B.getD []→b < (S 0).2.length
 st:∀ (k:Nat) (oo:Oper),ops[k]?=some oo→stepD E ex lim B (soloAt B.isSome (befores ops.toList []) (ops.toList.map (lowOper P ops)) (lowOper P ops oo) k) (lowOper P ops oo) (S k).1 (S k).2=some (S (k + 1))
def isSolo (P:Program) (B:Option (List Nat)) (ops:Array Oper) (k:Nat):Prop:=∃ oo,ops[k]?=some oo∧soloAt B.isSome (befores ops.toList []) (ops.toList.map (lowOper P ops)) (lowOper P ops oo) k=true
def isLoud (P:Program) (B:Option (List Nat)) (ops:Array Oper) (k:Nat):Prop:=∃ oo,ops[k]?=some oo∧quietIn B.isSome (lowOper P ops oo).op=false
def isFresh (P:Program) (ops:Array Oper) (k:Nat):Prop:=∃ oo,ops[k]?=some oo∧freshOper (lowOper P ops oo)=true
def writes (ops:Array Oper) (t k:Nat):Prop:=∃ oo,ops[k]?=some oo∧oo.dst=some t
variable {S:Nat→Tmps × Heap} {B:Option (List Nat)}
theorem Dr.low {k:Nat} {oo:Oper} (h:ops[k]?=some oo):(ops.toList.map (lowOper P ops))[k]?=some (lowOper P ops oo):=by
 rw [List.getElem?_map,Array.getElem?_toList,h];rfl
theorem Dr.apart (d:Dr P E ex lim B ops S) {i j t:Nat} {x y:Oper} (hx:ops[i]?=some x) (hy:ops[j]?=some y) (hd:x.dst=some t) (hne:i ≠ j) (h:t ∈ operTmps (lowOper P ops y)∨y.dst=some t):held (befores ops.toList []) i j=true:=by
 have h1:=d.ap
 unfold apartOk at h1
 rw [List.all_eq_true] at h1
 have h2:=h1 _ (List.mem_zipIdx_iff_getElem?.2 (Dr.low hx):(lowOper P ops x,i) ∈ _)
 simp only [lowOper_dst,hd,List.all_eq_true] at h2
 have h3:=h2 _ (List.mem_zipIdx_iff_getElem?.2 (Dr.low hy):(lowOper P ops y,j) ∈ _)
 simp only [Bool.or_eq_true,beq_iff_eq,hne,false_or,Bool.not_eq_true',Bool.or_eq_false_iff,lowOper_dst] at h3
 rcases h3 with h3 | ⟨h3,h4⟩
 · exact h3
 · rcases h with h | h
   · simp [h] at h3
   · rw [h] at h4;simp at h4
theorem Dr.solo (d:Dr P E ex lim B ops S) {i j:Nat} (hi:isSolo P B ops i) (hj:isLoud P B ops j) (hne:i ≠ j):held (befores ops.toList []) i j=true∨(isFresh P ops j∧i < j):=by
 obtain ⟨x,h1,h2⟩:=hi
 obtain ⟨y,h3,h4⟩:=hj
 unfold soloAt at h2
 simp only [Bool.and_eq_true,List.all_eq_true] at h2
 have h5:=h2.2 _ (List.mem_zipIdx_iff_getElem?.2 (Dr.low h3):(lowOper P ops y,j) ∈ _)
 simp only [h4,Bool.or_eq_true,beq_iff_eq,hne,false_or,Bool.false_eq_true,Bool.and_eq_true,decide_eq_true_eq] at h5
 rcases h5 with h5 | h5
 · exact .inl h5
 · exact .inr ⟨⟨y,h3,h5.1⟩,h5.2⟩
theorem solo_loud {i:Nat} (hi:isSolo P B ops i):isLoud P B ops i:=by
 obtain ⟨x,h1,h2⟩:=hi
 unfold soloAt at h2
 simp only [Bool.and_eq_true,Bool.not_eq_true'] at h2
 exact ⟨x,h1,h2.1.1⟩
theorem solo_old {i:Nat} (hi:isSolo P B ops i):¬ isFresh P ops i:=by
 obtain ⟨x,h1,h2⟩:=hi
 unfold soloAt at h2
 simp only [Bool.and_eq_true,Bool.not_eq_true'] at h2
 rintro ⟨y,h3,h4⟩
 rw [h1] at h3;cases h3
 rw [h2.1.2] at h4;cases h4
theorem Dr.step (d:Dr P E ex lim B ops S) {k:Nat} {oo:Oper} (h:ops[k]?=some oo) :
 ∃ v,(S (k + 1)).1=putT (S k).1 oo.dst v∧(S k).2.length≤(S (k + 1)).2.length ∧
  ((isSolo P B ops k∧∃ H',ValOf E ex lim (lowOper P ops oo) (S k).1 (hideO B (S k).2) v H'∧(S k).2.length≤H'.length∧(S (k + 1)).2=unhideO B (S k).2 H') ∨
   (¬ isSolo P B ops k∧(∃ X,(S (k + 1)).2=(S k).2++X)∧seen (S k).1 (lowOper P ops oo) B=true∧∃ H',ValOf E ex (S k).2.length (lowOper P ops oo) (S k).1 (S k).2 v H'∧(S (k + 1)).2=(S k).2++H'.drop (S k).2.length)):=by
 have h1:=d.st k oo h
 unfold stepD at h1
 split at h1
 · rename_i hs
   simp only [Option.bind_eq_some_iff] at h1
   obtain ⟨r,h2,h3⟩:=h1
   split at h3
   · rename_i hle
     simp only [Option.some.injEq] at h3
     obtain ⟨v,h4,h5⟩:=stepOp_val h2
     rw [lowOper_dst] at h4
     rw [← h3]
     exact ⟨v,h4,by rw [unhideO_len];exact hle,.inl ⟨⟨oo,h,hs⟩,_,h5,hle,rfl⟩⟩
   · cases h3
 · rename_i hs
   split at h1
   case isFalse=>cases h1
   rename_i hsn
   simp only [Option.map_eq_some_iff] at h1
   obtain ⟨r,h2,h3⟩:=h1
   obtain ⟨v,h4,h5⟩:=stepOp_val h2
   rw [lowOper_dst] at h4
   refine ⟨v,by rw [← h3];exact h4,by rw [← h3];simp,.inr ⟨?_,⟨r.2.drop (S k).2.length,by rw [← h3]⟩,hsn,r.2,h5,by rw [← h3]⟩⟩
   rintro ⟨oo',e,hs'⟩
   rw [h] at e
   cases e
   exact hs hs'
theorem fresh_form {o:AOper} (h:freshOper o=true):∃ z,o.guard=none∧o.op=.alloc z:=by
 unfold freshOper at h
 split at h
 · rename_i z e1 e2;exact ⟨z,e1,e2⟩
 · cases h
theorem Dr.fresh (d:Dr P E ex lim B ops S) {k:Nat} {oo:Oper} (h:ops[k]?=some oo) (hf:freshOper (lowOper P ops oo)=true) :
 ∃ z,(lowOper P ops oo).guard=none∧(lowOper P ops oo).op=.alloc z∧(∃ cs,ofConsts cs=some z)∧(S (k + 1)).1=putT (S k).1 oo.dst (.ptr (some ((S k).2.length,0)))∧(S (k + 1)).2=(S k).2++[.cells false z]:=by
 obtain ⟨z,h1,h2⟩:=fresh_form hf
 refine ⟨z,h1,h2,?_,?_⟩
 · unfold lowOper at h2
   split at h2
   · exact low_alloc h2
   · cases h2
 have h3:=d.st k oo h
 have hs:soloAt B.isSome (befores ops.toList []) (ops.toList.map (lowOper P ops)) (lowOper P ops oo) k=false:=by
  unfold soloAt
  rw [hf]
  simp
 rw [hs] at h3
 have h4:stepOp E ex (S k).2.length (lowOper P ops oo) (S k).1 (S k).2=some (putT (S k).1 oo.dst (.ptr (some ((S k).2.length,0))),(S k).2++[.cells false z]):=by
  unfold stepOp
  rw [h1,h2,lowOper_dst]
  rfl
 have h5:seen (S k).1 (lowOper P ops oo) B=true:=by
  unfold seen
  cases B with
  | none=>rfl
  | some B=>simp only [h2]
 unfold stepD at h3
 simp only [Bool.false_eq_true,if_false,h5,if_true,h4,Option.map_some,Option.some.injEq] at h3
 rw [← h3]
 exact ⟨rfl,by simp⟩
theorem Dr.more (d:Dr P E ex lim B ops S) {k m:Nat} (hm:m≤ops.size) (h:k≤m):(S k).2.length≤(S m).2.length:=by
 induction m with
 | zero => have:k=0:=by omega
           subst this;exact Nat.le_refl _
 | succ m ih =>
  rcases Nat.lt_or_ge k (m + 1) with q | q
  · obtain ⟨v,_,h2,_⟩:=d.step (Array.getElem?_eq_getElem (show m < ops.size by omega))
    exact Nat.le_trans (ih (by omega) (by omega)) h2
  · have:k=m + 1:=by omega
    subst this;exact Nat.le_refl _
theorem Dr.pre (d:Dr P E ex lim B ops S) {k m:Nat} (hm:m≤ops.size) (h:k≤m) (hc:∀ i,k≤i→i < m→¬ isSolo P B ops i):∃ X,(S m).2=(S k).2++X:=by
 induction m with
 | zero => have:k=0:=by omega
           subst this;exact ⟨[],by simp⟩
 | succ m ih =>
  rcases Nat.lt_or_ge k (m + 1) with q | q
  · obtain ⟨v,_,_,h3⟩:=d.step (Array.getElem?_eq_getElem (show m < ops.size by omega))
    obtain ⟨X,hX⟩:=ih (by omega) (by omega) fun i h1 h2=>hc i h1 (by omega)
    rcases h3 with ⟨h3,_⟩ | ⟨_,⟨Y,hY⟩,_⟩
    · exact absurd h3 (hc m (by omega) (by omega))
    · exact ⟨X++Y,by rw [hY,hX,List.append_assoc]⟩
  · have:k=m + 1:=by omega
    subst this;exact ⟨[],by simp⟩
theorem putT_len {dst:Option Nat} {v:AV}:(putT T dst v).length=T.length:=by
 cases dst <;> simp [putT]
theorem Dr.tlen (d:Dr P E ex lim B ops S) {m:Nat} (hm:m≤ops.size):(S m).1.length=(S 0).1.length:=by
 induction m with
 | zero=>rfl
 | succ m ih =>
  obtain ⟨v,h1,_⟩:=d.step (Array.getElem?_eq_getElem (show m < ops.size by omega))
  rw [h1,putT_len]
  exact ih (by omega)
theorem putT_ne {dst:Option Nat} {v:AV} {t:Nat} (h:dst ≠ some t):(putT T dst v)[t]?=T[t]?:=by
 cases dst with
 | none=>rfl
 | some d =>
  simp only [putT]
  rw [List.getElem?_set_ne]
  intro e;subst e;exact h rfl
theorem Dr.keep (d:Dr P E ex lim B ops S) {k m t:Nat} (hm:m≤ops.size) (h:k≤m) (hc:∀ i,k≤i→i < m→¬ writes ops t i):(S m).1[t]?=(S k).1[t]?:=by
 induction m with
 | zero => have:k=0:=by omega
           subst this;rfl
 | succ m ih =>
  rcases Nat.lt_or_ge k (m + 1) with q | q
  · have hi:=Array.getElem?_eq_getElem (show m < ops.size by omega)
    obtain ⟨v,h1,_⟩:=d.step hi
    rw [h1,putT_ne fun e=>hc m (by omega) (by omega) ⟨_,hi,e⟩]
    exact ih (by omega) (by omega) fun i h1 h2=>hc i h1 (by omega)
  · have:k=m + 1:=by omega
    subst this;rfl
theorem next_solo (P:Program) (B:Option (List Nat)) (ops:Array Oper):∀ (n k:Nat),k + n=ops.size→∃ q,k≤q∧q≤ops.size∧(∀ i,k≤i→i < q→¬ isSolo P B ops i)∧(q < ops.size→isSolo P B ops q)
 | 0,k,h=>⟨k,Nat.le_refl _,by omega,fun i h1 h2=>by omega,fun h2=>by omega⟩
 | n + 1,k,h=>by
  by_cases hs:isSolo P B ops k
  · exact ⟨k,Nat.le_refl _,by omega,fun i h1 h2=>by omega,fun _=>hs⟩
  · obtain ⟨q,h1,h2,h3,h4⟩:=next_solo P B ops n (k + 1) (by omega)
    refine ⟨q,by omega,h2,fun i a b=>?_,h4⟩
    rcases Nat.lt_or_ge k i with c | c
    · exact h3 i (by omega) b
    · have:i=k:=by omega
      subst this;exact hs
end
end Go.Proofs.YtgbnbgkldeifkaaGreatA
/- Regions whose order is drawn: every order comes to the same. No statement about the program is proved here. -/
namespace Go.Proofs.YtgbnbgkldeifkaaGreatA
open Go Go.RowKit
set_option linter.unusedVariables false
section
variable {w0:World} {ro:Nat→Prop} {P:Program} {lim:Nat} {E:AEnv} {ex:AC→Nat→Tmps→Heap→Step} {ops:Array Oper} {S:Nat→Tmps × Heap} {B:Option (List Nat)}
def In (L:Array Bool) (k:Nat):Prop:=L.getD k false=true
theorem in_set {L:Array Bool} {j k:Nat} (hj:j < L.size):In (L.setIfInBounds j true) k ↔ k=j∨In L k:=by
 unfold In
 by_cases e:k=j
 · subst e;simp [hj]
 · rw [getD_set_ne false (Ne.symm e)];simp [e]
structure InvH (w0:World) (ro:Nat→Prop) (P:Program) (lim:Nat) (B:Option (List Nat)) (ops:Array Oper) (S:Nat→Tmps × Heap) (μ0:Mu) (w00:World) (L:Array Bool) (μ:Mu) (w:World) (p q:Nat) (Y:Heap):Prop where
 start:μ0.length=(S 0).2.length
 pq:p≤q
 qn:q≤ops.size
 done:∀ k,k < p→isLoud P B ops k→In L k
 calm:∀ k,p≤k→k < q→¬ isSolo P B ops k
 next:q < ops.size→isSolo P B ops q
 rest:∀ k,q≤k→isLoud P B ops k→In L k→isFresh P ops k
 ylen:(S q).2.length + Y.length=(S ops.size).2.length
 holes:∀ (k b:Nat) (loc:Loc),p≤k→k < q→¬ In L k→(S k).2.length≤b→b < (S (k + 1)).2.length→μ[b]? ≠ some (some loc)
 pend:∀ (b:Nat) (loc:Loc),(S q).2.length≤b→μ[b]?=some (some loc)→∃ k,q≤k∧isFresh P ops k∧In L k∧b=(S k).2.length∧Y[b - (S q).2.length]?=(S (k + 1)).2[b]?
 post:Post w0 ro lim μ0 (S 0).2 w00 μ ((S q).2++Y) w
 fine:∀ (k b:Nat) (loc:Loc),p≤k→k≤q→b < (S k).2.length→μ[b]?=some (some loc)→BR w0 ro (μ.take (S k).2.length) loc w ((S q).2[b]?)
structure InvT (w0:World) (ro:Nat→Prop) (ops:Array Oper) (S:Nat→Tmps × Heap) (L:Array Bool) (μ:Mu) (a:Act):Prop where
 defers:a.defers=[]
 size:a.tmps.size=(S 0).1.length
 tmp:∀ (m t:Nat) (v:AV),m≤ops.size→(∀ i,writes ops t i→(i < m ↔ In L i))→(S m).1[t]?=some v→∃ v',a.tmps[t]?=some v'∧VR w0 ro (μ.take (S m).2.length) v v'
def Closed (ops:Array Oper) (L:Array Bool):Prop:=∀ (j:Nat) (o:Oper),ops[j]?=some o→In L j→∀ e ∈ o.after.toList,Region.binds .any e=true→In L e.on
theorem Dr.ahead (d:Dr P E ex lim B ops S) {L:Array Bool} (hL:Closed ops L) {i j:Nat} {o:Oper} (ho:ops[j]?=some o) (hp:∀ e ∈ o.after.toList,Region.binds .any e=true→In L e.on) (h:isBefore (befores ops.toList []) i j=true):In L i :=
 before_closed (ops:=ops.toList) (D:=In L) d.ed (fun j o hj=>hL j o (by simpa using hj)) (j + 1) j i o (Nat.lt_succ_self j) (by simpa using ho) hp h
theorem loud_writes {k:Nat} {oo:Oper} (h:ops[k]?=some oo) (hq:quietIn B.isSome (lowOper P ops oo).op=true):¬ isLoud P B ops k:=by
 rintro ⟨x,h1,h2⟩
 rw [h] at h1;cases h1
 rw [hq] at h2;cases h2
theorem InvT.frame (d:Dr P E ex lim B ops S) {L:Array Bool} {μ:Mu} {a:Act} (hT:InvT w0 ro ops S L μ a) (hL:Closed ops L) {j:Nat} {o:Oper} (ho:ops[j]?=some o) (hj:¬ In L j) (hp:∀ e ∈ o.after.toList,Region.binds .any e=true→In L e.on) :
 AR w0 ro (μ.take (S j).2.length) (patch (S j).1 (operTmps (lowOper P ops o))) a:=by
 have hlt:j < ops.size:=(Array.getElem?_eq_some_iff.1 ho).1
 refine ⟨hT.defers,VRs.of_get ?_ fun t v hv=>?_⟩
 · have h1:=d.tlen (Nat.le_of_lt hlt)
   have h2:=hT.size
   simp only [patch,List.length_mapIdx,Array.length_toList]
   omega
 · rw [patch_get,Option.map_eq_some_iff] at hv
   obtain ⟨u,h1,h2⟩:=hv
   split at h2
   · rename_i hm
     subst h2
     have hm':t ∈ operTmps (lowOper P ops o):=by simpa using hm
     obtain ⟨v',h3,h4⟩:=hT.tmp j t u (Nat.le_of_lt hlt) (fun i ⟨x,hx,hd⟩=>by
      by_cases e:i=j
      · subst e;exact ⟨fun h=>absurd h (Nat.lt_irrefl _),fun h=>absurd h hj⟩
      · have hh:=d.apart hx ho hd e (.inl hm')
        unfold held at hh
        rcases Nat.lt_or_gt_of_ne e with q | q
        · rw [if_pos q] at hh
          exact ⟨fun _=>d.ahead hL ho hp hh,fun _=>q⟩
        · rw [if_neg (by omega)] at hh
          exact ⟨fun h=>by omega,fun h=>absurd (d.ahead hL hx (hL i x hx h) hh) hj⟩) h1
     exact ⟨v',by simpa using h3,h4⟩
   · subst h2
     have ht:t < (S j).1.length:=(List.getElem?_eq_some_iff.1 h1).1
     have h3:t < a.tmps.size:=by rw [hT.size,← d.tlen (Nat.le_of_lt hlt)];exact ht
     exact ⟨a.tmps[t],by simp [h3],.undef _⟩
theorem InvT.put (d:Dr P E ex lim B ops S) {L:Array Bool} {μ μ':Mu} {a:Act} (hT:InvT w0 ro ops S L μ a) (hs:L.size=ops.size) (hL:Closed ops L) {j:Nat} {o:Oper} (ho:ops[j]?=some o) (hj:¬ In L j) (hp:∀ e ∈ o.after.toList,Region.binds .any e=true→In L e.on)
 {v:AV} {v':Value} (hS:(S (j + 1)).1=putT (S j).1 o.dst v) (hE:Ext μ μ') (hv:VR w0 ro (μ'.take (S (j + 1)).2.length) v v'):InvT w0 ro ops S (L.setIfInBounds j true) μ' (a.put o.dst v'):=by
 have hlt:j < ops.size:=(Array.getElem?_eq_some_iff.1 ho).1
 refine ⟨?_,?_,fun m t u hm hc hu=>?_⟩
 · unfold Act.put;split <;> exact hT.defers
 · unfold Act.put;split <;> simp [hT.size]
 · by_cases hw:o.dst=some t
   · have hjm:j < m:=(hc j ⟨o,ho,hw⟩).2 ((in_set (by omega)).2 (.inl rfl))
     have hk:(S m).1[t]?=(S (j + 1)).1[t]?:=d.keep hm hjm fun i h1 h2 ⟨x,hx,hd⟩=>by
      have hne:i ≠ j:=by omega
      have hi:=((in_set (by omega)).1 ((hc i ⟨x,hx,hd⟩).1 h2)).resolve_left hne
      have hh:=d.apart ho hx hw (Ne.symm hne) (.inr hd)
      unfold held at hh
      rw [if_pos (by omega)] at hh
      exact hj (d.ahead hL hx (hL i x hx hi) hh)
     rw [hk,hS,hw] at hu
     simp only [putT] at hu
     have hlen:t < (S j).1.length:=by
      have:=(List.getElem?_eq_some_iff.1 hu).1
      simpa using this
     rw [List.getElem?_set_self hlen] at hu
     cases hu
     have h3:t < a.tmps.size:=by rw [hT.size,← d.tlen (Nat.le_of_lt hlt)];exact hlen
     refine ⟨v',?_,hv.ext (ext_take_le (d.more hm hjm))⟩
     simp [Act.put,hw,h3]
   · obtain ⟨u',h1,h2⟩:=hT.tmp m t u hm (fun i hi=>by
      have hne:i ≠ j:=fun e=>by
       subst e
       obtain ⟨x,hx,hd⟩:=hi
       rw [ho] at hx;cases hx
       exact hw hd
      rw [hc i hi,in_set (by omega)]
      simp [hne]) hu
     refine ⟨u',?_,h2.ext (ext_take hE _)⟩
     unfold Act.put
     split
     · rename_i dd hd
       rw [Array.getElem?_setIfInBounds_ne fun e=>hw (by rw [hd,e])]
       exact h1
     · exact h1
theorem closed_set {L:Array Bool} (hs:L.size=ops.size) (hL:Closed ops L) {j:Nat} {o:Oper} (ho:ops[j]?=some o) (hp:∀ e ∈ o.after.toList,Region.binds .any e=true→In L e.on):Closed ops (L.setIfInBounds j true):=by
 have hlt:j < ops.size:=(Array.getElem?_eq_some_iff.1 ho).1
 intro k x hx hk e he hb
 rw [in_set (by omega)] at hk ⊢
 rcases hk with rfl | hk
 · rw [ho] at hx;cases hx;exact .inr (hp e he hb)
 · exact .inr (hL k x hx hk e he hb)
theorem InvH.later {μ0:Mu} {w00 w w':World} {L:Array Bool} {μ:Mu} {p q:Nat} {Y:Heap} (h:InvH w0 ro P lim B ops S μ0 w00 L μ w p q Y) {j:Nat} (hj:¬ isLoud P B ops j) (hlt:j < L.size)
 (hs:w.heap.size≤w'.heap.size) (hk:∀ c,c < w.heap.size→w'.heap[c]?=w.heap[c]?) (hos:w'.os=w.os) (htape:w'.tape=w.tape) (hout:w'.output=w.output) :
 InvH w0 ro P lim B ops S μ0 w00 (L.setIfInBounds j true) μ w' p q Y where
 start:=h.start
 pq:=h.pq
 qn:=h.qn
 done:=fun k hk hl=>(in_set hlt).2 (.inr (h.done k hk hl))
 calm:=h.calm
 next:=h.next
 rest:=fun k hk hl hi=>by
  rcases (in_set hlt).1 hi with rfl | hi
  · exact absurd hl hj
  · exact h.rest k hk hl hi
 ylen:=h.ylen
 pend:=fun b loc h1 h2=>by
  obtain ⟨k,k1,k2,k3,k4,k5⟩:=h.pend b loc h1 h2
  exact ⟨k,k1,k2,(in_set hlt).2 (.inr k3),k4,k5⟩
 holes:=fun k b loc h1 h2 h3 h4 h5=>h.holes k b loc h1 h2 (fun hi=>h3 ((in_set hlt).2 (.inr hi))) h4 h5
 post:=by
  have hp:=h.post
  exact ⟨hp.app,hp.hr.later hs hk,hos.trans hp.os,htape.trans hp.tape,hout.trans hp.output,Nat.le_trans hp.size hs,
   fun c hc ho=>(hk c (Nat.lt_of_lt_of_le hc hp.size)).trans (hp.frame c hc ho),hp.sub,hp.low,hp.more⟩
 fine:=fun k b loc h1 h2 h3 h4=>(h.fine k b loc h1 h2 h3 h4).later hk
theorem noOwn {μ:Mu} {H:Heap} {n c:Nat} (h:μ.length≤n):¬ Owned μ H n c:=by
 rintro ⟨b,loc,h1,_,h2,_⟩
 have:=(List.getElem?_eq_some_iff.1 h2).1
 omega
theorem take_pre {H H':Heap} (h1:H.length≤H'.length) (h2:∀ b,b < H.length→H'[b]?=H[b]?):H++H'.drop H.length=H':=by
 apply List.ext_getElem?
 intro i
 rcases Nat.lt_or_ge i H.length with q | q
 · rw [List.getElem?_append_left q,h2 i q]
 · rw [List.getElem?_append_right q,List.getElem?_drop]
   congr 1;omega
end
end Go.Proofs.YtgbnbgkldeifkaaGreatA
/- Regions whose order is drawn: every order comes to the same (end). No statement about the program is proved here. -/
namespace Go.Proofs.YtgbnbgkldeifkaaGreatA
open Go Go.RowKit
set_option linter.unusedVariables false
section
variable {w0:World} {ro:Nat→Prop} {P:Program} {lim:Nat} {E:AEnv} {ex:AC→Nat→Tmps→Heap→Step} {ops:Array Oper} {S:Nat→Tmps × Heap} {B:Option (List Nat)}
variable {μ0:Mu} {w00 w:World} {L:Array Bool} {μ:Mu} {p q:Nat} {Y:Heap}
theorem InvH.len (h:InvH w0 ro P lim B ops S μ0 w00 L μ w p q Y):μ.length=(S q).2.length + Y.length:=by
 rw [h.post.hr.len,List.length_append]
theorem InvH.front (d:Dr P E ex lim B ops S) (h:InvH w0 ro P lim B ops S μ0 w00 L μ w p q Y) {k:Nat} (h1:p≤k) (h2:k≤q):∃ X,(S q).2=(S k).2++X :=
 d.pre h.qn h2 fun i a b=>h.calm i (by omega) b
theorem InvH.soft_hr (d:Dr P E ex lim B ops S) (h:InvH w0 ro P lim B ops S μ0 w00 L μ w p q Y) {j:Nat} (h1:p≤j) (h2:j≤q):HR w0 ro (μ.take (S j).2.length) (S j).2 w:=by
 obtain ⟨X,hX⟩:=h.front d h1 h2
 have hl:=h.len
 have hle:(S j).2.length≤(S q).2.length:=d.more h.qn h2
 have tk:∀ (b:Nat) (loc:Loc),(μ.take (S j).2.length)[b]?=some (some loc)→b < (S j).2.length∧μ[b]?=some (some loc):=fun b loc e=>by
  rw [List.getElem?_take] at e
  split at e
  · exact ⟨by assumption,e⟩
  · cases e
 refine ⟨by simp;omega,h.post.hr.grow,h.post.hr.old,fun b loc e=>?_,fun b b' l l' a a' e e'=>?_⟩
 · obtain ⟨q1,e1⟩:=tk b loc e
   have:=h.fine j b loc h1 h2 q1 e1
   rw [hX,List.getElem?_append_left q1] at this
   exact this
 · refine h.post.hr.inj b b' l l' ?_ ?_ (tk b l e).2 (tk b' l' e').2
   · rw [hX];exact alive_pre (alive_pre a)
   · rw [hX];exact alive_pre (alive_pre a')
theorem InvH.soft (d:Dr P E ex lim B ops S) (h:InvH w0 ro P lim B ops S μ0 w00 L μ w p q Y) {j:Nat} (hlt:j < L.size) (hj:¬ In L j) (h1:p≤j) (h2:j < q) {μ':Mu} {w':World}
 (hp:Post w0 ro (S j).2.length (μ.take (S j).2.length) (S j).2 w μ' (S (j + 1)).2 w') :
 ∃ μ'',Ext μ μ''∧μ''.take (S (j + 1)).2.length=μ'∧InvH w0 ro P lim B ops S μ0 w00 (L.setIfInBounds j true) μ'' w' p q Y:=by
 have hl:=h.len
 have hle0:(S 0).2.length≤(S j).2.length:=d.more (by have:=h.qn;omega) (Nat.zero_le _)
 have hle1:(S j).2.length≤(S (j + 1)).2.length:=d.more (by have:=h.qn;omega) (Nat.le_succ j)
 have hle2:(S (j + 1)).2.length≤(S q).2.length:=d.more h.qn h2
 obtain ⟨X,hX⟩:=h.front d (show p≤j + 1 by omega) h2
 have hX2:(S q).2++Y=(S (j + 1)).2++(X++Y):=by rw [hX,List.append_assoc]
 have hl':μ'.length=(S (j + 1)).2.length:=hp.hr.len
 have hj':(μ.take (S j).2.length).length=(S j).2.length:=by simp;omega
 have noown:∀ c,¬ Owned (μ.take (S j).2.length) (S j).2 (S j).2.length c:=fun c=>noOwn (by simp;omega)
 have frame:∀ c,c < w.heap.size→w'.heap[c]?=w.heap[c]?:=fun c hc=>hp.frame c hc (noown c)
 have newloc:∀ (b:Nat) (loc:Loc),(S j).2.length≤b→alive (S (j + 1)).2 b→μ'[b]?=some (some loc)→w.heap.size≤loc.c:=fun b loc hb ha hm=>by
  rcases Nat.lt_or_ge loc.c w.heap.size with q1 | q1
  · exact absurd (hp.sub loc.c q1 ⟨b,loc,hb,ha,hm,rfl⟩) (noown _)
  · exact q1
 have low:∀ b,b < (S j).2.length→μ'[b]?=μ[b]?:=fun b hb=>by
  obtain ⟨ν,e⟩:=hp.app
  rw [e,List.getElem?_append_left (by omega),List.getElem?_take,if_pos hb]
 have get:∀ b,(μ'++μ.drop (S (j + 1)).2.length)[b]?=if b < (S (j + 1)).2.length then μ'[b]? else μ[b]?:=fun b=>by
  split
  · rw [List.getElem?_append_left (by omega)]
  · rw [List.getElem?_append_right (by omega),List.getElem?_drop]
    congr 1;omega
 -- what is mapped is old,or it is new
 have cls:∀ (b:Nat) (loc:Loc),(μ'++μ.drop (S (j + 1)).2.length)[b]?=some (some loc)→((b < (S j).2.length∨(S (j + 1)).2.length≤b)∧μ[b]?=some (some loc))∨((S j).2.length≤b∧b < (S (j + 1)).2.length∧μ'[b]?=some (some loc)):=fun b loc e=>by
  rw [get] at e
  split at e
  · rename_i q1
    rcases Nat.lt_or_ge b (S j).2.length with q2 | q2
    · rw [low b q2] at e;exact .inl ⟨.inl q2,e⟩
    · exact .inr ⟨q2,q1,e⟩
  · rename_i q1;exact .inl ⟨.inr (by omega),e⟩
 have E1:Ext μ (μ'++μ.drop (S (j + 1)).2.length):=fun b loc e=>by
  rw [get]
  split
  · rename_i q1
    rcases Nat.lt_or_ge b (S j).2.length with q2 | q2
    · rw [low b q2];exact e
    · exact absurd e (h.holes j b loc h1 h2 hj q2 q1)
  · exact e
 have tk:(μ'++μ.drop (S (j + 1)).2.length).take (S (j + 1)).2.length=μ':=by
  rw [← hl',List.take_append_of_le_length (Nat.le_refl _),List.take_length]
 have E2:Ext μ' (μ'++μ.drop (S (j + 1)).2.length):=Ext.app _ _
 have lat:=h.post.hr.later hp.size frame
 refine ⟨μ'++μ.drop (S (j + 1)).2.length,E1,tk,?_⟩
 constructor
 case start=>exact h.start
 case pq=>exact h.pq
 case qn=>exact h.qn
 case done=>exact fun k hk hl=>(in_set hlt).2 (.inr (h.done k hk hl))
 case calm=>exact h.calm
 case next=>exact h.next
 case rest =>
  intro k hk hl hi
  rcases (in_set hlt).1 hi with rfl | hi
  · omega
  · exact h.rest k hk hl hi
 case ylen=>exact h.ylen
 case pend =>
  intro b loc k1 e
  rw [get,if_neg (by omega)] at e
  obtain ⟨k,g1,g2,g3,g4,g5⟩:=h.pend b loc k1 e
  exact ⟨k,g1,g2,(in_set hlt).2 (.inr g3),g4,g5⟩
 case holes =>
  intro k b loc k1 k2 k3 k4 k5 e
  have hne:k ≠ j:=fun e=>k3 ((in_set hlt).2 (.inl e))
  have k3':¬ In L k:=fun hi=>k3 ((in_set hlt).2 (.inr hi))
  rcases cls b loc e with ⟨_,e'⟩ | ⟨c1,c2,_⟩
  · exact h.holes k b loc k1 k2 k3' k4 k5 e'
  · rcases Nat.lt_or_gt_of_ne hne with q1 | q1
    · have:=d.more (show j≤ops.size by have:=h.qn;omega) (show k + 1≤j by omega);omega
    · have:=d.more (show k≤ops.size by have:=h.qn;omega) (show j + 1≤k by omega);omega
 case post =>
  have hq:=h.post
  refine ⟨?_,⟨?_,Nat.le_trans hq.hr.grow hp.size,lat.old,fun b loc e=>?_,fun b b' l l' a a' e e'=>?_⟩,hp.os.trans hq.os,hp.tape.trans hq.tape,hp.output.trans hq.output,Nat.le_trans hq.size hp.size,?_,?_,hq.low,hq.more⟩
  · obtain ⟨ν0,e0⟩:=hq.app
    obtain ⟨ν,e1⟩:=hp.app
    have hm0:μ0.length≤(S j).2.length:=by rw [h.start];exact hle0
    refine ⟨(ν0.take ((S j).2.length - μ0.length))++ν++μ.drop (S (j + 1)).2.length,?_⟩
    rw [e1]
    have:μ.take (S j).2.length=μ0++ν0.take ((S j).2.length - μ0.length):=by
     rw [e0,List.take_append,List.take_of_length_le hm0]
    rw [this]
    simp only [List.append_assoc]
  · simp only [List.length_append,List.length_drop];omega
  · rcases Nat.lt_or_ge b (S (j + 1)).2.length with q1 | q1
    · rw [get,if_pos q1] at e
      have:=(hp.hr.blk b loc e).ext E2
      rw [hX2,List.getElem?_append_left q1]
      exact this
    · rw [get,if_neg (by omega)] at e
      exact (lat.blk b loc e).ext E1
  · have old:∀ (b:Nat) (l:Loc),alive ((S q).2++Y) b→μ[b]?=some (some l)→l.c < w.heap.size:=fun b l a e=>BR.lt a (hq.hr.blk b l e)
    have new:∀ (b:Nat) (l:Loc),alive ((S q).2++Y) b→(S j).2.length≤b→b < (S (j + 1)).2.length→μ'[b]?=some (some l)→w.heap.size≤l.c:=fun b l a c1 c2 e=>by
     refine newloc b l c1 ?_ e
     rw [hX2] at a
     exact alive_cut c2 a
    intro ee
    rcases cls b l e with ⟨_,x⟩ | ⟨c1,c2,x⟩ <;> rcases cls b' l' e' with ⟨_,x'⟩ | ⟨c1',c2',x'⟩
    · exact hq.hr.inj b b' l l' a a' x x' ee
    · have:=old b l a x;have:=new b' l' a' c1' c2' x';omega
    · have:=old b' l' a' x';have:=new b l a c1 c2 x;omega
    · rw [hX2] at a a'
      exact hp.hr.inj b b' l l' (alive_cut c2 a) (alive_cut c2' a') x x' ee
  · exact fun c hc ho=>(frame c (Nat.lt_of_lt_of_le hc hq.size)).trans (hq.frame c hc ho)
  · rintro c hc ⟨b,loc,b1,b2,b3,b4⟩
    rcases cls b loc b3 with ⟨_,x⟩ | ⟨c1,c2,x⟩
    · exact hq.sub c hc ⟨b,loc,b1,b2,x,b4⟩
    · rw [hX2] at b2
      have:=newloc b loc c1 (alive_cut c2 b2) x
      have:=hq.size
      omega
 case fine =>
  intro k b loc k1 k2 k3 e
  rcases cls b loc e with ⟨_,x⟩ | ⟨c1,c2,x⟩
  · exact ((h.fine k b loc k1 k2 k3 x).later frame).ext (ext_take E1 _)
  · have hjk:j + 1≤k:=by
     rcases Nat.lt_or_ge j k with q1 | q1
     · exact q1
     · have:=d.more (show j≤ops.size by have:=h.qn;omega) q1;omega
    have hle3:=d.more (show k≤ops.size by have:=h.qn;omega) hjk
    have:=(hp.hr.blk b loc x)
    rw [hX,List.getElem?_append_left c2]
    refine this.ext ?_
    have E3:Ext ((μ'++μ.drop (S (j + 1)).2.length).take (S (j + 1)).2.length) ((μ'++μ.drop (S (j + 1)).2.length).take (S k).2.length):=ext_take_le hle3
    rw [tk] at E3
    exact E3
theorem InvH.grown (d:Dr P E ex lim B ops S) {k:Nat} (hf:isFresh P ops k):(S (k + 1)).2.length=(S k).2.length + 1:=by
 obtain ⟨oo,h1,h2⟩:=hf
 obtain ⟨z,_,_,_,_,h3⟩:=d.fresh h1 h2
 rw [h3];simp
theorem InvH.hard (d:Dr P E ex lim B ops S) (h:InvH w0 ro P lim B ops S μ0 w00 L μ w p q Y) (hs:L.size=ops.size) (hL:Closed ops L) {o:Oper} (ho:ops[q]?=some o) (hj:¬ In L q) (hpre:∀ e ∈ o.after.toList,Region.binds .any e=true→In L e.on) {μ':Mu} {w':World}
 (hp:Post w0 ro lim (μ.take (S q).2.length) (S q).2 w μ' (S (q + 1)).2 w') :
 ∃ μ'' p' q' Y',Ext μ μ''∧Ext μ' (μ''.take (S (q + 1)).2.length)∧InvH w0 ro P lim B ops S μ0 w00 (L.setIfInBounds q true) μ'' w' p' q' Y':=by
 have hlt:q < ops.size:=(Array.getElem?_eq_some_iff.1 ho).1
 have hsolo:=h.next hlt
 obtain ⟨q',c1,c2,c3,c4⟩:=next_solo P B ops (ops.size - (q + 1)) (q + 1) (by omega)
 obtain ⟨X,hX⟩:=d.pre c2 c1 c3
 have hl:=h.len
 have hyl:=h.ylen
 have hm1:(S q).2.length≤(S (q + 1)).2.length:=d.more hlt (Nat.le_succ q)
 have hm2:(S (q + 1)).2.length≤(S q').2.length:=d.more c2 c1
 have hm3:(S q').2.length≤(S ops.size).2.length:=d.more (Nat.le_refl _) c2
 have hl':μ'.length=(S (q + 1)).2.length:=hp.hr.len
 have tkl:(μ.take (S q).2.length).length=(S q).2.length:=by simp;omega
 have low:∀ b,b < (S q).2.length→μ'[b]?=μ[b]?:=fun b hb=>by
  obtain ⟨ν,e⟩:=hp.app
  rw [e,List.getElem?_append_left (by omega),List.getElem?_take,if_pos hb]
 have get:∀ b,(μ'++μ.drop (S (q + 1)).2.length)[b]?=if b < (S (q + 1)).2.length then μ'[b]? else μ[b]?:=fun b=>by
  split
  · rw [List.getElem?_append_left (by omega)]
  · rw [List.getElem?_append_right (by omega),List.getElem?_drop]
    congr 1;omega
 have tk:(μ'++μ.drop (S (q + 1)).2.length).take (S (q + 1)).2.length=μ':=by
  rw [← hl',List.take_append_of_le_length (Nat.le_refl _),List.take_length]
 -- who waits lies behind this one
 have wait:∀ (b:Nat) (loc:Loc),(S q).2.length≤b→μ[b]?=some (some loc)→∃ k,q + 1≤k∧isFresh P ops k∧In L k∧b=(S k).2.length∧(S (q + 1)).2.length≤b∧k < ops.size∧Y[b - (S q).2.length]?=(S (k + 1)).2[b]?:=fun b loc hb e=>by
  obtain ⟨k,g1,g2,g3,g4,g5⟩:=h.pend b loc hb e
  have hne:k ≠ q:=fun e=>solo_old hsolo (e ▸ g2)
  have hk:k < ops.size:=by obtain ⟨x,hx,_⟩:=g2;exact (Array.getElem?_eq_some_iff.1 hx).1
  have:=d.more (Nat.le_of_lt hk) (show q + 1≤k by omega)
  exact ⟨k,by omega,g2,g3,g4,by omega,hk,g5⟩
 have E1:Ext μ (μ'++μ.drop (S (q + 1)).2.length):=fun b loc e=>by
  rw [get]
  rcases Nat.lt_or_ge b (S q).2.length with q1 | q1
  · rw [if_pos (by omega),low b q1];exact e
  · obtain ⟨k,_,_,_,_,g5,_,_⟩:=wait b loc q1 e
    rw [if_neg (by omega)];exact e
 have E2:Ext μ' (μ'++μ.drop (S (q + 1)).2.length):=Ext.app _ _
 have hX2:∀ Z,(S q').2++Z=(S (q + 1)).2++(X++Z):=fun Z=>by rw [hX,List.append_assoc]
 -- what waits is the same in both
 have same:∀ (b:Nat) (loc:Loc),(S q).2.length≤b→μ[b]?=some (some loc)→((S q').2++Y.drop ((S q').2.length - (S q).2.length))[b]?=((S q).2++Y)[b]?:=fun b loc hb e=>by
  obtain ⟨k,g1,g2,g3,g4,g5,g6,g7⟩:=wait b loc hb e
  rw [List.getElem?_append_right hb,g7]
  rcases Nat.lt_or_ge b (S q').2.length with q1 | q1
  · rw [List.getElem?_append_left q1]
    have hk:k < q':=by
     rcases Nat.lt_or_ge k q' with q2 | q2
     · exact q2
     · have:=d.more (Nat.le_of_lt g6) q2;omega
    obtain ⟨Z,hZ⟩:=d.pre c2 (show k + 1≤q' by omega) fun i i1 i2=>c3 i (by omega) i2
    have:=InvH.grown d g2
    rw [hZ,List.getElem?_append_left (by omega)]
  · rw [List.getElem?_append_right q1,List.getElem?_drop,← g7]
    congr 1;omega
 have cls:∀ (b:Nat) (loc:Loc),(μ'++μ.drop (S (q + 1)).2.length)[b]?=some (some loc)→(b < (S (q + 1)).2.length∧μ'[b]?=some (some loc))∨((S (q + 1)).2.length≤b∧μ[b]?=some (some loc)):=fun b loc e=>by
  rw [get] at e
  split at e
  · rename_i q1;exact .inl ⟨q1,e⟩
  · rename_i q1;exact .inr ⟨by omega,e⟩
 have oldlt:∀ (b:Nat) (l:Loc),alive ((S q).2++Y) b→μ[b]?=some (some l)→l.c < w.heap.size:=fun b l a e=>BR.lt a (h.post.hr.blk b l e)
 -- what waits is alive
 have waitAlive:∀ (b:Nat) (loc:Loc),(S q).2.length≤b→μ[b]?=some (some loc)→alive ((S q).2++Y) b:=fun b loc hb e=>by
  obtain ⟨k,g1,g2,g3,g4,g5,g6,g7⟩:=wait b loc hb e
  obtain ⟨oo,x1,x2⟩:=g2
  obtain ⟨z,_,_,_,_,x3⟩:=d.fresh x1 x2
  refine .inl ⟨false,z,?_⟩
  rw [List.getElem?_append_right hb,g7,x3,g4]
  simp
 have upOwned:∀ c,Owned (μ.take (S q).2.length) (S q).2 lim c→Owned μ ((S q).2++Y) lim c:=by
  rintro c ⟨b,loc,b1,b2,b3,b4⟩
  refine ⟨b,loc,b1,alive_pre b2,?_,b4⟩
  rw [List.getElem?_take] at b3
  split at b3
  · exact b3
  · cases b3
 -- nobody that writes reaches what waits
 have apart:∀ (b:Nat) (loc:Loc),(S q).2.length≤b→μ[b]?=some (some loc)→¬ Owned (μ.take (S q).2.length) (S q).2 lim loc.c:=by
  rintro b loc hb e ⟨b1,l1,x1,x2,x3,x4⟩
  have hb1:b1 < (S q).2.length:=alive_lt x2
  rw [List.getElem?_take,if_pos hb1] at x3
  have:=h.post.hr.inj b1 b l1 loc (alive_pre x2) (waitAlive b loc hb e) x3 e x4
  omega
 refine ⟨μ'++μ.drop (S (q + 1)).2.length,q + 1,q',Y.drop ((S q').2.length - (S q).2.length),E1,by rw [tk];exact Ext.refl _,?_⟩
 constructor
 case start=>exact h.start
 case pq=>exact c1
 case qn=>exact c2
 case calm=>exact c3
 case next=>exact c4
 case ylen=>simp only [List.length_drop];omega
 case done =>
  intro k hk hl
  rw [in_set (by omega)]
  by_cases e:k=q
  · exact .inl e
  · rcases d.solo hsolo hl (Ne.symm e) with this | ⟨_,this⟩
    · unfold held at this
      rw [if_neg (by omega)] at this
      exact .inr (d.ahead hL ho hpre this)
    · omega
 case rest =>
  intro k hk hl hi
  have hne:k ≠ q:=by omega
  have hi':=((in_set (by omega)).1 hi).resolve_left hne
  exact h.rest k (by omega) hl hi'
 case pend =>
  intro b loc hb e
  rcases cls b loc e with ⟨x,_⟩ | ⟨_,x⟩
  · omega
  · obtain ⟨k,g1,g2,g3,g4,g5,g6,g7⟩:=wait b loc (by omega) x
    refine ⟨k,?_,g2,(in_set (by omega)).2 (.inr g3),g4,?_⟩
    · rcases Nat.lt_or_ge k q' with q2 | q2
      · have:=d.more c2 (show k + 1≤q' by omega)
        have:=InvH.grown d g2
        omega
      · exact q2
    · rw [List.getElem?_drop,← g7]
      congr 1;omega
 case holes =>
  intro k b loc k1 k2 k3 k4 k5 e
  have hk1:=d.more (show k≤ops.size by omega) k1
  rcases cls b loc e with ⟨x,_⟩ | ⟨_,x⟩
  · omega
  · obtain ⟨m,g1,g2,g3,g4,g5,g6,g7⟩:=wait b loc (by omega) x
    have hg:=InvH.grown d g2
    have hkm:k=m:=by
     rcases Nat.lt_trichotomy k m with q2 | q2 | q2
     · have:=d.more (Nat.le_of_lt g6) (show k + 1≤m by omega);omega
     · exact q2
     · have:=d.more (show k≤ops.size by omega) (show m + 1≤k by omega);omega
    subst hkm
    exact k3 ((in_set (by omega)).2 (.inr g3))
 case post =>
  have hq:=h.post
  refine ⟨?_,⟨?_,Nat.le_trans hq.hr.grow hp.size,hp.hr.old,fun b loc e=>?_,fun b b' l l' a a' e e'=>?_⟩,hp.os.trans hq.os,hp.tape.trans hq.tape,hp.output.trans hq.output,Nat.le_trans hq.size hp.size,?_,?_,?_,?_⟩
  · obtain ⟨ν0,e0⟩:=hq.app
    obtain ⟨ν,e1⟩:=hp.app
    have hm0:μ0.length≤(S q).2.length:=by rw [h.start];exact d.more (Nat.le_of_lt hlt) (Nat.zero_le q)
    refine ⟨(ν0.take ((S q).2.length - μ0.length))++ν++μ.drop (S (q + 1)).2.length,?_⟩
    rw [e1]
    have:μ.take (S q).2.length=μ0++ν0.take ((S q).2.length - μ0.length):=by
     rw [e0,List.take_append,List.take_of_length_le hm0]
    rw [this]
    simp only [List.append_assoc]
  · simp only [List.length_append,List.length_drop];omega
  · rcases cls b loc e with ⟨x1,x2⟩ | ⟨x1,x2⟩
    · rw [hX2,List.getElem?_append_left x1]
      exact (hp.hr.blk b loc x2).ext E2
    · rw [same b loc (by omega) x2]
      refine BR.ext E1 (BR.world (hp.frame loc.c (oldlt b loc (waitAlive b loc (by omega) x2) x2) (apart b loc (by omega) x2)) (hq.hr.blk b loc x2))
  · intro ee
    -- one that waits,and one of the others
    have cross:∀ (b b':Nat) (l l':Loc),b < (S (q + 1)).2.length→alive (S (q + 1)).2 b→μ'[b]?=some (some l)→(S q).2.length≤b'→μ[b']?=some (some l')→l.c=l'.c→False:=fun b b' l l' y1 y2 y3 y4 y5 y6=>by
     have al:=waitAlive b' l' y4 y5
     have hc:=oldlt b' l' al y5
     rcases Nat.lt_or_ge b lim with z1 | z1
     · have z2:b < (S q).2.length:=by
        have:=d.le
        have:=d.more (Nat.le_of_lt hlt) (Nat.zero_le q)
        omega
       have hlow:=hp.low b z1 z2
       have al2:alive (S q).2 b:=by unfold alive at y2 ⊢;rw [← hlow];exact y2
       rw [low b z2] at y3
       have:=hq.hr.inj b b' l l' (alive_pre al2) al y3 y5 y6
       omega
     · have:=hp.sub l.c (y6 ▸ hc) ⟨b,l,z1,y2,y3,rfl⟩
       exact apart b' l' y4 y5 (y6 ▸ this)
    rcases cls b l e with ⟨x1,x2⟩ | ⟨x1,x2⟩ <;> rcases cls b' l' e' with ⟨x1',x2'⟩ | ⟨x1',x2'⟩
    · rw [hX2] at a a'
      exact hp.hr.inj b b' l l' (alive_cut x1 a) (alive_cut x1' a') x2 x2' ee
    · rw [hX2] at a
      exact (cross b b' l l' x1 (alive_cut x1 a) x2 (by omega) x2' ee).elim
    · rw [hX2] at a'
      exact (cross b' b l' l x1' (alive_cut x1' a') x2' (by omega) x2 ee.symm).elim
    · exact hq.hr.inj b b' l l' (waitAlive b l (by omega) x2) (waitAlive b' l' (by omega) x2') x2 x2' ee
  · exact fun c hc ho=>(hp.frame c (Nat.lt_of_lt_of_le hc hq.size) fun o=>ho (hq.sub c hc (upOwned c o))).trans (hq.frame c hc ho)
  · rintro c hc ⟨b,loc,b1,b2,b3,b4⟩
    rcases cls b loc b3 with ⟨x1,x2⟩ | ⟨x1,x2⟩
    · rw [hX2] at b2
      exact hq.sub c hc (upOwned c (hp.sub c (Nat.lt_of_lt_of_le hc hq.size) ⟨b,loc,b1,alive_cut x1 b2,x2,b4⟩))
    · exact hq.sub c hc ⟨b,loc,b1,waitAlive b loc (by omega) x2,x2,b4⟩
  · intro b hb hl0
    have hm0:(S 0).2.length≤(S q).2.length:=d.more (Nat.le_of_lt hlt) (Nat.zero_le q)
    rw [hX2,List.getElem?_append_left (by omega),hp.low b hb (by omega)]
    have:=hq.low b hb hl0
    rw [List.getElem?_append_left (by omega)] at this
    exact this
  · have hm0:(S 0).2.length≤(S q').2.length:=d.more c2 (Nat.zero_le q')
    simp only [List.length_append];omega
 case fine =>
  intro k b loc k1 k2 k3 e
  have hle3:=d.more (show k≤ops.size by omega) k1
  have E3:Ext ((μ'++μ.drop (S (q + 1)).2.length).take (S (q + 1)).2.length) ((μ'++μ.drop (S (q + 1)).2.length).take (S k).2.length):=ext_take_le hle3
  rw [tk] at E3
  rcases cls b loc e with ⟨x1,x2⟩ | ⟨x1,x2⟩
  · rw [hX,List.getElem?_append_left x1]
    exact (hp.hr.blk b loc x2).ext E3
  · obtain ⟨m,g1,g2,g3,g4,g5,g6,g7⟩:=wait b loc (by omega) x2
    have hb:b < (S q').2.length:=Nat.lt_of_lt_of_le k3 (d.more c2 k2)
    have hsm:=same b loc (by omega) x2
    rw [List.getElem?_append_left hb] at hsm
    rw [hsm]
    have h1:=BR.world (hp.frame loc.c (oldlt b loc (waitAlive b loc (by omega) x2) x2) (apart b loc (by omega) x2)) (h.post.hr.blk b loc x2)
    obtain ⟨oo,y1,y2⟩:=g2
    obtain ⟨z,_,_,⟨cs,hcs⟩,_,y3⟩:=d.fresh y1 y2
    have hblk:((S q).2++Y)[b]?=some (.cells false z):=by
     rw [List.getElem?_append_right (by omega),g7,y3,g4]
     simp
    rw [hblk] at h1 ⊢
    exact const_block hcs h1
theorem InvH.early (d:Dr P E ex lim B ops S) (h:InvH w0 ro P lim B ops S μ0 w00 L μ w p q Y) (hs:L.size=ops.size) {j:Nat} (hf:isFresh P ops j) (hj:¬ In L j) (hq:q < j) {z:List AV} (hz:(S (j + 1)).2=(S j).2++[.cells false z]) {μ':Mu} {w':World} {loc:Loc}
 (hp:Post w0 ro (S j).2.length (List.replicate (S j).2.length none) (List.replicate (S j).2.length .dead) w μ' (List.replicate (S j).2.length .dead++[.cells false z]) w') (hm:μ'[(S j).2.length]?=some (some loc)) :
 ∃ μ'' Y',Ext μ μ''∧Ext μ' (μ''.take (S (j + 1)).2.length)∧InvH w0 ro P lim B ops S μ0 w00 (L.setIfInBounds j true) μ'' w' p q Y':=by
 have hjn:j < ops.size:=by obtain ⟨x,hx,_⟩:=hf;exact (Array.getElem?_eq_some_iff.1 hx).1
 have hl:=h.len
 have hyl:=h.ylen
 have g0:(S 0).2.length≤(S q).2.length:=d.more h.qn (Nat.zero_le q)
 have g1:(S q).2.length≤(S j).2.length:=d.more (Nat.le_of_lt hjn) (Nat.le_of_lt hq)
 have g2:(S (j + 1)).2.length=(S j).2.length + 1:=by rw [hz];simp
 have g3:(S (j + 1)).2.length≤(S ops.size).2.length:=d.more (Nat.le_refl _) hjn
 generalize hn:(S j).2.length=n at *
 have unm:∀ l,μ[n]? ≠ some (some l):=fun l e=>by
  obtain ⟨k,k1,k2,k3,k4,_⟩:=h.pend n l g1 e
  have hk:k < ops.size:=by obtain ⟨x,hx,_⟩:=k2;exact (Array.getElem?_eq_some_iff.1 hx).1
  have hgr:=InvH.grown d k2
  rcases Nat.lt_trichotomy k j with q2 | q2 | q2
  · have:=d.more (Nat.le_of_lt hjn) (show k + 1≤j by omega);omega
  · subst q2;exact hj k3
  · have:=d.more (Nat.le_of_lt hk) (show j + 1≤k by omega);omega
 have noown:∀ c,¬ Owned (List.replicate n none) (List.replicate n .dead) n c:=fun c=>noOwn (by simp)
 have frame:∀ c,c < w.heap.size→w'.heap[c]?=w.heap[c]?:=fun c hc=>hp.frame c hc (noown c)
 have hcell:(List.replicate n ABlk.dead++[.cells false z])[n]?=some (.cells false z):=by
  rw [List.getElem?_append_right (by simp)];simp
 have newloc:w.heap.size≤loc.c:=by
  rcases Nat.lt_or_ge loc.c w.heap.size with q1 | q1
  · exact absurd (hp.sub loc.c q1 ⟨n,loc,Nat.le_refl _,.inl ⟨false,z,hcell⟩,hm,rfl⟩) (noown _)
  · exact q1
 have hl':μ'.length=n + 1:=by rw [hp.hr.len];simp
 have get:∀ b,(μ.set n (some loc))[b]?=if b=n then some (some loc) else μ[b]?:=fun b=>getElem?_set' _ _ _ _ (by omega)
 have getH:∀ b,((S q).2++Y.set (n - (S q).2.length) (.cells false z))[b]?=if b=n then some (.cells false z) else ((S q).2++Y)[b]?:=fun b=>by
  have:(S q).2++Y.set (n - (S q).2.length) (.cells false z)=((S q).2++Y).set n (.cells false z):=by rw [List.set_append_right _ _ g1]
  rw [this]
  exact getElem?_set' _ _ _ _ (by simp;omega)
 have E1:Ext μ (μ.set n (some loc)):=fun b l e=>by
  rw [get]
  by_cases e2:b=n
  · subst e2;exact absurd e (unm l)
  · rw [if_neg e2];exact e
 have E2:Ext μ' ((μ.set n (some loc)).take (n + 1)):=fun b l e=>by
  have hb:b < n + 1:=by rw [← hl'];exact (List.getElem?_eq_some_iff.1 e).1
  rw [List.getElem?_take,if_pos hb,get]
  by_cases e2:b=n
  · subst e2;rw [hm] at e;rw [if_pos rfl];exact e
  · obtain ⟨ν,ea⟩:=hp.app
    rw [ea,List.getElem?_append_left (by simp;omega),List.getElem?_replicate] at e
    split at e <;> cases e
 have al:∀ b,b ≠ n→alive ((S q).2++Y.set (n - (S q).2.length) (.cells false z)) b→alive ((S q).2++Y) b:=fun b e a=>by
  unfold alive at a ⊢
  rw [getH,if_neg e] at a
  exact a
 have lat:=h.post.hr.later hp.size frame
 refine ⟨μ.set n (some loc),Y.set (n - (S q).2.length) (.cells false z),E1,by rw [g2];exact E2,?_⟩
 constructor
 case start=>exact h.start
 case pq=>exact h.pq
 case qn=>exact h.qn
 case calm=>exact h.calm
 case next=>exact h.next
 case done=>exact fun k hk hl=>(in_set (by omega)).2 (.inr (h.done k hk hl))
 case ylen=>simp only [List.length_set];exact hyl
 case rest =>
  intro k hk hl hi
  rcases (in_set (by omega)).1 hi with rfl | hi
  · exact hf
  · exact h.rest k hk hl hi
 case holes =>
  intro k b l k1 k2 k3 k4 k5 e
  have hle:=d.more h.qn (show k + 1≤q by omega)
  rw [get,if_neg (by omega)] at e
  exact h.holes k b l k1 k2 (fun hi=>k3 ((in_set (by omega)).2 (.inr hi))) k4 k5 e
 case pend =>
  intro b l hb e
  by_cases e2:b=n
  · refine ⟨j,Nat.le_of_lt hq,hf,(in_set (by omega)).2 (.inl rfl),by omega,?_⟩
    subst e2
    rw [hz,List.getElem?_append_right (by omega),List.getElem?_set_self (by omega)]
    simp [hn]
  · rw [get,if_neg e2] at e
    obtain ⟨k,k1,k2,k3,k4,k5⟩:=h.pend b l hb e
    refine ⟨k,k1,k2,(in_set (by omega)).2 (.inr k3),k4,?_⟩
    rw [List.getElem?_set_ne (by omega)]
    exact k5
 case post =>
  have hq':=h.post
  refine ⟨?_,⟨?_,Nat.le_trans hq'.hr.grow hp.size,lat.old,fun b l e=>?_,fun b b' l l' a a' e e'=>?_⟩,hp.os.trans hq'.os,hp.tape.trans hq'.tape,hp.output.trans hq'.output,Nat.le_trans hq'.size hp.size,?_,?_,?_,?_⟩
  · obtain ⟨ν0,e0⟩:=hq'.app
    refine ⟨ν0.set (n - μ0.length) (some loc),?_⟩
    rw [e0,List.set_append_right _ _ (by rw [h.start];omega)]
  · simp only [List.length_set,List.length_append];omega
  · rw [getH]
    by_cases e2:b=n
    · subst e2
      rw [get,if_pos rfl] at e
      cases e
      rw [if_pos rfl]
      have:=hp.hr.blk _ _ hm
      rw [hcell] at this
      exact this.ext (E2.trans ext_of_take)
    · rw [get,if_neg e2] at e
      rw [if_neg e2]
      exact (lat.blk b l e).ext E1
  · intro ee
    have old:∀ b l,b ≠ n→alive ((S q).2++Y.set (n - (S q).2.length) (.cells false z)) b→μ[b]?=some (some l)→l.c < w.heap.size:=fun b l e a m=>BR.lt (al b e a) (hq'.hr.blk b l m)
    rw [get] at e e'
    split at e <;> split at e'
    · omega
    · rename_i x1 x2;cases e;have:=old b' l' x2 a' e';omega
    · rename_i x1 x2;cases e';have:=old b l x1 a e;omega
    · rename_i x1 x2;exact hq'.hr.inj b b' l l' (al b x1 a) (al b' x2 a') e e' ee
  · exact fun c hc ho=>(frame c (Nat.lt_of_lt_of_le hc hq'.size)).trans (hq'.frame c hc ho)
  · rintro c hc ⟨b,l,b1,b2,b3,b4⟩
    rw [get] at b3
    split at b3
    · cases b3
      have:=hq'.size
      omega
    · rename_i x;exact hq'.sub c hc ⟨b,l,b1,al b x b2,b3,b4⟩
  · intro b hb hb0
    rw [getH,if_neg (by omega)]
    exact hq'.low b hb hb0
  · simp only [List.length_append];omega
 case fine =>
  intro k b l k1 k2 k3 e
  have hle:=d.more h.qn k2
  rw [get,if_neg (by omega)] at e
  exact ((h.fine k b l k1 k2 k3 e).later frame).ext (ext_take E1 _)
theorem Dr.hid (d:Dr P E ex lim B ops S) {b:Nat} (hb:b ∈ B.getD []):∀ {m:Nat},m≤ops.size→(S m).2[b]?=(S 0).2[b]?
 | 0,_=>rfl
 | m + 1,hm=>by
  have ih:=Dr.hid d hb (m:=m) (by omega)
  have h0:=d.hb b hb
  have h1:(S 0).2.length≤(S m).2.length:=d.more (by omega) (Nat.zero_le m)
  obtain ⟨v,_,_,h3⟩:=d.step (Array.getElem?_eq_getElem (show m < ops.size by omega))
  rcases h3 with ⟨_,H',_,hl,e⟩ | ⟨_,⟨X,e⟩,_⟩
  · rw [e,unhideO_get (fun c hc=>Nat.lt_of_lt_of_le (d.hb c hc) h1) hl,if_pos hb,ih]
  · rw [e,List.getElem?_append_left (by omega),ih]
def Hid (B:Option (List Nat)) (H0:Heap) (μ0:Mu) (w00 w:World):Prop:=∀ b,b ∈ B.getD []→alive H0 b→∀ loc:Loc,μ0[b]?=some (some loc)→loc.c < w.heap.size∧w.heap[loc.c]?=w00.heap[loc.c]?
theorem Hid.step {H0:Heap} {w w':World} (h:Hid B H0 μ0 w00 w) (hs:w.heap.size≤w'.heap.size) (hf:∀ b,b ∈ B.getD []→alive H0 b→∀ loc:Loc,μ0[b]?=some (some loc)→loc.c < w.heap.size→w'.heap[loc.c]?=w.heap[loc.c]?):Hid B H0 μ0 w00 w':=fun b hb ha loc e=>by
 obtain ⟨h1,h2⟩:=h b hb ha loc e
 exact ⟨by omega,by rw [hf b hb ha loc e h1,h2]⟩
def onlyB (B:List Nat) (H:Heap):Heap:=H.mapIdx fun i x=>if i ∈ B then x else .dead
theorem onlyB_len {B:List Nat} {H:Heap}:(onlyB B H).length=H.length:=by simp [onlyB]
theorem onlyB_get {B:List Nat} {H:Heap} {i:Nat}:(onlyB B H)[i]?=(H[i]?).map fun x=>if i ∈ B then x else .dead:=by simp [onlyB]
theorem only_hr (d:Dr P E ex lim B ops S) (hr0:HR w0 ro μ0 (S 0).2 w00) (h:InvH w0 ro P lim B ops S μ0 w00 L μ w p q Y) (hid:Hid B (S 0).2 μ0 w00 w) {j:Nat} (hj:j≤ops.size):HR w0 ro (μ.take (S j).2.length) (onlyB (B.getD []) (S j).2) w:=by
 have h1:(S 0).2.length≤(S j).2.length:=d.more hj (Nat.zero_le j)
 have hj2:(S j).2.length≤μ.length:=by
  have:=h.len
  have:=h.ylen
  have:=d.more (Nat.le_refl _) hj
  omega
 have hμ:∀ b,b < (S 0).2.length→(μ.take (S j).2.length)[b]?=μ0[b]?:=fun b hb=>by
  obtain ⟨ν,e⟩:=h.post.app
  rw [List.getElem?_take_of_lt (by omega),e,List.getElem?_append_left (by rw [hr0.len];exact hb)]
 have hE:Ext μ0 (μ.take (S j).2.length):=fun b loc e=>by
  have hb:b < (S 0).2.length:=by rw [← hr0.len];exact (List.getElem?_eq_some_iff.1 e).1
  rw [hμ b hb];exact e
 have al:∀ {b},alive (onlyB (B.getD []) (S j).2) b→b ∈ B.getD []∧alive (S 0).2 b:=fun {b} ha=>by
  by_cases hb:b ∈ B.getD []
  · refine ⟨hb,?_⟩
    unfold alive at ha ⊢
    have e:(onlyB (B.getD []) (S j).2)[b]?=(S 0).2[b]?:=by
     rw [onlyB_get,d.hid hb hj]
     simp [hb]
    rw [e] at ha
    exact ha
  · exfalso
    unfold alive at ha
    rw [onlyB_get] at ha
    simp only [hb,if_false] at ha
    rcases ha with ⟨g,cs,e⟩ | ⟨es,c,e⟩ | ⟨m,s,l,k,e⟩ <;> simp [Option.map_eq_some_iff] at e
 refine ⟨by rw [onlyB_len,List.length_take];omega,h.post.hr.grow,h.post.hr.old,fun b loc e=>?_,fun b b' loc loc' a1 a2 e1 e2 e3=>?_⟩
 · rw [onlyB_get]
   have hbl:b < (S j).2.length:=by
    have:=(List.getElem?_eq_some_iff.1 e).1
    rw [List.length_take] at this
    omega
   rw [List.getElem?_eq_getElem hbl]
   by_cases hb:b ∈ B.getD []
   · simp only [Option.map_some,hb,if_true]
     rw [← List.getElem?_eq_getElem hbl,d.hid hb hj]
     have e0:μ0[b]?=some (some loc):=by rw [← hμ b (d.hb b hb)];exact e
     have hbr:=hr0.blk b loc e0
     by_cases ha:alive (S 0).2 b
     · exact (hbr.ext hE).row (hid b hb ha loc e0).2
     · cases qq:(S 0).2[b]? with
       | none=>rw [qq] at hbr;exact hbr.elim
       | some x =>
        cases x with
        | dead=>exact True.intro
        | cells g cs=>exact absurd (.inl ⟨g,cs,qq⟩) ha
        | map es c=>exact absurd (.inr (.inl ⟨es,c,qq⟩)) ha
        | iter m s l k=>exact absurd (.inr (.inr ⟨m,s,l,k,qq⟩)) ha
   · simp only [Option.map_some,hb,if_false]
     exact True.intro
 · obtain ⟨g1,g2⟩:=al a1
   obtain ⟨g3,g4⟩:=al a2
   rw [hμ b (d.hb b g1)] at e1
   rw [hμ b' (d.hb b' g3)] at e2
   exact hr0.inj b b' loc loc' g2 g4 e1 e2 e3
theorem seen_load {B:List Nat} {H:Heap} {k:Option Nat} {u y:AV} (hs:(match u with | .ptr (some (b,_))=>B.contains b | .tp _=>true | _=>false)=true) (h3:loadAt H k u=some y):loadAt (onlyB B H) k u=some y:=by
 cases u with
 | ptr pp =>
  cases pp with
  | none=>simp [loadAt] at h3
  | some bo =>
   obtain ⟨b,off⟩:=bo
   have hb:b ∈ B:=by simpa using hs
   have e:Heap.cells? (onlyB B H) b=Heap.cells? H b:=by
    unfold Heap.cells?
    rw [onlyB_get]
    cases H[b]? <;> simp [hb]
   simp only [loadAt] at h3 ⊢
   rw [e]
   exact h3
 | tp cs=>exact h3
 | _=>simp [loadAt] at h3
theorem seen_val {o:AOper} {T:Tmps} {H H':Heap} {v:AV} {n:Nat} (hq:quietIn B.isSome o.op=true) (hn:¬ quietOp o.op=true) (hs:seen T o B=true) (hv:ValOf E ex n o T H v H'):∀ lim2,ValOf E ex lim2 o T (onlyB (B.getD []) H) v (onlyB (B.getD []) H):=by
 intro lim2
 cases B with
 | none=>simp [quietIn,hn] at hq
 | some B =>
  obtain ⟨dst,g,op⟩:=o
  cases op <;> simp [quietIn,loadOp,quietOp] at hq hn
  rename_i k x
  rcases hv with ⟨h1,h2,h3⟩ | ⟨h1,h2⟩
  · exact .inl ⟨h1,h2,rfl⟩
  · refine .inr ⟨h1,?_⟩
    simp only [runOp,aop,Option.map_eq_some_iff,Prod.mk.injEq] at h2 ⊢
    obtain ⟨y,h3,rfl,_⟩:=h2
    simp only [seen,h1] at hs
    exact ⟨y,seen_load hs h3,rfl,trivial⟩
theorem draw_go (hE:EnvOK P E) (hC:CallSim P E ex) (d:Dr P E ex lim B ops S) (hr0:HR w0 ro μ0 (S 0).2 w00) {Q:Exit→Act→World→Prop} (hQ:∀ μ' a' w',Post w0 ro lim μ0 (S 0).2 w00 μ' (S ops.size).2 w'→AR w0 ro μ' (S ops.size).1 a'→Q .normal a' w') :
 ∀ (fuel:Nat) (L:Array Bool) (μ:Mu) (a:Act) (w:World) (p q:Nat) (Y:Heap),L.size=ops.size→((List.range ops.size).filter fun i=>!L.getD i true).length≤fuel→Closed ops L→InvH w0 ro P lim B ops S μ0 w00 L μ w p q Y→InvT w0 ro ops S L μ a→Hid B (S 0).2 μ0 w00 w→wpAny P .any ops Q fuel L a w:=by
 -- nobody is at hand:all is done
 have finish:∀ (L:Array Bool) (μ:Mu) (a:Act) (w:World) (p q:Nat) (Y:Heap),L.size=ops.size→Closed ops L→InvH w0 ro P lim B ops S μ0 w00 L μ w p q Y→InvT w0 ro ops S L μ a→Region.ready .any ops L=[]→Q .normal a w:=by
  intro L μ a w p q Y hs hL hH hT hr
  have all:∀ N i,i < N→i < ops.size→In L i:=by
   intro N
   induction N with
   | zero=>intro i h;omega
   | succ N ih =>
    intro i h1 h2
    have hi:=Array.getElem?_eq_getElem h2
    rcases Nat.lt_or_ge i N with c | c
    · exact ih i c h2
    · cases hb:L.getD i true with
      | true =>
       unfold In
       have:i < L.size:=by omega
       simp [this] at hb ⊢
       exact hb
      | false =>
       have:i ∈ Region.ready .any ops L:=mem_ready.2 ⟨hb,_,hi,fun e he hbb=>ih e.on (by
        have:=edges_lt d.ed (show ops.toList[i]?=some ops[i] by simp) (Array.mem_toList_iff.2 he) hbb;omega) (by
        have:=edges_lt d.ed (show ops.toList[i]?=some ops[i] by simp) (Array.mem_toList_iff.2 he) hbb;omega)⟩
       rw [hr] at this
       cases this
  have hq:q=ops.size:=by
   rcases Nat.lt_or_ge q ops.size with c | c
   · exact absurd (hH.rest q (Nat.le_refl q) (solo_loud (hH.next c)) (all (q + 1) q (Nat.lt_succ_self q) c)) (solo_old (hH.next c))
   · have:=hH.qn;omega
  subst hq
  have hY:Y=[]:=List.length_eq_zero_iff.1 (by have:=hH.ylen;omega)
  subst hY
  refine hQ μ a w (by have:=hH.post;rwa [List.append_nil] at this) ⟨hT.defers,VRs.of_get ?_ fun t v hv=>?_⟩
  · have:=d.tlen (Nat.le_refl ops.size)
    have:=hT.size
    simp;omega
  · obtain ⟨v',h1,h2⟩:=hT.tmp ops.size t v (Nat.le_refl _) (fun i ⟨x,hx,_⟩=>by
     have hi:=(Array.getElem?_eq_some_iff.1 hx).1
     exact ⟨fun _=>all (i + 1) i (Nat.lt_succ_self i) hi,fun _=>hi⟩) hv
    exact ⟨v',by simpa using h1,h2.ext ext_of_take⟩
 intro fuel
 induction fuel with
 | zero =>
  intro L μ a w p q Y hs hf hL hH hT hid
  have hr:Region.ready .any ops L=[]:=by
   cases e:Region.ready .any ops L with
   | nil=>rfl
   | cons i r =>
    have hi:i ∈ Region.ready .any ops L:=by rw [e];exact .head _
    obtain ⟨h1,o,h2,_⟩:=mem_ready.1 hi
    have:i ∈ (List.range ops.size).filter fun i=>!L.getD i true:=List.mem_filter.2 ⟨List.mem_range.2 (Array.getElem?_eq_some_iff.1 h2).1,by simp only [h1];rfl⟩
    have:=List.length_pos_of_mem this
    omega
  exact ⟨hr,finish L μ a w p q Y hs hL hH hT hr⟩
 | succ fuel ih =>
  intro L μ a w p q Y hs hf hL hH hT hid
  refine ⟨finish L μ a w p q Y hs hL hH hT,fun j hj=>?_⟩
  obtain ⟨hun,o,ho,hpre'⟩:=mem_ready.1 hj
  have hlt:j < ops.size:=(Array.getElem?_eq_some_iff.1 ho).1
  have hpre:∀ e ∈ o.after.toList,Region.binds .any e=true→In L e.on:=fun e he hb=>hpre' e (Array.mem_toList_iff.1 he) hb
  have hnot:¬ In L j:=fun h=>by
   unfold In at h
   have:j < L.size:=by omega
   simp [this] at hun h
   rw [hun] at h;cases h
  have hs':(L.setIfInBounds j true).size=ops.size:=by simpa using hs
  have hL':=closed_set hs hL ho hpre
  have hf':((List.range ops.size).filter fun i=>!(L.setIfInBounds j true).getD i true).length≤fuel:=by
   have hsub:((List.range ops.size).filter fun i=>!(L.setIfInBounds j true).getD i true).length < ((List.range ops.size).filter fun i=>!L.getD i true).length:=by
    have e1:((List.range ops.size).filter fun i=>!(L.setIfInBounds j true).getD i true)=((List.range ops.size).filter fun i=>!L.getD i true).filter fun i=>i != j:=by
     rw [List.filter_filter]
     apply List.filter_congr
     intro i hi
     by_cases e:i=j
     · subst e
       have:i < L.size:=by omega
       simp [this]
     · rw [getD_set_ne true (Ne.symm e)]
       simp [e]
    rw [e1]
    refine Nat.lt_of_le_of_ne (List.length_filter_le _ _) fun e=>?_
    have:=List.length_filter_eq_length_iff.1 e j (List.mem_filter.2 ⟨List.mem_range.2 hlt,by simp only [hun];rfl⟩)
    simp at this
   omega
  obtain ⟨v,hT',hmore,hval⟩:=d.step ho
  have har:=hT.frame d hL ho hnot hpre
  by_cases hq:quietIn B.isSome (lowOper P ops o).op=true
  · -- it touches no memory,or what is hidden alone
    have hns:¬ isSolo P B ops j:=fun hs=>loud_writes ho hq (solo_loud hs)
    rcases hval with ⟨hs,_⟩ | ⟨_,_,hsn,H',hv,_⟩
    · exact absurd hs hns
    have hlj:(μ.take (S j).2.length).length=(S j).2.length:=by
     have:=hH.len
     have:=hH.ylen
     have:=d.more (Nat.le_refl _) (show j≤ops.size by omega)
     rw [List.length_take]
     omega
    obtain ⟨Hx,hxl,hr,hv2⟩:∃ Hx:Heap,Hx.length=(μ.take (S j).2.length).length∧HR w0 ro (μ.take (S j).2.length) Hx w∧∀ lim2,ValOf E ex lim2 (lowOper P ops o) (S j).1 Hx v Hx:=by
     by_cases hqq:quietOp (lowOper P ops o).op=true
     · obtain ⟨_,hv2⟩:=val_quiet hqq hv
       exact ⟨_,by simp,HR.blank hH.post.hr.grow hH.post.hr.old (μ.take (S j).2.length),fun lim2=>hv2 lim2 _⟩
     · exact ⟨_,by rw [onlyB_len,hlj],only_hr d hr0 hH hid (by omega),seen_val hq hqq hsn hv⟩
    refine step_val (lim:=(μ.take (S j).2.length).length) hE hC ho hr har (val_patch (hv2 _)) fun μ' v' w' hp hvr=>?_
    have hμ:μ'=μ.take (S j).2.length:=by
     obtain ⟨ν,e⟩:=hp.app
     have:=hp.hr.len
     rw [e] at this
     simp only [List.length_append,hxl] at this
     have:ν=[]:=List.length_eq_zero_iff.1 (by omega)
     rw [e,this,List.append_nil]
    have fr:∀ c,c < w.heap.size→w'.heap[c]?=w.heap[c]?:=fun c hc=>hp.frame c hc (noOwn (Nat.le_refl _))
    refine ih _ μ _ w' p q Y hs' hf' hL' (hH.later (loud_writes ho hq) (by omega) hp.size fr hp.os hp.tape hp.output) ?_ (hid.step hp.size fun _ _ _ _ _ hc=>fr _ hc)
    refine hT.put d hs hL ho hnot hpre hT' (Ext.refl μ) (hvr.ext ?_)
    rw [hμ]
    exact ext_take_le hmore
  · have hloud:isLoud P B ops j:=⟨o,ho,by simpa using hq⟩
    have hpj:p≤j:=by
     rcases Nat.lt_or_ge j p with c | c
     · exact absurd (hH.done j c hloud) hnot
     · exact c
    by_cases hjq:j≤q
    case neg =>
     -- ahead of its turn
     have hqj:q < j:=by omega
     have hsolo:=hH.next (by omega)
     have hfr:isFresh P ops j:=by
      rcases d.solo hsolo hloud (by omega) with this | ⟨this,_⟩
      · unfold held at this
        rw [if_pos hqj] at this
        exact absurd (hH.rest q (Nat.le_refl q) (solo_loud hsolo) (d.ahead hL ho hpre this)) (solo_old hsolo)
      · exact this
     have hfr':=hfr
     obtain ⟨oo,ho',hfo⟩:=hfr'
     rw [ho] at ho';cases ho'
     obtain ⟨z,e1,e2,_,e3,e4⟩:=d.fresh ho hfo
     have hr:=HR.blank hH.post.hr.grow hH.post.hr.old (List.replicate (S j).2.length (none:Option Loc))
     simp only [List.length_replicate] at hr
     have har2:AR w0 ro (List.replicate (S j).2.length none) (patch (S j).1 []) a:=by
      refine ⟨har.1,VRs.of_get (by have:=har.2.len;simpa [patch] using this) fun t v hv=>?_⟩
      rw [patch_get,Option.map_eq_some_iff] at hv
      obtain ⟨u,x1,x2⟩:=hv
      simp only [List.contains_nil,Bool.false_eq_true,if_false] at x2
      subst x2
      have ht:t < a.tmps.toList.length:=by
       rw [← har.2.len]
       have:=(List.getElem?_eq_some_iff.1 x1).1
       simpa [patch] using this
      exact ⟨a.tmps.toList[t],List.getElem?_eq_getElem ht,.undef _⟩
     have hval2:ValOf E ex (S j).2.length (lowOper P ops o) (patch (S j).1 []) (List.replicate (S j).2.length .dead) (.ptr (some ((S j).2.length,0))) (List.replicate (S j).2.length .dead++[.cells false z]):=by
      refine .inr ⟨by rw [e1];rfl,?_⟩
      rw [e2]
      simp [runOp,aop]
     refine step_val (lim:=(S j).2.length) hE hC ho hr har2 hval2 fun μ' v' w' hp hvr=>?_
     obtain ⟨loc,hm⟩:∃ loc:Loc,μ'[(S j).2.length]?=some (some loc):=by
      cases hvr with | ptr h=>exact ⟨_,h⟩
     obtain ⟨μ'',Y',g1,g2,g3⟩:=hH.early d hs hfr hnot hqj e4 hp hm
     have hvv:(.ptr (some ((S j).2.length,0)):AV)=v:=by
      have:putT (S j).1 o.dst (.ptr (some ((S j).2.length,0)))=putT (S j).1 o.dst v:=by rw [← e3,hT']
      rcases hval with ⟨hs2,_⟩ | ⟨_,_,_,H',hv,_⟩
      · exact absurd hfr (solo_old hs2)
      · rcases hv with ⟨x1,_⟩ | ⟨_,x2⟩
        · rw [e1] at x1;simp [wantedA] at x1
        · rw [e2] at x2
          simp only [runOp,aop,Option.some.injEq,Prod.mk.injEq] at x2
          exact x2.1
     exact ih _ μ'' _ w' p q Y' hs' hf' hL' g3 (hT.put d hs hL ho hnot hpre e3 g1 (hvr.ext g2)) (hid.step hp.size fun _ _ _ _ _ hc=>hp.frame _ hc (noOwn (by simp)))
    case pos =>
    rcases Nat.lt_or_ge j q with c | c
    · have hns:=hH.calm j hpj c
      rcases hval with ⟨hs,_⟩ | ⟨_,_,_,H',hv,hH'⟩
      · exact absurd hs hns
      refine step_val hE hC ho (hH.soft_hr d hpj hjq) har (val_patch hv) fun μ' v' w' hp hvr=>?_
      have e:(S (j + 1)).2=H':=by rw [hH'];exact take_pre hp.more fun b hb=>hp.low b hb hb
      rw [← e] at hp
      obtain ⟨μ'',e1,e2,h3⟩:=hH.soft d (by omega) hnot hpj c hp
      refine ih _ μ'' _ w' p q Y hs' hf' hL' h3 (hT.put d hs hL ho hnot hpre hT' e1 ?_) (hid.step hp.size fun _ _ _ _ _ hc=>hp.frame _ hc (noOwn (by rw [List.length_take];omega)))
      rw [e2]
      exact hvr
    · have:j=q:=by omega
      subst this
      rcases hval with ⟨_,H',hv,_,hH'⟩ | ⟨hns,_⟩
      · have hrj:=hH.soft_hr d hpj hjq
        have h0j:(S 0).2.length≤(S j).2.length:=d.more (by omega) (Nat.zero_le j)
        refine step_val hE hC ho (hrj.hide B) har (val_patch hv) fun μ' v' w' hp hvr=>?_
        have hp2:=hp.revive hrj (fun b hb=>Nat.lt_of_lt_of_le (d.hb b hb) h0j) (Nat.le_trans d.le h0j)
        rw [← hH'] at hp2
        obtain ⟨μ'',p',q',Y',e1,e2,h3⟩:=hH.hard d hs hL ho hnot hpre hp2
        refine ih _ μ'' _ w' p' q' Y' hs' hf' hL' h3 (hT.put d hs hL ho hnot hpre hT' e1 (hvr.ext e2)) (hid.step hp.size fun b hb ha loc e hc=>hp.frame _ hc ?_)
        refine hidden_row hrj hb ?_ (show (μ.take (S j).2.length)[b]?=some (some loc) from ?_)
        · unfold alive at ha ⊢
          rw [d.hid hb (by omega)]
          exact ha
        · obtain ⟨ν,eν⟩:=hH.post.app
          have hbl:b < μ0.length:=(List.getElem?_eq_some_iff.1 e).1
          rw [List.getElem?_take_of_lt (Nat.lt_of_lt_of_le (d.hb b hb) h0j),eν,List.getElem?_append_left hbl]
          exact e
      · exact absurd (hH.next hlt) hns
theorem draw_any (hE:EnvOK P E) (hC:CallSim P E ex) {T:Tmps} {H:Heap} {a:Act} {T':Tmps} {H':Heap} {Q:Exit→Act→World→Prop}
 (hr:HR w0 ro μ H w) (hle:lim≤H.length) (har:AR w0 ro μ T a) (hap:apartOk (befores ops.toList []) (ops.toList.map (lowOper P ops))=true) (hed:edgesOk ops.toList=true)
 (hB:∀ b,b ∈ B.getD []→b < H.length)
 (h:runDraw E ex lim B (flagged B.isSome (befores ops.toList []) (ops.toList.map (lowOper P ops))) T H=some (T',H'))
 (hQ:∀ μ' a' w',Post w0 ro lim μ H w μ' H' w'→AR w0 ro μ' T' a'→Q .normal a' w'):wpAny P .any ops Q ops.size (Array.replicate ops.size false) a { w with drawn:=w.drawn + 1 }:=by
 obtain ⟨S,h1,h2,h3⟩:=draw_states _ T H _ h
 have hlen:(flagged B.isSome (befores ops.toList []) (ops.toList.map (lowOper P ops))).length=ops.size:=by simp [flagged]
 rw [hlen] at h2
 have d:Dr P E ex lim B ops S:=⟨hap,hed,by rw [h1];exact hle,by rw [h1];exact hB,fun k oo hk=>h3 k _ _ (by
  unfold flagged
  rw [List.getElem?_map,List.getElem?_zipIdx,Dr.low hk]
  simp)⟩
 have hr':HR w0 ro μ H { w with drawn:=w.drawn + 1 }:=hr.later (Nat.le_refl _) fun _ _=>rfl
 obtain ⟨q,c1,c2,c3,c4⟩:=next_solo P B ops ops.size 0 (by omega)
 obtain ⟨X,hX⟩:=d.pre c2 c1 c3
 have s1:(S 0).2=H:=by rw [h1]
 have s2:(S 0).1=T:=by rw [h1]
 rw [s1] at hX
 have none:∀ k,¬ In (Array.replicate ops.size false) k:=fun k hk=>by
  unfold In at hk
  rcases Nat.lt_or_ge k ops.size with c | c
  · simp [c] at hk
  · simp [Nat.not_lt.2 c] at hk
 have hup:(S q).2.length≤(S ops.size).2.length:=d.more (Nat.le_refl _) c2
 generalize hY:List.replicate ((S ops.size).2.length - (S q).2.length) ABlk.dead=Y
 have hYl:Y.length=(S ops.size).2.length - (S q).2.length:=by rw [← hY];simp
 have old:∀ (b:Nat) (loc:Loc),(μ++List.replicate (X++Y).length Option.none)[b]?=some (some loc)→b < H.length∧μ[b]?=some (some loc):=fun b loc e=>by
  rcases Nat.lt_or_ge b μ.length with q1 | q1
  · rw [List.getElem?_append_left q1] at e;exact ⟨by have:=hr.len;omega,e⟩
  · rw [List.getElem?_append_right q1,List.getElem?_replicate] at e
    split at e <;> cases e
 have tk:(μ++List.replicate (X++Y).length Option.none).take (S 0).2.length=μ:=by
  rw [s1,← hr.len,List.take_append_of_le_length (Nat.le_refl _),List.take_length]
 refine (draw_go (w0:=w0) (ro:=ro) (lim:=lim) (S:=S) (μ0:=μ) (w00:={ w with drawn:=w.drawn + 1 }) hE hC d (by rw [h1];exact hr') ?_ ops.size (Array.replicate ops.size false) (μ++List.replicate (X++Y).length Option.none) a { w with drawn:=w.drawn + 1 } 0 q Y (by simp) (by
  refine Nat.le_trans (List.length_filter_le _ _) (by simp)) (fun j o _ hj=>absurd hj (none j)) ?_ ?_ ?_)
 · intro μ' a' w' hp ha
   rw [s1,h2] at hp
   rw [h2] at ha
   exact hQ μ' a' w' ⟨hp.app,hp.hr,hp.os,hp.tape,hp.output,hp.size,hp.frame,hp.sub,hp.low,hp.more⟩ ha
 · constructor
   case start=>rw [s1];exact hr.len
   case pq=>exact Nat.zero_le _
   case qn=>exact c2
   case calm=>exact c3
   case next=>exact c4
   case done=>intro k hk;omega
   case rest=>exact fun k _ _ h=>absurd h (none k)
   case ylen=>omega
   case pend =>
    intro b loc k1 e
    have:=(old b loc e).1
    have:=d.more c2 (Nat.zero_le q)
    rw [s1] at this
    omega
   case holes =>
    intro k b loc k1 k2 k3 k4 k5 e
    have:=(old b loc e).1
    have:=d.more (show k≤ops.size by omega) (Nat.zero_le k)
    rw [s1] at this
    omega
   case post=>rw [s1,hX,List.append_assoc];exact (Post.refl hr').room (X++Y)
   case fine =>
    intro k b loc k1 k2 k3 e
    obtain ⟨b1,b2⟩:=old b loc e
    have:=hr'.blk b loc b2
    rw [hX,List.getElem?_append_left b1]
    refine this.ext ?_
    have hle3:=d.more (show k≤ops.size by omega) k1
    have E3:Ext ((μ++List.replicate (X++Y).length Option.none).take (S 0).2.length) ((μ++List.replicate (X++Y).length Option.none).take (S k).2.length):=ext_take_le hle3
    rw [tk] at E3
    exact E3
 · refine ⟨har.1,by rw [s2,har.2.len];simp,fun m t v hm hc hv=>?_⟩
   have e:(S m).1[t]?=(S 0).1[t]?:=d.keep hm (Nat.zero_le m) fun i _ h2 hw=>none i ((hc i hw).1 h2)
   rw [e,s2] at hv
   obtain ⟨v',h5,h6⟩:=har.get hv
   refine ⟨v',h5,h6.ext ?_⟩
   have hle3:=d.more hm (Nat.zero_le m)
   have E3:Ext ((μ++List.replicate (X++Y).length Option.none).take (S 0).2.length) ((μ++List.replicate (X++Y).length Option.none).take (S m).2.length):=ext_take_le hle3
   rw [tk] at E3
   exact E3
 · rw [s1]
   exact fun b hb ha loc e=>⟨row_lt hr' ha e,rfl⟩
theorem draw_sim (hE:EnvOK P E) (hC:CallSim P E ex) {id:Nat} {T:Tmps} {H:Heap} {a:Act} {T':Tmps} {H':Heap} {Q:Exit→Act→World→Prop}
 (hr:HR w0 ro μ H w) (hle:lim≤H.length) (har:AR w0 ro μ T a) (hap:apartOk (befores ops.toList []) (ops.toList.map (lowOper P ops))=true) (hed:edgesOk ops.toList=true)
 (hB:∀ b,b ∈ B.getD []→b < H.length)
 (h:runDraw E ex lim B (flagged B.isSome (befores ops.toList []) (ops.toList.map (lowOper P ops))) T H=some (T',H'))
 (hQ:∀ μ' a' w',Post w0 ro lim μ H w μ' H' w'→AR w0 ro μ' T' a'→Q .normal a' w'):(Code.region id ops true).wp P Q a w:=wp_region_any hE.mixed (draw_any hE hC hr hle har hap hed hB h hQ)
theorem Oper.wp_mono2 {o:Oper} {a:Act} {w:World} {K K':Act→World→Prop} {Q Q':Exit→Act→World→Prop} (h:∀ a w,K a w→K' a w) (hq:∀ x a w,x ≠ .normal→Q x a w→Q' x a w) (hh:o.wp P a w K Q):o.wp P a w K' Q':=by
 unfold Oper.wp at *
 generalize (execOp a.eval o).run P w=r at *
 cases r with
 | ok n w' =>
  cases n <;> simp only [Oper.upon] at hh ⊢ <;>
   first
    | exact h _ _ hh
    | exact Calls.mono hh (fun e w'' he=>by cases e <;> first | exact h _ _ he | exact hq _ _ _ (by simp) he | exact (let ⟨a,w,q⟩:=he;⟨a,w,hq _ _ _ (by simp) q⟩))
    | exact Rows.mono hh (fun _ _ he=>h _ _ he)
 | halt x w'=>cases x <;> simp only [Oper.upon] at hh ⊢ <;> first | exact hh | exact hq _ _ _ (by simp) hh
theorem push_get {init:Array Oper} {last:Oper} {i:Nat} (h:i < init.size):(init.push last)[i]?=init[i]?:=by
 rw [Array.getElem?_push]
 rw [if_neg (by omega)]
theorem yielded_push {init:Array Oper} {last o:Oper} {T:Array Value} (hg:(match o.guard with | none=>true | some (j,_)=>decide (j < init.size))=true):Region.wanted o (yielded (init.push last) T)=Region.wanted o (yielded init T):=by
 unfold Region.wanted
 cases e:o.guard with
 | none=>rfl
 | some p =>
  obtain ⟨j,b⟩:=p
  rw [e] at hg
  have hj:j < init.size:=by simpa using hg
  simp only [yielded,push_get hj]
theorem in_push {L:Array Bool} {n i:Nat} (hs:L.size=n) (h:i < n) {d:Bool}:(L.push false).getD i d=L.getD i d:=by
 simp only [Array.getD_eq_getD_getElem?,Array.getElem?_push,hs]
 rw [if_neg (by omega)]
theorem push_list {init:Array Oper} {last o:Oper} {i:Nat} (h:i < init.size) (ho:init[i]?=some o):(init.push last).toList[i]?=some o:=by
 rw [Array.getElem?_toList,push_get h]
 exact ho
theorem edges_after {init:Array Oper} {last:Oper} {P:Program} (he:edgesOk (init.push last).toList=true) {L:Array Bool} (hs:L.size=init.size) {i:Nat} (hi:i < init.size):i ∈ Region.ready .any (init.push last) (L.push false) ↔ i ∈ Region.ready .any init L:=by
 rw [mem_ready,mem_ready,push_get hi,in_push hs hi]
 have ho:=Array.getElem?_eq_getElem hi
 constructor
 · rintro ⟨h1,o,h2,h3⟩
   refine ⟨h1,o,h2,fun e hm hb=>?_⟩
   have hlt:=edges_lt he (j:=i) (o:=o) (push_list hi (by first | exact h2 | (rw [push_get hi] at h2;exact h2))) (Array.mem_toList_iff.2 hm) hb
   have:=h3 e hm hb
   rwa [in_push hs (by omega)] at this
 · rintro ⟨h1,o,h2,h3⟩
   refine ⟨h1,o,h2,fun e hm hb=>?_⟩
   have hlt:=edges_lt he (j:=i) (o:=o) (push_list hi (by first | exact h2 | (rw [push_get hi] at h2;exact h2))) (Array.mem_toList_iff.2 hm) hb
   rw [in_push hs (by omega)]
   exact h3 e hm hb
theorem none_left {ops:Array Oper} (he:edgesOk ops.toList=true) {L:Array Bool} (hs:L.size=ops.size) (hr:Region.ready .any ops L=[]):∀ N i,i < N→i < ops.size→L.getD i false=true:=by
 intro N
 induction N with
 | zero=>intro i h;omega
 | succ N ih =>
  intro i h1 h2
  have hi:=Array.getElem?_eq_getElem h2
  rcases Nat.lt_or_ge i N with c | c
  · exact ih i c h2
  · cases hb:L.getD i true with
    | true =>
     have:i < L.size:=by omega
     simp [this] at hb ⊢
     exact hb
    | false =>
     have:i ∈ Region.ready .any ops L:=mem_ready.2 ⟨hb,_,hi,fun e hm hbb=>ih e.on (by
      have:=edges_lt he (show ops.toList[i]?=some ops[i] by simp) (Array.mem_toList_iff.2 hm) hbb;omega) (by
      have:=edges_lt he (show ops.toList[i]?=some ops[i] by simp) (Array.mem_toList_iff.2 hm) hbb;omega)⟩
     rw [hr] at this
     cases this
theorem any_split {init:Array Oper} {last:Oper} {P:Program} {Q:Exit→Act→World→Prop} (hei:edgesOk init.toList=true) (he:edgesOk (init.push last).toList=true) (hl:lastAll (init.push last).toList=true) (hg:guardsIn init.size init.toList=true) :
 ∀ (fuel:Nat) (L:Array Bool) (a:Act) (w:World),L.size=init.size→Closed init L→wpAny P .any init (fun x a w=>x=.normal∧wpOp P (init.push last) Q init.size (fun a w=>Q .normal a w) a w) fuel L a w→wpAny P .any (init.push last) Q (fuel + 1) (L.push false) a w:=by
 have hlast:(init.push last)[init.size]?=some last:=by simp
 -- all others are done
 have ends:∀ (fuel:Nat) (L:Array Bool) (a:Act) (w:World),L.size=init.size→Region.ready .any init L=[]→wpOp P (init.push last) Q init.size (fun a w=>Q .normal a w) a w→wpAny P .any (init.push last) Q (fuel + 1) (L.push false) a w:=by
  intro fuel L a w hs hr h
  have hall:=none_left hei hs hr
  have hrl:init.size ∈ Region.ready .any (init.push last) (L.push false):=by
   refine mem_ready.2 ⟨by simp [← hs],last,hlast,fun e hm hb=>?_⟩
   have hlt:=edges_lt he (j:=init.size) (o:=last) (by simp) (Array.mem_toList_iff.2 hm) hb
   rw [in_push hs hlt]
   exact hall (e.on + 1) e.on (Nat.lt_succ_self _) hlt
  refine ⟨fun q=>(by rw [q] at hrl;cases hrl),fun i hi=>?_⟩
  have hil:i=init.size:=by
   obtain ⟨h1,o,h2,_⟩:=mem_ready.1 hi
   have hlt:=(Array.getElem?_eq_some_iff.1 h2).1
   simp at hlt
   rcases Nat.lt_or_ge i init.size with c | c
   · rw [in_push hs c] at h1
     have h3:=hall (i + 1) i (Nat.lt_succ_self _) c
     have hil:i < L.size:=by omega
     simp [hil] at h1 h3
     rw [h1] at h3;cases h3
   · omega
  subst hil
  refine wpOp_mono (fun a w hq=>?_) h
  have hr2:Region.ready .any (init.push last) ((L.push false).setIfInBounds init.size true)=[]:=by
   cases e:Region.ready .any (init.push last) ((L.push false).setIfInBounds init.size true) with
   | nil=>rfl
   | cons x xs =>
    exfalso
    have hx:x ∈ Region.ready .any (init.push last) ((L.push false).setIfInBounds init.size true):=by rw [e];exact .head _
    obtain ⟨h1,o,h2,_⟩:=mem_ready.1 hx
    have hlt:=(Array.getElem?_eq_some_iff.1 h2).1
    simp at hlt
    by_cases c:x=init.size
    · subst c
      simp [← hs] at h1
    · rw [getD_set_ne true (Ne.symm c),in_push hs (by omega)] at h1
      have h3:=hall (x + 1) x (Nat.lt_succ_self _) (by omega)
      have hil:x < L.size:=by omega
      simp [hil] at h1 h3
      rw [h1] at h3;cases h3
  cases fuel with
  | zero=>exact ⟨hr2,hq⟩
  | succ fuel=>exact ⟨fun _=>hq,fun i hi=>(by rw [hr2] at hi;cases hi)⟩
 intro fuel
 induction fuel with
 | zero=>exact fun L a w hs _ h=>ends 0 L a w hs h.1 h.2.2
 | succ fuel ih =>
  intro L a w hs hL h
  cases hr:Region.ready .any init L with
  | nil=>exact ends (fuel + 1) L a w hs hr (h.1 hr).2
  | cons x xs =>
   have hx:x ∈ Region.ready .any init L:=by rw [hr];exact .head _
   have hxl:x < init.size:=by
    obtain ⟨_,o,h2,_⟩:=mem_ready.1 hx
    exact (Array.getElem?_eq_some_iff.1 h2).1
   have hx2:=(edges_after (P:=P) he hs hxl).2 hx
   refine ⟨fun q=>(by rw [q] at hx2;cases hx2),fun i hi=>?_⟩
   obtain ⟨g1,o,g2,g3⟩:=mem_ready.1 hi
   have hlt:=(Array.getElem?_eq_some_iff.1 g2).1
   simp at hlt
   rcases Nat.lt_or_ge i init.size with c | c
   · have hi2:=(edges_after (P:=P) he hs c).1 hi
     have hst:=h.2 i hi2
     have ho:init[i]?=some o:=by rw [push_get c] at g2;exact g2
     have hgo:(match o.guard with | none=>true | some (j,_)=>decide (j < init.size))=true:=by
      unfold guardsIn at hg
      rw [List.all_eq_true] at hg
      exact hg o (List.mem_of_getElem? (by simpa using ho))
     have hclo:Closed init (L.setIfInBounds i true):=closed_set hs hL ho (fun e hm hb=>by
      obtain ⟨_,o',e1,e2⟩:=mem_ready.1 hi2
      rw [ho] at e1;cases e1
      exact e2 e (Array.mem_toList_iff.1 hm) hb)
     have hpush:(L.push false).setIfInBounds i true=(L.setIfInBounds i true).push false:=by
      have hiL:i < L.size:=by omega
      apply Array.toList_inj.1
      simp only [Array.toList_setIfInBounds,Array.toList_push]
      rw [List.set_append_left _ _ (by simpa using hiL)]
     unfold wpOp at hst ⊢
     rw [g2]
     rw [ho] at hst
     simp only at hst ⊢
     rw [yielded_push hgo]
     have hK:∀ a w,wpAny P .any init (fun x a w=>x=.normal∧wpOp P (init.push last) Q init.size (fun a w=>Q .normal a w) a w) fuel (L.setIfInBounds i true) a w→wpAny P .any (init.push last) Q (fuel + 1) ((L.push false).setIfInBounds i true) a w:=fun a w hh=>by
      rw [hpush]
      exact ih _ a w (by simpa using hs) hclo hh
     split
     · rename_i hw
       rw [if_pos hw] at hst
       rcases hst with hst | ⟨_,a',w',hst⟩
       · exact .inl (Oper.wp_mono2 hK (fun x a w hne hh=>absurd hh.1 hne) hst)
       · cases hst.1
     · rename_i hw
       rw [if_neg hw] at hst
       exact hK _ _ hst
   · have:i=init.size:=by omega
     subst this
     exfalso
     have hpre:∀ e ∈ last.after.toList,Region.binds .any e=true→In L e.on:=fun e hm hb=>by
      rw [hlast] at g2;cases g2
      have hlt:=edges_lt he (j:=init.size) (o:=last) (by simp) hm hb
      have:=g3 e (Array.mem_toList_iff.1 hm) hb
      rwa [in_push hs hlt] at this
     have hxd:In L x:=by
      refine before_closed (ops:=(init.push last).toList) (D:=In L) he (fun j o hj hd e hm hb=>?_) (init.size + 1) init.size x last (Nat.lt_succ_self _) (by simp) hpre ?_
      · have hjl:j < init.size:=by
         unfold In at hd
         rcases Nat.lt_or_ge j init.size with c | c
         · exact c
         · have:¬ j < L.size:=by omega
           simp [this] at hd
        exact hL j o (by rw [Array.getElem?_toList,push_get hjl] at hj;exact hj) hd e hm hb
      · unfold lastAll at hl
        rw [List.all_eq_true] at hl
        have:=hl x (List.mem_range.2 (by simpa using hxl))
        simpa using this
     obtain ⟨h1,_⟩:=mem_ready.1 hx
     have hil:x < L.size:=by omega
     unfold In at hxd
     simp [hil] at h1 hxd
     rw [h1] at hxd;cases hxd
theorem split_sim (hE:EnvOK P E) (hC:CallSim P E ex) {ex2:AC→Nat→Tmps→Heap→Step} (hC2:CallSim P E ex2) {id:Nat} {T:Tmps} {H:Heap} {a:Act} {last:Oper} {T1 T':Tmps} {H1 H':Heap} {Q:Exit→Act→World→Prop}
 (hr:HR w0 ro μ H w) (hle:lim≤H.length) (har:AR w0 ro μ T a) (hap:apartOk (befores ops.toList []) (ops.toList.map (lowOper P ops))=true) (hed:edgesOk ops.toList=true)
 (hed2:edgesOk (ops.push last).toList=true) (hla:lastAll (ops.push last).toList=true) (hg:guardsIn ops.size ops.toList=true)
 (hB:∀ b,b ∈ B.getD []→b < H.length)
 (h:runDraw E ex lim B (flagged B.isSome (befores ops.toList []) (ops.toList.map (lowOper P ops))) T H=some (T1,H1))
 (h2:runOps E ex2 lim [lowOper P (ops.push last) last] T1 H1=some (T',H'))
 (hQ:∀ μ' a' w',Post w0 ro lim μ H w μ' H' w'→AR w0 ro μ' T' a'→Q .normal a' w'):(Code.region id (ops.push last) true).wp P Q a w:=by
 refine wp_region_any hE.mixed ?_
 have e1:(ops.push last).size=ops.size + 1:=by simp
 have e2:Array.replicate (ops.push last).size false=(Array.replicate ops.size false).push false:=by rw [e1];exact Array.replicate_succ
 rw [e2,e1]
 refine any_split hed hed2 hla hg ops.size _ a _ (by simp) (fun j o hj hd=>?_) (draw_any hE hC hr hle har hap hed hB h fun μ1 a1 w1 hp1 ha1=>⟨rfl,?_⟩)
 · unfold In at hd
   have hjl:j < ops.size:=(Array.getElem?_eq_some_iff.1 hj).1
   simp [hjl] at hd
 · simp only [runOps,Option.bind_eq_some_iff] at h2
   obtain ⟨⟨T2,H2⟩,k1,k2⟩:=h2
   simp only [Option.some.injEq,Prod.mk.injEq] at k2
   obtain ⟨rfl,rfl⟩:=k2
   exact step_sim hE hC2 (ops:=ops.push last) (i:=ops.size) (o:=last) (by simp) hp1.hr ha1 k1 fun μ' a' w' hp har'=>hQ μ' a' w' (hp1.trans hp) har'
end
end Go.Proofs.YtgbnbgkldeifkaaGreatA
/- The small machine's runs are the program's. No statement about the program is proved here. -/
namespace Go.Proofs.YtgbnbgkldeifkaaGreatA
open Go Go.RowKit
set_option linter.unusedVariables false
section
variable {w0:World} {ro:Nat→Prop} {P:Program} {μ:Mu} {H:Heap} {w:World} {T:Tmps} {lim:Nat} {E:AEnv}
theorem hidB_lt {T:Tmps} {n:Nat}:∀ {hs B:List Nat},hidB T n hs=some B→∀ b,b ∈ B→b < n
 | [],B,h=>by simp only [hidB,Option.some.injEq] at h;subst h;intro b hb;cases hb
 | t :: ts,B,h=>by
  unfold hidB at h
  split at h
  · split at h
    · rename_i hlt
      simp only [Option.map_eq_some_iff] at h
      obtain ⟨B',h1,rfl⟩:=h
      intro c hc
      rcases List.mem_cons.1 hc with rfl | hc
      · exact hlt
      · exact hidB_lt h1 c hc
    · cases h
  · exact hidB_lt h
  · cases h
theorem hidden_ok {T:Tmps} {n:Nat} {hs:List Nat} {B:Option (List Nat)} (h:hidden T n hs=some B):B.isSome=!hs.isEmpty∧∀ b,b ∈ B.getD []→b < n:=by
 cases hs with
 | nil =>
  simp only [hidden,Option.some.injEq] at h
  subst h
  exact ⟨rfl,fun b hb=>by cases hb⟩
 | cons t ts =>
  simp only [hidden,Option.map_eq_some_iff] at h
  obtain ⟨B',h1,rfl⟩:=h
  exact ⟨rfl,hidB_lt h1⟩
inductive Low (P:Program):Code→AC→Prop
 | fail (c):Low P c .fail
 | skip:Low P .skip .skip
 | ret:Low P .ret .ret
 | exit (id):Low P (.exit id) (.exit id)
 | region (id) (ops:Array Oper):Low P (.region id ops false) (.region (ops.toList.map (lowOper P ops)))
 | draw (id) (hs:List Nat) (ops:Array Oper) (h1:apartOk (befores ops.toList []) (ops.toList.map (lowOper P ops))=true) (h2:edgesOk ops.toList=true):Low P (.region id ops true) (.draw hs (flagged (!hs.isEmpty) (befores ops.toList []) (ops.toList.map (lowOper P ops))))
 | split (id) (hs:List Nat) (ops:Array Oper) (last:Oper) (h1:apartOk (befores ops.toList []) (ops.toList.map (lowOper P ops))=true) (h2:edgesOk ops.toList=true) (h3:edgesOk (ops.push last).toList=true) (h4:lastAll (ops.push last).toList=true) (h5:guardsIn ops.size ops.toList=true) :
  Low P (.region id (ops.push last) true) (.seq (.draw hs (flagged (!hs.isEmpty) (befores ops.toList []) (ops.toList.map (lowOper P ops)))) (.region [lowOper P (ops.push last) last]))
 | seq {a b a' b'} (h:Low P a a') (k:Low P b b'):Low P (.seq a b) (.seq a' b')
 | cond {c c' t e t' e'} (hc:lowX c=some c') (h:Low P t t') (k:Low P e e'):Low P (.cond c t e) (.cond c' t' e')
 | block (id) {b b'} (h:Low P b b'):Low P (.block id b) (.block id b')
 | loop {b b'} (h:Low P b b'):Low P (.loop b) (.loop b')
 | kill (ts) {c c'} (h:Low P c c'):Low P c (.seq (.kill ts) c')
theorem lowC_Low:∀ (c:Code) (h:List (List Nat)),Low P c (lowC P c h).1
 | .skip,_=>.skip
 | .ret,_=>.ret
 | .exit id,_=>.exit id
 | .region id ops false,_=>by simp only [lowC];exact .region id ops
 | .region id ops true,h=>by
  have key0:∀ hs,Low P (.region id ops true) (lowDraw0 P hs ops):=fun hs=>by
   simp only [lowDraw0]
   split
   · rename_i q
     simp only [Bool.and_eq_true] at q
     exact .draw id hs ops q.1 q.2
   · exact .fail _
  have key1:∀ hs,Low P (.region id ops true) (lowSplit P hs ops):=fun hs=>by
   unfold lowSplit
   cases e:ops.back? with
   | none=>exact .fail _
   | some last =>
    obtain ⟨ys,rfl⟩:=Array.back?_eq_some_iff.1 e
    simp only [Array.pop_push]
    split
    · rename_i q
      simp only [Bool.and_eq_true] at q
      exact .split id hs ys last q.1.1.1.1 q.1.1.1.2 q.1.1.2 q.1.2 q.2
    · exact .fail _
  have key:∀ hs,Low P (.region id ops true) (lowDraw P hs ops):=fun hs=>by
   cases hs with
   | nil=>exact key0 []
   | cons t ts =>
    simp only [lowDraw]
    split
    · exact key1 ts
    · exact key0 (t :: ts)
  cases h with
  | nil=>simp only [lowC];exact key []
  | cons hs h=>simp only [lowC];exact key hs
 | .seq a b,h=>by simp only [lowC];exact .seq (lowC_Low a h) (lowC_Low b _)
 | .cond c t e,h=>by
  simp only [lowC]
  split
  · rename_i c' hc;exact .cond hc (lowC_Low t h) (lowC_Low e _)
  · exact .fail _
 | .block id b,h=>by simp only [lowC];exact .block id (lowC_Low b h)
 | .loop b,[]=>by simp only [lowC];exact .loop (lowC_Low b [])
 | .loop b,ts :: h=>by simp only [lowC];exact .loop (.kill ts (lowC_Low b h))
 | .label _,_ | .goto _,_ | .scope ..,_ | .rangeFunc ..,_ | .refuse _,_=>by simp only [lowC];exact .fail _
theorem VRs.kill {ts:Tmps} {vs:List Value} (h:VRs w0 ro μ ts vs) (t:Nat):VRs w0 ro μ (ts.set t .undef) vs :=
 VRs.of_get (by simpa using h.len) fun i v e=>by
  rw [List.getElem?_set] at e
  by_cases q:t=i
  · rw [if_pos q] at e
    split at e
    · rename_i hlt
      cases e
      have:i < vs.length:=by rw [← h.len];omega
      exact ⟨vs[i],List.getElem?_eq_getElem this,.undef _⟩
    · cases e
  · rw [if_neg q] at e;exact h.get e
theorem AR.kill {a:Act}:∀ {T:Tmps} (l:List Nat),AR w0 ro μ T a→AR w0 ro μ (killT T l) a
 | _,[],h=>h
 | _,t :: l,h=>AR.kill l ⟨h.1,h.2.kill t⟩
def exitOf:AExit→Exit
 | .normal=>.normal
 | .ret=>.ret
 | .exit id=>.exit id
def CodeSim (P:Program) (E:AEnv) (n:Nat):Prop :=
 ∀ (w0:World) (ro:Nat→Prop) (lim:Nat) (c:Code) (ac:AC) (μ:Mu) (H:Heap) (w:World) (T:Tmps) (a:Act) (x:AExit) (T':Tmps) (H':Heap) (Q:Exit→Act→World→Prop),
  Low P c ac→HR w0 ro μ H w→AR w0 ro μ T a→exec E n ac lim T H=some (x,T',H') →
  (∀ μ' a' w',Post w0 ro lim μ H w μ' H' w'→AR w0 ro μ' T' a'→Q (exitOf x) a' w')→c.wp P Q a w
def LoopSim (P:Program) (E:AEnv) (n:Nat):Prop :=
 ∀ (w0:World) (ro:Nat→Prop) (lim:Nat) (c:Code) (ac:AC) (μ:Mu) (H:Heap) (w:World) (T:Tmps) (a:Act) (x:AExit) (T':Tmps) (H':Heap) (Q:Exit→Act→World→Prop),
  Low P c ac→HR w0 ro μ H w→AR w0 ro μ T a→exec E n (.loop ac) lim T H=some (x,T',H') →
  (∀ μ' a' w',Post w0 ro lim μ H w μ' H' w'→AR w0 ro μ' T' a'→Q (exitOf x) a' w')→Code.rounds P c Q n a w
def resW (tmps:Array Value):ResultVar→Sem Value
 | .tmp t=>pure (tmps.getD t undef)
 | .cell a t=>do loadVar t (← asAddr (tmps.getD a undef))
theorem resL_run {a:Act} (hr:HR w0 ro μ H w) (har:AR w0 ro μ T a):∀ {rv:List ResultVar} {rs:List ARes} {vs:List AV},lowRes P rv=some rs→resL H T rs=some vs→∃ vs',(rv.mapM (resW a.tmps)).run P w=.ok vs' w∧VRs w0 ro μ vs vs'
 | [],rs,vs,h,k=>by
  simp only [lowRes,Option.some.injEq] at h
  subst h
  simp only [resL,Option.some.injEq] at k
  subst k
  exact ⟨[],by simp,.nil⟩
 | r :: rv,rs,vs,h,k=>by
  have step:∀ ar rs',rs=ar :: rs'→lowRes P rv=some rs'→(∀ v,resOne H T ar=some v→∃ v',(resW a.tmps r).run P w=.ok v' w∧VR w0 ro μ v v')→∃ vs',((r :: rv).mapM (resW a.tmps)).run P w=.ok vs' w∧VRs w0 ro μ vs vs':=fun ar rs' e h2 hone=>by
   subst e
   simp only [resL,Option.bind_eq_some_iff,Option.map_eq_some_iff] at k
   obtain ⟨v,k1,vs2,k2,rfl⟩:=k
   obtain ⟨v',h3,h4⟩:=hone v k1
   obtain ⟨vs',h5,h6⟩:=resL_run hr har h2 k2
   exact ⟨v' :: vs',by simp [h3,h5],.cons h4 h6⟩
  cases r with
  | tmp t =>
   simp only [lowRes,Option.map_eq_some_iff] at h
   obtain ⟨rs',h1,h2⟩:=h
   refine step _ _ h2.symm h1 fun v hv=>?_
   simp only [resOne] at hv
   obtain ⟨v',h3,h4⟩:=har.get hv
   exact ⟨v',by simp [resW,Array.getD_eq_getD_getElem?,h3],h4⟩
  | cell t ty =>
   simp only [lowRes,Option.bind_eq_some_iff,Option.map_eq_some_iff] at h
   obtain ⟨n,h0,rs',h1,h2⟩:=h
   refine step _ _ h2.symm h1 fun v hv=>?_
   simp only [resOne,Option.bind_eq_some_iff] at hv
   obtain ⟨u,h3,h4⟩:=hv
   obtain ⟨u',h5,h6⟩:=har.get h3
   have e:a.tmps.getD t undef=u':=by simp [Array.getD_eq_getD_getElem?,h5]
   unfold loadAt at h4
   split at h4
   · rename_i b off
     simp only [Option.bind_eq_some_iff] at h4
     obtain ⟨cs,g1,c',g2,g3⟩:=h4
     cases h6 with
     | ptr hm =>
      obtain ⟨x,x1,x2⟩:=sim_loadVar h0 (hr.lie hm g1 g2) (cut_len g2) g3
      exact ⟨x,by simp [resW,e,asAddr,x1],x2⟩
   · simp only [Option.bind_eq_some_iff] at h4
     obtain ⟨c',g2,g3⟩:=h4
     cases h6 with
     | tp h7 hd =>
      have:=hd.lie hr h7 g2
      simp only [Nat.add_zero] at this
      obtain ⟨x,x1,x2⟩:=sim_loadVar h0 this (cut_len g2) g3
      exact ⟨x,by simp [resW,e,asAddr,x1],x2⟩
   · cases h4
theorem res_run {a:Act} {fn:Func} {rs:List ARes} {r:AV} (hr:HR w0 ro μ H w) (har:AR w0 ro μ T a) (h:lowRes P fn.results.toList=some rs) (k:resAll H T rs=some r) :
 ∃ v,(results fn a.tmps).run P w=.ok v w∧VR w0 ro μ r v:=by
 simp only [resAll,Option.map_eq_some_iff] at k
 obtain ⟨vs,k1,k2⟩:=k
 obtain ⟨vs',h1,h2⟩:=resL_run hr har h k1
 have e:(results fn a.tmps).run P w=.ok (if h:vs'.toArray.size=1 then vs'.toArray[0] else .tuple vs'.toArray) w:=by
  have:results fn a.tmps=(do let vs ← fn.results.mapM (resW a.tmps);pure (if h:vs.size=1 then vs[0] else .tuple vs)):=by
   unfold results
   congr 1
  rw [this,Array.mapM_eq_mapM_toList]
  simp [h1]
 refine ⟨_,e,?_⟩
 cases h2 with
 | nil=>subst k2;exact .tup .nil
 | cons q t =>
  cases t with
  | nil=>subst k2;exact q
  | cons q' t'=>subst k2;simp;exact .tup (.cons q (.cons q' t'))
end
end Go.Proofs.YtgbnbgkldeifkaaGreatA
/- The small machine's runs are the program's (end). No statement about the program is proved here. -/
namespace Go.Proofs.YtgbnbgkldeifkaaGreatA
open Go Go.RowKit
set_option linter.unusedVariables false
section
variable {w0:World} {ro:Nat→Prop} {P:Program} {μ:Mu} {H:Heap} {w:World} {T:Tmps} {lim:Nat} {E:AEnv}
theorem loop_step {n:Nat} (ih:CodeSim P E n) (ihl:LoopSim P E n):LoopSim P E (n + 1):=by
 intro w0 ro lim c ac μ H w T a x T' H' Q hl hr har h hQ
 simp only [exec] at h
 cases e:exec E n ac lim T H with
 | none=>rw [e] at h;cases h
 | some r =>
  obtain ⟨x1,T1,H1⟩:=r
  rw [e] at h
  refine ih w0 ro lim c ac μ H w T a x1 T1 H1 _ hl hr har e fun μ1 a1 w1 hp1 ha1=>?_
  cases x1 with
  | normal=>exact ihl w0 ro lim c ac μ1 H1 w1 T1 a1 x T' H' Q hl hp1.hr ha1 h fun μ' a' w' hp ha=>hQ μ' a' w' (hp1.trans hp) ha
  | ret=>cases h;exact hQ μ1 a1 w1 hp1 ha1
  | exit id=>cases h;exact hQ μ1 a1 w1 hp1 ha1
theorem code_step (hE:EnvOK P E) {n:Nat} (hC:CallSim P E (exec E n)) (hCp:∀ m,n=m + 1→CallSim P E (exec E m)) (ih:CodeSim P E n) (ihl:LoopSim P E n):CodeSim P E (n + 1):=by
 intro w0 ro lim c ac μ H w T a x T' H' Q hl hr har h hQ
 cases hl with
 | fail=>simp [exec] at h
 | skip=>simp only [exec,Option.some.injEq,Prod.mk.injEq] at h;obtain ⟨rfl,rfl,rfl⟩:=h;exact wp_skip (hQ μ a w (Post.refl hr) har)
 | ret=>simp only [exec,Option.some.injEq,Prod.mk.injEq] at h;obtain ⟨rfl,rfl,rfl⟩:=h;exact wp_ret (hQ μ a w (Post.refl hr) har)
 | exit id=>simp only [exec,Option.some.injEq,Prod.mk.injEq] at h;obtain ⟨rfl,rfl,rfl⟩:=h;exact wp_exit (hQ μ a w (Post.refl hr) har)
 | region id ops =>
  simp only [exec,Option.map_eq_some_iff,Prod.mk.injEq] at h
  obtain ⟨⟨T1,H1⟩,h1,rfl,rfl,rfl⟩:=h
  exact region_sim hE hC hr har h1 hQ
 | draw id hs ops h1 h2 =>
  simp only [exec] at h
  split at h
  case isFalse=>cases h
  rename_i hle
  simp only [Option.bind_eq_some_iff,Option.map_eq_some_iff,Prod.mk.injEq] at h
  obtain ⟨B,hB,⟨T1,H1⟩,h3,rfl,rfl,rfl⟩:=h
  obtain ⟨hB1,hB2⟩:=hidden_ok hB
  rw [← hB1] at h3
  exact draw_sim hE hC hr hle har h1 h2 hB2 h3 hQ
 | split id hs ops last g1 g2 g3 g4 g5 =>
  cases n with
  | zero=>simp [exec] at h
  | succ m =>
   simp only [exec] at h
   by_cases hle:lim≤H.length
   case neg=>simp [hle] at h
   rw [if_pos hle] at h
   cases hB:hidden T H.length hs with
   | none=>simp [hB] at h
   | some B =>
    rw [hB,Option.bind_some] at h
    obtain ⟨hB1,hB2⟩:=hidden_ok hB
    rw [← hB1] at h
    cases h3:runDraw E (exec E m) lim B (flagged B.isSome (befores ops.toList []) (ops.toList.map (lowOper P ops))) T H with
    | none=>rw [h3] at h;simp at h
    | some r =>
     obtain ⟨T1,H1⟩:=r
     rw [h3] at h
     simp only [Option.map_some,Option.map_eq_some_iff,Prod.mk.injEq] at h
     obtain ⟨⟨T2,H2⟩,h4,rfl,rfl,rfl⟩:=h
     exact split_sim hE (hCp m rfl) (hCp m rfl) hr hle har g1 g2 g3 g4 g5 hB2 h3 h4 hQ
 | @seq c1 c2 a1 a2 k1 k2 =>
  simp only [exec] at h
  refine wp_seq ?_
  cases e:exec E n a1 lim T H with
  | none=>rw [e] at h;cases h
  | some r =>
   obtain ⟨x1,T1,H1⟩:=r
   rw [e] at h
   refine ih w0 ro lim c1 a1 μ H w T a x1 T1 H1 _ k1 hr har e fun μ1 b1 w1 hp1 ha1=>?_
   cases x1 with
   | normal=>exact ih w0 ro lim c2 a2 μ1 H1 w1 T1 b1 x T' H' Q k2 hp1.hr ha1 h fun μ' a' w' hp ha=>hQ μ' a' w' (hp1.trans hp) ha
   | ret=>cases h;exact hQ μ1 b1 w1 hp1 ha1
   | exit id=>cases h;exact hQ μ1 b1 w1 hp1 ha1
 | @cond c1 c' t e t' e' hc k1 k2 =>
  simp only [exec] at h
  have hv:=lowX_VR hc har
  split at h
  · rename_i b eb
    rw [eb] at hv
    generalize ha:a.eval c1=u at hv
    cases hv
    refine wp_cond ha ?_
    cases b with
    | true=>exact ih w0 ro lim t t' μ H w T a x T' H' Q k1 hr har h hQ
    | false=>exact ih w0 ro lim e e' μ H w T a x T' H' Q k2 hr har h hQ
  · cases h
 | @block id b b' k =>
  simp only [exec,Option.map_eq_some_iff] at h
  obtain ⟨⟨x1,T1,H1⟩,h1,h2⟩:=h
  refine wp_block (ih w0 ro lim b b' μ H w T a x1 T1 H1 _ k hr har h1 fun μ1 b1 w1 hp1 ha1=>?_)
  cases x1 with
  | normal=>simp only [Prod.mk.injEq] at h2;obtain ⟨rfl,rfl,rfl⟩:=h2;exact hQ μ1 b1 w1 hp1 ha1
  | ret=>simp only [Prod.mk.injEq] at h2;obtain ⟨rfl,rfl,rfl⟩:=h2;exact hQ μ1 b1 w1 hp1 ha1
  | exit j =>
   simp only [Prod.mk.injEq] at h2
   obtain ⟨h2,rfl,rfl⟩:=h2
   simp only [exitOf,Exit.inBlock]
   split at h2
   · rename_i q;subst h2;rw [if_pos q];exact hQ μ1 b1 w1 hp1 ha1
   · rename_i q;subst h2;rw [if_neg q];exact hQ μ1 b1 w1 hp1 ha1
 | @loop b b' k=>exact wp_loop_rounds (n + 1) (loop_step ih ihl w0 ro lim b b' μ H w T a x T' H' Q k hr har h hQ)
 | @kill ts _ c' k =>
  simp only [exec] at h
  cases n with
  | zero=>simp only [exec] at h;cases h
  | succ m =>
   simp only [exec] at h
   exact ih w0 ro lim c c' μ H w (killT T ts) a x T' H' Q k hr (har.kill ts) h hQ
theorem replicate_VRs (n:Nat):VRs w0 ro μ (List.replicate n .noval) (List.replicate n Go.undef):=by
 induction n with
 | zero=>exact .nil
 | succ n ih=>exact .cons .noval ih
theorem call_step (hE:EnvOK P E) {n:Nat} (ih:CodeSim P E n):CallSim P E (exec E n):=by
 intro w0 ro μ H w lim f as vs r H' hne hr hv h
 unfold callF at h
 cases e:E.fn f with
 | none=>rw [e] at h;cases h
 | some fx =>
  rw [e] at h
  cases fx with
  | ext g=>exact absurd e (hne g)
  | prim g=>exact (hE.prim f g e).2 w0 ro μ H w lim as vs r H' hr hv h
  | code fd =>
   obtain ⟨fn,c,hh,hent,hbody,hlow,hnt,hres⟩:=hE.code f fd e
   have hL:Low P c fd.body:=by rw [hlow];exact lowC_Low c hh
   have hlen:as.length=vs.size:=by rw [hv.len];simp
   simp only at h
   cases hm:fd.mode with
   | heap =>
    rw [hm] at h
    simp only at h
    have main:∀ x T1 H1,(x=.normal∨x=.ret)→exec E n fd.body lim (as++List.replicate (fd.ntmps - as.length) .noval) H=some (x,T1,H1)→(resAll H1 T1 fd.results).map (·,H1)=some (r,H')→Calls P f vs w (CallPost w0 ro lim μ H w r H'):=by
     intro x T1 H1 hx h1 h2
     simp only [Option.map_eq_some_iff,Prod.mk.injEq] at h2
     obtain ⟨v,h3,rfl,rfl⟩:=h2
     refine calls_of_wp hent.1 hbody (ih w0 ro lim c fd.body μ H w _ _ x T1 H1 _ hL hr ⟨rfl,?_⟩ h1 fun μ1 a1 w1 hp ha=>?_)
     · simp only [Array.toList_append,Array.toList_replicate]
       rw [hnt,hlen]
       exact hv.app (replicate_VRs _)
     · obtain ⟨v',g1,g2⟩:=res_run hp.hr ha hres h3
       rcases hx with rfl | rfl
       · exact ⟨ha.1,v',g1,v',μ1,rfl,hp,g2⟩
       · exact ⟨ha.1,v',g1,v',μ1,rfl,hp,g2⟩
    split at h
    · rename_i T1 H1 e1;exact main _ T1 H1 (.inl rfl) e1 h
    · rename_i T1 H1 e1;exact main _ T1 H1 (.inr rfl) e1 h
    · cases h
   | pure =>
    rw [hm] at h
    simp only [Option.bind_eq_some_iff] at h
    obtain ⟨ds,hds,h⟩:=h
    have htr:=frzs_TR (fun v u v'=>frz_TR hr deep v u v') as ds vs.toList hds hv
    have hr0:HR w (fun c=>c < w.heap.size) [] [] w:=⟨rfl,Nat.le_refl _,fun c hc=>⟨hc,rfl⟩,fun b loc e=>by simp at e,fun b b' l l' _ _ e=>by simp at e⟩
    have main :∀ x T1 H1,(x=.normal∨x=.ret)→exec E n fd.body 0 (ds++List.replicate (fd.ntmps - as.length) .noval) []=some (x,T1,H1) →
     ((resAll H1 T1 fd.results).bind fun v=>(own H1 deep v).bind fun (d,used)=>if noTwo used then some (thaw d H) else none)=some (r,H')→Calls P f vs w (CallPost w0 ro lim μ H w r H'):=by
     intro x T1 H1 hx h1 h2
     simp only [Option.bind_eq_some_iff] at h2
     obtain ⟨v,h3,⟨d,used⟩,h4,h5⟩:=h2
     simp only at h5
     split at h5
     · rename_i hu
       refine calls_of_wp hent.1 hbody (ih w (fun c=>c < w.heap.size) 0 c fd.body [] [] w _ _ x T1 H1 _ hL hr0 ⟨rfl,?_⟩ h1 fun μ1 a1 w1 hp ha=>?_)
       · simp only [Array.toList_append,Array.toList_replicate]
         rw [hnt,hlen]
         exact htr.toVRs.app (replicate_VRs _)
       · obtain ⟨v',g1,g2⟩:=res_run hp.hr ha hres h3
         have noO:∀ c,¬ Owned [] [] 0 c:=fun c=>noOwn (Nat.le_refl _)
         have fr:∀ c,c < w.heap.size→w1.heap[c]?=w.heap[c]?:=fun c hc=>hp.frame c hc (noO c)
         have hr1:=hr.later hp.size fr
         have own1:=own_thaw (w0:=w0) (ro:=ro) (N:=w.heap.size) (L:=H.length) hp.hr (fun b l ha' hm'=>by
          rcases Nat.lt_or_ge l.c w.heap.size with q | q
          · exact absurd (hp.sub l.c q ⟨b,l,Nat.zero_le _,ha',hm',rfl⟩) (noO _)
          · exact q) (fun c hc=>Nat.lt_of_lt_of_le (hr.old c hc).1 hr.grow) deep v d used h4 v' g2 [] μ H hr1
          ⟨fun b l ha' hm' hN=>by have:=BR.lt ha' (hr.blk b l hm');omega,fun b l hb ha' _=>by have:=alive_lt ha';omega⟩ hu (by simp)
         obtain ⟨ν,K,k1,k2,k3,k4⟩:=own1
         have e5:(thaw d H)=(r,H'):=by simpa using h5
         rw [e5] at k1 k2 k3 k4
         simp only at k1 k2 k3 k4
         have hpost:Post w0 ro lim μ H w (μ++ν) H' w1:=by
          refine ⟨⟨ν,rfl⟩,k2,hp.os,hp.tape,hp.output,hp.size,fun c hc _=>fr c hc,?_,?_,by rw [k1];simp⟩
          · rintro c hc ⟨b,l,b1,b2,b3,b4⟩
            rcases Nat.lt_or_ge b H.length with q | q
            · rw [k1] at b2
              rw [List.getElem?_append_left (by rw [hr.len];exact q)] at b3
              exact ⟨b,l,b1,alive_cut q b2,b3,b4⟩
            · have:=k4.2 b l q b2 b3;omega
          · intro b _ hb;rw [k1,List.getElem?_append_left hb]
         rcases hx with rfl | rfl
         · exact ⟨ha.1,v',g1,v',μ++ν,rfl,hpost,k3⟩
         · exact ⟨ha.1,v',g1,v',μ++ν,rfl,hpost,k3⟩
     · cases h5
    split at h
    · rename_i T1 H1 e1;exact main _ T1 H1 (.inl rfl) e1 h
    · rename_i T1 H1 e1;exact main _ T1 H1 (.inr rfl) e1 h
    · cases h
theorem code_sim2 (hE:EnvOK P E):∀ n,(CodeSim P E n∧LoopSim P E n)∧∀ m,n=m + 1→CodeSim P E m
 | 0=>⟨⟨fun _ _ _ _ _ _ _ _ _ _ _ _ _ _ _ _ _ h=>by simp [exec] at h,fun _ _ _ _ _ _ _ _ _ _ _ _ _ _ _ _ _ h=>by simp [exec] at h⟩,fun m h=>by omega⟩
 | n + 1=>have ih:=code_sim2 hE n;⟨⟨code_step hE (call_step hE ih.1.1) (fun m e=>call_step hE (ih.2 m e)) ih.1.1 ih.1.2,loop_step ih.1.1 ih.1.2⟩,fun m e=>by cases e;exact ih.1.1⟩
theorem code_sim (hE:EnvOK P E) (n:Nat):CodeSim P E n∧LoopSim P E n:=(code_sim2 hE n).1
theorem call_sim (hE:EnvOK P E) (n:Nat):CallSim P E (exec E n):=call_step hE (code_sim hE n).1
end
end Go.Proofs.YtgbnbgkldeifkaaGreatA
/- How a call's arguments are read as the small machine's. No statement about the program is proved here. -/
namespace Go.Proofs.YtgbnbgkldeifkaaGreatA
open Go Go.RowKit
set_option linter.unusedVariables false
inductive Sh where
 | bool
 | int (k:IntKind)
 | str
 | sl (es bs:Nat) (e:Sh)
 | cat (ps:List (Nat × Sh))
 deriving Inhabited
def offOf (ps:List (Nat × Sh)) (i:Nat):Nat:=((ps.take i).map (·.1)).sum
def shapeFs (P:Program) (f:TypeId→Option Sh):List Field→Nat→Option (List (Nat × Sh))
 | [],_=>some []
 | x :: xs,off=>if x.offset=off then (f x.type).bind fun s=>(shapeFs P f xs (off + P.cellsOf x.type)).map ((P.cellsOf x.type,s) :: ·) else none
def shapeTy (P:Program):Nat→TypeId→Option Sh
 | 0,_=>none
 | d + 1,t =>
  match P.underlying t with
  | some .bool=>some .bool
  | some (.int k)=>some (.int k)
  | some .string=>some .str
  | some (.slice e)=>if 0 < P.cellsOf e then (shapeTy P d e).map (.sl (P.cellsOf e) (P.bytesOf e)) else none
  | some (.struct fs)=>(shapeFs P (shapeTy P d) fs.toList 0).bind fun ps=>if (ps.map (·.1)).sum=P.cellsOf t then some (.cat ps) else none
  | some (.array n e)=>(shapeTy P d e).bind fun s=>if ((List.replicate n (P.cellsOf e,s)).map (·.1)).sum=P.cellsOf t then some (.cat (List.replicate n (P.cellsOf e,s))) else none
  | _=>none
mutual
inductive Fits:Sh→List AV→Prop
 | bool (b):Fits .bool [.bool b]
 | int {k n} (h:(Lit.int k n).wf=true):Fits (.int k) [.int k n]
 | str {s} (h:s.length≤reachBytes):Fits .str [.str s]
 | sl {es bs e rows} (h:FitsRows es e rows) (hm:rows.length≤maxLen) (hb:rows.length * bs≤reachBytes):Fits (.sl es bs e) [.ro rows.length rows.flatten]
 | cat {ps rows} (h:FitsAll ps rows):Fits (.cat ps) rows.flatten
inductive FitsRows:Nat→Sh→List (List AV)→Prop
 | nil (es e):FitsRows es e []
 | snoc {es e rows r} (h:FitsRows es e rows) (hl:r.length=es) (hr:Fits e r):FitsRows es e (rows++[r])
inductive FitsAll:List (Nat × Sh)→List (List AV)→Prop
 | nil:FitsAll [] []
 | cons {n s ps r rows} (hl:r.length=n) (hr:Fits s r) (h:FitsAll ps rows):FitsAll ((n,s) :: ps) (r :: rows)
end
section
variable {w0:World} {ro:Nat→Prop}
theorem TRs.app:∀ {a a' b b'},TRs w0 ro a a'→TRs w0 ro b b'→TRs w0 ro (a++b) (a'++b')
 | _,_,_,_,.nil,k=>k
 | _,_,_,_,.cons h t,k=>.cons h (TRs.app t k)
theorem TRs.len:∀ {v v'},TRs w0 ro v v'→v.length=v'.length
 | _,_,.nil=>rfl
 | _,_,.cons _ t=>by simp [TRs.len t]
theorem fits_cat:∀ (ps:List (Nat × Sh)) (cs:List Value),cs.length=(ps.map (·.1)).sum →
 (∀ (i n:Nat) (s:Sh),ps[i]?=some (n,s)→∃ as,TRs w0 ro as ((cs.drop (offOf ps i)).take n)∧Fits s as)→∃ rows,TRs w0 ro rows.flatten cs∧FitsAll ps rows
 | [],cs,hl,_=>by
  have:cs=[]:=List.length_eq_zero_iff.1 (by simpa using hl)
  subst this
  exact ⟨[],.nil,.nil⟩
 | (n,s) :: ps,cs,hl,h=>by
  simp only [List.map_cons,List.sum_cons] at hl
  obtain ⟨as,h1,h2⟩:=h 0 n s rfl
  simp only [offOf,List.take_zero,List.map_nil,List.sum_nil,List.drop_zero] at h1
  obtain ⟨rows,h3,h4⟩:=fits_cat ps (cs.drop n) (by simp;omega) fun i m t e=>by
   obtain ⟨as,k1,k2⟩:=h (i + 1) m t (by simpa using e)
   refine ⟨as,?_,k2⟩
   have:offOf ((n,s) :: ps) (i + 1)=n + offOf ps i:=by simp [offOf]
   rw [this] at k1
   rw [List.drop_drop]
   exact k1
  refine ⟨as :: rows,?_,.cons (by rw [h1.len];simp;omega) h2 h4⟩
  have:=h1.app h3
  rw [List.take_append_drop] at this
  simpa using this
end
theorem sum_rep (n m:Nat):(List.replicate n m).sum=n * m:=by
 induction n with
 | zero=>simp
 | succ n ih=>rw [List.replicate_succ,List.sum_cons,ih,Nat.add_mul];omega
theorem add_add (a:Addr) (x y:Nat):(a.add x).add y=a.add (x + y):=by
 unfold Addr.add
 by_cases hx:x=0 <;> by_cases hy:y=0 <;> simp [hx,hy,Nat.add_assoc]
theorem shapeFs_get {P:Program} {f:TypeId→Option Sh}:∀ {fs:List Field} {off:Nat} {ps:List (Nat × Sh)},shapeFs P f fs off=some ps →
 ∀ (i n:Nat) (s:Sh),ps[i]?=some (n,s)→∃ x,fs[i]?=some x∧n=P.cellsOf x.type∧f x.type=some s∧x.offset=off + offOf ps i
 | [],off,ps,h,i,n,s,e=>by simp only [shapeFs,Option.some.injEq] at h;subst h;simp at e
 | x :: xs,off,ps,h,i,n,s,e=>by
  simp only [shapeFs] at h
  split at h
  · rename_i ho
    simp only [Option.bind_eq_some_iff,Option.map_eq_some_iff] at h
    obtain ⟨s',h1,ps',h2,rfl⟩:=h
    cases i with
    | zero =>
     simp only [List.getElem?_cons_zero,Option.some.injEq,Prod.mk.injEq] at e
     obtain ⟨rfl,rfl⟩:=e
     exact ⟨x,rfl,rfl,h1,by simp [offOf,ho]⟩
    | succ i =>
     obtain ⟨y,k1,k2,k3,k4⟩:=shapeFs_get h2 i n s (by simpa using e)
     refine ⟨y,by simpa using k1,k2,k3,?_⟩
     rw [k4]
     simp [offOf];omega
  · cases h
section
variable {H:Type} {enc:TypeId × Value→H} {P:Program} {W:World}
theorem weightsAll_mem {e:TypeId} {n:Nat}:∀ {l:List (DataW H)} {d:DataW H},d ∈ l→n ∈ d.weights P e→n ∈ DataW.weightsAll P e l
 | x :: l,d,h,k=>by
  unfold DataW.weightsAll
  rcases List.mem_cons.1 h with rfl | h
  · exact List.mem_append_left _ k
  · exact List.mem_append_right _ (weightsAll_mem h k)
theorem weightsEach_mem {n:Nat}:∀ {ts:List TypeId} {l:List (DataW H)} {i:Nat} {t:TypeId} {d:DataW H},ts[i]?=some t→l[i]?=some d→n ∈ d.weights P t→n ∈ DataW.weightsEach P ts l
 | _ :: _,_ :: _,0,t,d,h1,h2,k=>by
  simp only [List.getElem?_cons_zero,Option.some.injEq] at h1 h2
  subst h1;subst h2
  unfold DataW.weightsEach
  exact List.mem_append_left _ k
 | t0 :: ts,x :: l,i + 1,t,d,h1,h2,k=>by
  unfold DataW.weightsEach
  exact List.mem_append_right _ (weightsEach_mem (i:=i) (by simpa using h1) (by simpa using h2) k)
 | [],_,_,_,_,h1,_,_=>by simp at h1
 | _ :: _,[],_,_,_,_,h2,_=>by simp at h2
theorem open_trod:∀ (d:Nat) (t:TypeId) (sh:Sh) (fuel:Nat) (cs:List Value) (x:DataW H × List MemPlace),shapeTy P d t=some sh→DataW.trod enc P W 0 (fun _=>true) true fuel t cs=some x→(∀ n ∈ x.1.weights P t,n≤reachBytes) →
 ∃ as,TRs W (fun c=>c < W.heap.size) as cs∧Fits sh as
 | 0,_,_,_,_,_,h,_,_=>by simp [shapeTy] at h
 | d + 1, t, sh,fuel,cs,x,h,ht,hz=>by
  unfold shapeTy at h
  split at h
  · rename_i hu
    cases h
    obtain ⟨b,rfl,_⟩:=DataW.trod_bool hu ht
    exact ⟨[.bool b],.cons (.bool b) .nil,.bool b⟩
  · rename_i k hu
    cases h
    obtain ⟨n,rfl,_,hw⟩:=DataW.trod_int hu ht
    exact ⟨[.int k n],.cons (.int k n) .nil,.int hw⟩
  · rename_i hu
    cases h
    obtain ⟨s,rfl,rfl,hw⟩:=DataW.trod_string hu ht
    exact ⟨[.str s.data.toList],.cons (.str rfl) .nil,.str (hz _ (by simp [DataW.weights]))⟩
  · rename_i e hu
    split at h
    · rename_i hpos
      simp only [Option.map_eq_some_iff] at h
      obtain ⟨s,h1,rfl⟩:=h
      rcases DataW.trod_slice hu ht with ⟨rfl,_⟩ | ⟨a,len,cap,elems,rest,n,_,rfl,rfl,_,hle,hcap,hlen,hel,_,_⟩
      · exact ⟨[.ro 0 []],.cons (.ro0 none 0 rfl) .nil,.sl (rows:=[]) (.nil _ _) (Nat.zero_le _) (by simp)⟩
      · have mk:∀ k,k≤len→∃ rows:List (List AV),rows.length=k∧rows.flatten.length=k * P.cellsOf e∧FitsRows (P.cellsOf e) s rows∧∀ (j:Nat) (v:AV),rows.flatten[j]?=some v→∃ v',W.cell? (a.add j)=some v'∧TR W (fun c=>c < W.heap.size) v v':=by
         intro k
         induction k with
         | zero=>intro _;exact ⟨[],rfl,by simp,.nil _ _,fun j v e=>by simp at e⟩
         | succ k ih =>
          intro hk
          obtain ⟨rows,r1,r2,r3,r4⟩:=ih (by omega)
          have h2:=hel k (by omega)
          rw [List.getElem?_eq_getElem (by omega)] at h2
          simp only [Option.bind_eq_some_iff] at h2
          obtain ⟨ci,h3,h4⟩:=h2
          obtain ⟨as,h5,h6⟩:=open_trod d e s n ci _ h1 h4 fun m hm=>hz m (by
           unfold DataW.weights
           rw [hu]
           refine List.mem_cons_of_mem _ (List.mem_append_left _ (weightsAll_mem (List.mem_map.2 ⟨_,List.getElem_mem (by omega),rfl⟩) hm)))
          obtain ⟨_,h7,h8⟩:=World.cells?_some h3
          have hl:as.length=P.cellsOf e:=by rw [h5.len,h7]
          refine ⟨rows++[as],by simp [r1],by simp [r2,hl,Nat.add_mul],.snoc r3 hl h6,fun j v ej=>?_⟩
          simp only [List.flatten_append,List.flatten_cons,List.flatten_nil,List.append_nil] at ej
          rcases Nat.lt_or_ge j rows.flatten.length with q | q
          · rw [List.getElem?_append_left q] at ej;exact r4 j v ej
          · rw [List.getElem?_append_right q] at ej
            obtain ⟨v',g1,g2⟩:=TRs.get h5 ej
            have hj:j - rows.flatten.length < P.cellsOf e:=by
             have:=(List.getElem?_eq_some_iff.1 ej).1
             omega
            have:=h8 (j - rows.flatten.length) hj
            rw [g1] at this
            refine ⟨v',?_,g2⟩
            have e2:(a.add (k * P.cellsOf e)).add (j - rows.flatten.length)=a.add j:=by
             have:j=k * P.cellsOf e + (j - rows.flatten.length):=by omega
             rw [add_add,← this]
            rw [e2] at this
            exact this
        obtain ⟨rows,r1,r2,r3,r4⟩:=mk len (Nat.le_refl _)
        refine ⟨[.ro len rows.flatten],?_,?_⟩
        · refine .cons ?_ .nil
          rcases Nat.eq_zero_or_pos len with rfl | hp
          · have:rows=[]:=List.length_eq_zero_iff.1 r1
            subst this
            exact .ro0 _ _ rfl
          · have h0:0 < rows.flatten.length:=by rw [r2];exact Nat.mul_pos hp hpos
            obtain ⟨v',g1,_⟩:=r4 0 _ (List.getElem?_eq_getElem h0)
            have hspot:=World.cell?_spot g1
            obtain ⟨b,off,spot⟩:=a
            have hspot:spot=none:=by simpa [Addr.add] using hspot
            subst hspot
            refine .ro ?_ hle (RD.of_get fun i v ei=>?_)
            · have:=World.block_lt_of_cell? _ _ g1
              simpa [Addr.add] using this
            · obtain ⟨v',k1,k2⟩:=r4 i v ei
              rw [add_at] at k1
              exact ⟨v',k1,k2⟩
        · rw [← r1];exact .sl r3 (by omega) (by
           have:=hz ((elems.length + rest.length) * P.bytesOf e) (by unfold DataW.weights;rw [hu];simp)
           rw [r1,← hlen]
           exact Nat.le_trans (Nat.mul_le_mul_right _ (Nat.le_add_right _ _)) this)
    · cases h
  · rename_i fs hu
    simp only [Option.bind_eq_some_iff] at h
    obtain ⟨ps,h1,h2⟩:=h
    split at h2
    · rename_i hsum
      cases h2
      obtain ⟨xs,n,_,rfl,hlen,hxl,hxs⟩:=DataW.trod_struct hu ht
      obtain ⟨rows,h3,h4⟩:=fits_cat (w0:=W) (ro:=fun c=>c < W.heap.size) ps cs (by rw [hlen,hsum]) fun i n' s e=>by
       obtain ⟨f,g1,g2,g3,g4⟩:=shapeFs_get h1 i n' s e
       have h5:=hxs i f (by simpa using g1)
       have hi:i < xs.length:=by
        have:=(List.getElem?_eq_some_iff.1 g1).1
        simp at this;omega
       rw [List.getElem?_eq_getElem hi] at h5
       have:=open_trod d f.type s n _ _ g3 h5 fun m hm=>hz m (by
        unfold DataW.weights
        rw [hu]
        exact weightsEach_mem (i:=i) (t:=f.type) (d:=xs[i].1) (by simp [g1]) (by simp [hi]) hm)
       rw [g2]
       rw [g4,Nat.zero_add] at this
       exact this
      exact ⟨rows.flatten,h3,.cat h4⟩
    · cases h2
  · rename_i n e hu
    simp only [Option.bind_eq_some_iff] at h
    obtain ⟨s,h1,h2⟩:=h
    split at h2
    · rename_i hsum
      cases h2
      obtain ⟨xs,m,_,rfl,hlen,hxl,hxs⟩:=DataW.trod_array hu ht
      obtain ⟨rows,h3,h4⟩:=fits_cat (w0:=W) (ro:=fun c=>c < W.heap.size) (List.replicate n (P.cellsOf e,s)) cs (by rw [hlen,hsum]) fun i n' s' e'=>by
       rw [List.getElem?_replicate] at e'
       split at e'
       · rename_i hi
         cases e'
         have h5:=hxs i hi
         rw [List.getElem?_eq_getElem (by omega)] at h5
         have:=open_trod d e s m _ _ h1 h5 fun m' hm=>hz m' (by
          unfold DataW.weights
          rw [hu]
          exact weightsAll_mem (List.mem_map.2 ⟨_,List.getElem_mem (by omega),rfl⟩) hm)
         have ho:offOf (List.replicate n (P.cellsOf e,s)) i=i * P.cellsOf e:=by
          unfold offOf
          rw [List.take_replicate,List.map_replicate,sum_rep,Nat.min_eq_left (Nat.le_of_lt hi)]
         rw [ho]
         exact this
       · cases e'
      exact ⟨rows.flatten,h3,.cat h4⟩
    · cases h2
  · cases h
def isRow (P:Program) (t:TypeId):Bool :=
 match P.underlying t with
 | some (.struct _) | some (.array _ _)=>true
 | _=>false
inductive FitsArg:Bool × Sh→AV→Prop
 | row {s as} (h:Fits s as):FitsArg (true,s) (.agg as)
 | one {s a} (h:Fits s [a]):FitsArg (false,s) a
inductive FitsArgs:List (Bool × Sh)→List AV→Prop
 | nil:FitsArgs [] []
 | cons {p ps a as} (h:FitsArg p a) (t:FitsArgs ps as):FitsArgs (p :: ps) (a :: as)
def argShapes (P:Program):List TypeId→Option (List (Bool × Sh))
 | []=>some []
 | t :: ts=>(shapeTy P 12 t).bind fun s=>(argShapes P ts).map ((isRow P t,s) :: ·)
theorem open_arg {t:TypeId} {v:Value} {sh:Sh} {dd:DataW H} {ps:List MemPlace} {base:Nat} (h:shapeTy P 12 t=some sh) (hv:Value.okWide P W .any base t v) (ht:DataW.Trod enc P W 0 (fun _=>true) true t v dd ps) (hz:∀ n ∈ dd.weights P t,n≤reachBytes) :
 ∃ a,TR W (fun c=>c < W.heap.size) a v∧FitsArg (isRow P t,sh) a:=by
 obtain ⟨fuel,ht⟩:=ht
 obtain ⟨as,h1,h2⟩:=open_trod 12 t sh fuel _ _ h ht hz
 have row:(∃ cs,v=.agg cs)→isRow P t=true→∃ a,TR W (fun c=>c < W.heap.size) a v∧FitsArg (isRow P t,sh) a:=by
  rintro ⟨cs,rfl⟩ hr
  rw [hr]
  exact ⟨.agg as,.agg (vs:=cs.toList) h1,.row h2⟩
 have one:v.cells.toList=[v]→isRow P t=false→∃ a,TR W (fun c=>c < W.heap.size) a v∧FitsArg (isRow P t,sh) a:=by
  intro hc hr
  rw [hr]
  rw [hc] at h1
  cases h1 with
  | cons k t'=>cases t' with
   | nil=>exact ⟨_,k,.one h2⟩
 unfold shapeTy at h
 unfold Value.okWide at hv
 unfold isRow at row one ⊢
 split at h
 all_goals (try (rename_i hu;rw [hu] at hv row one ⊢;simp only at hv row one ⊢))
 · exact one (by unfold Cell.okWide at hv;rw [hu] at hv;cases v <;> simp_all [Cell.ok,Value.cells]) trivial
 · exact one (by unfold Cell.okWide at hv;rw [hu] at hv;cases v <;> simp_all [Cell.ok,Value.cells]) trivial
 · exact one (by unfold Cell.okWide at hv;rw [hu] at hv;cases v <;> simp_all [Cell.ok,Value.cells]) trivial
 · exact one (by unfold Cell.okWide at hv;rw [hu] at hv;cases v <;> simp_all [Cell.ok,Value.cells]) trivial
 · obtain ⟨cs,e,_⟩:=hv;exact row ⟨cs,e⟩ trivial
 · obtain ⟨cs,e,_⟩:=hv;exact row ⟨cs,e⟩ trivial
 · cases h
theorem open_args {base:Nat}:∀ {ts:List TypeId} {vs:List Value} {ds:List (DataW H)} {ps:List MemPlace} {shs:List (Bool × Sh)},argShapes P ts=some shs →
 (∀ (j:Nat) (t:TypeId) (v:Value),ts[j]?=some t→vs[j]?=some v→Value.okWide P W .any base t v)→DataW.TrodAll enc P W 0 (fun _=>true) true ts vs ds ps→(∀ n ∈ DataW.weightsEach P ts ds,n≤reachBytes) →
 ∃ as,TRs W (fun c=>c < W.heap.size) as vs∧FitsArgs shs as
 | [],[],[],_,shs,h,_,_,_=>by
  simp only [argShapes,Option.some.injEq] at h
  subst h
  exact ⟨[],.nil,.nil⟩
 | t :: ts,v :: vs,d :: ds,ps,shs,h,hv,⟨p,q,h1,h2,_⟩,hz=>by
  simp only [argShapes,Option.bind_eq_some_iff,Option.map_eq_some_iff] at h
  obtain ⟨s,k1,shs',k2,rfl⟩:=h
  obtain ⟨a,a1,a2⟩:=open_arg k1 (hv 0 t v rfl rfl) h1 fun n hn=>hz n (by unfold DataW.weightsEach;exact List.mem_append_left _ hn)
  obtain ⟨as,b1,b2⟩:=open_args k2 (fun j t v e1 e2=>hv (j + 1) t v (by simpa using e1) (by simpa using e2)) h2 fun n hn=>hz n (by unfold DataW.weightsEach;exact List.mem_append_right _ hn)
  exact ⟨a :: as,.cons a1 b1,.cons a2 b2⟩
 | [],_ :: _,_,_,_,_,_,h,_=>by cases h
 | _ :: _,[],_,_,_,_,_,h,_=>by cases h
 | [],[],_ :: _,_,_,_,_,h,_=>by cases h
 | _ :: _,_ :: _,[],_,_,_,_,h,_=>by cases h
theorem below_trods {spare:Nat→Bool} (hl:laidOutB P=true) {W':World} (hb:Below W.heap.size W W'):∀ {ts:List TypeId} {vs:List Value} {ds:List (DataW H)} {ps:List MemPlace},(∀ t ∈ ts,P.readableRec t=true∧t < P.types.size) →
 DataW.TrodAll enc P W 0 (fun _=>true) true ts vs ds ps→DataW.TrodAll enc P W' 0 (fun b=>decide (b < W.heap.size)) true ts vs ds ps
 | [],[],[],_,_,h=>h
 | t :: ts,v :: vs,d :: ds,ps,hr,⟨p,q,h1,h2,h3⟩=>⟨p,q,Below.trod hl (hr t (.head _)).1 (hr t (.head _)).2 h1 hb (by
  obtain ⟨n,hn⟩:=h1
  exact DataW.trod_lt _ _ _ _ hn),below_trods (spare:=spare) hl hb (fun t ht=>hr t (.tail _ ht)) h2,h3⟩
 | [],_ :: _,_,_,_,h=>by cases h
 | _ :: _,[],_,_,_,h=>by cases h
 | [],[],_ :: _,_,_,h=>by cases h
 | _ :: _,_ :: _,[],_,_,h=>by cases h
end
end Go.Proofs.YtgbnbgkldeifkaaGreatA
/- From the small machine's run to what is said of a law. No statement about the program is proved here. -/
namespace Go.Proofs.YtgbnbgkldeifkaaGreatA
open Go Go.RowKit Go.ChangeShapes Go.WideShapes Go.ChangeAt
set_option linter.unusedVariables false
theorem law_calls {P:Program} {E:AEnv} (hE:EnvOK P E) {fd:AFun} {W:World} {f:FuncId} {as:List AV} {vs:Array Value} {n:Nat} {r:AV} {H':Heap} (hfd:E.fn f=some (.code fd)) (hv:TRs W (fun c=>c < W.heap.size) as vs.toList) (h:callF E (exec E n) f as 0 []=some (r,H')) :
 Calls P f vs W fun e W'=>(∃ v' μ',e=.returned v'∧VR W (fun c=>c < W.heap.size) μ' r v')∧Below W.heap.size W W':=by
 have hr0:HR W (fun c=>c < W.heap.size) [] [] W:=⟨rfl,Nat.le_refl _,fun c hc=>⟨hc,rfl⟩,fun b loc e=>by simp at e,fun b b' l l' _ _ e=>by simp at e⟩
 refine (call_sim hE n W (fun c=>c < W.heap.size) [] [] W 0 f as vs r H' (fun g e=>by rw [hfd] at e;cases e) hr0 hv.toVRs h).mono ?_
 rintro e w' ⟨v',μ',rfl,hp,hv'⟩
 exact ⟨⟨v',μ',rfl,hv'⟩,hp.os,hp.tape,hp.output,hp.size,fun k hk=>hp.frame k hk (noOwn (Nat.le_refl _))⟩
theorem trodAll_len {H:Type} {enc:TypeId × Value→H} {P:Program} {w:World} {base:Nat} {spare:Nat→Bool} {held:Bool}:∀ {ts:List TypeId} {vs:List Value} {ds:List (DataW H)} {ps:List MemPlace},DataW.TrodAll enc P w base spare held ts vs ds ps→ds.length=ts.length
 | [],[],[],_,_=>rfl
 | _ :: _,_ :: _,_ :: _,_,⟨_,_,_,h,_⟩=>by simp [trodAll_len h]
 | [],_ :: _,_,_,h=>by cases h
 | _ :: _,[],_,_,h=>by cases h
 | [],[],_ :: _,_,h=>by cases h
 | _ :: _,_ :: _,[],_,h=>by cases h
theorem law_lifted {C:Checked} {E:AEnv} (hE:EnvOK C.prog E) {fd:AFun} {f:FuncId} (hfd:E.fn f=some (.code fd)) {fn:Func} {s:ChangeSpec} {conds:List PathCond} {shs:List (Bool × Sh)} {tb:TypeId} {os:Os} {H:Type} {enc:TypeId × Value→H}
 (own:ownKnob C.prog.godebug=none) (started:os.Started) (noInit:C.prog.inits.idxOf? f=none) (hfn:C.prog.funcs[f]?=some fn)
 (witness:∃ (w:World) (tape:Tape) (i:Input),w.os=os∧(w.forCall tape i).Shaped C.prog∧i.vars=[]∧Input.okWide C.prog (w.forCall tape i) .any w.heap.size f i ∧
  s.pre6 enc C.prog fn conds false (w.forCall tape i).memory i.args∧({}:Assume).holds C.prog (lone (Frame.enter C.prog f i.args .normal) [] (w.forCall tape i)))
 (hl:laidOutB C.prog=true) (hp:∀ t ∈ fn.params.toList,C.prog.readableRec t=true∧t < C.prog.types.size) (hsh:argShapes C.prog fn.params.toList=some shs)
 (hv:s.vars=[]) (hr:fn.resultTypes=#[tb]) (hb:C.prog.underlying tb=some .bool)
 (hs:∀ ds:List (DataW H),ds.length=fn.params.size→s.fn H ds={ results:=[.lit (.bool true)],args:=ds })
 (hlaw:∀ as,FitsArgs shs as→∃ n H',callF E (exec E n) f as 0 []=some (.bool true,H')) :
 ReturnsInHanded {} C os f .any (s.pre6 enc C.prog fn conds false) (s.post enc C.prog fn false true false false):=by
 refine returnsInHanded_of_change_sized (C:=C) own started noInit hfn witness ?_
 intro W base args ds gs before hval hW hcnd hsz _
 have hW':=hW
 obtain ⟨p,q,hA,hV,rfl,hfz,hnd⟩:=hW
 rw [hv] at hV
 obtain ⟨rfl,rfl⟩:=trodVars_none hV
 rw [List.append_nil] at hsz
 have hlen:=trodAll_len hA
 have hz:∀ n ∈ DataW.weightsEach C.prog fn.params.toList ds,n≤reachBytes:=fun n hn=>by
  have hz0:=List.all_eq_true.1 hsz n (by
   have:s.plain.varTypes C.prog=[]:=by simp [ChangeSpec.plain,DataSpec.varTypes,hv]
   rw [this,List.append_nil]
   exact hn)
  simpa using hz0
 obtain ⟨as,h1,h2⟩:=open_args (base:=base) hsh (fun j t v e1 e2=>hval j t v (by simpa using e1) (by simpa using e2)) hA hz
 obtain ⟨n,H',h3⟩:=hlaw as h2
 refine (law_calls hE hfd h1 h3).mono fun e W' ⟨⟨v',μ',he,hv'⟩,bel⟩=>?_
 cases hv'
 have e1:s.fn H (ds++[])={ results:=[.lit (.bool true)],args:=ds }:=by rw [List.append_nil];exact hs ds (by simpa using hlen)
 refine ⟨_,he,ds,[],p++[],[],p,[],hW',?_,?_,?_,bel.frame _,fun h=>by cases h⟩
 · rw [e1,hr]
   exact trodAll_mk1 (shut_bool hb true)
 · rw [e1]
   exact below_trods (spare:=fun _=>true) hl bel hp hA
 · rw [e1,hv]
   rfl
end Go.Proofs.YtgbnbgkldeifkaaGreatA
/- More fuel does no harm; the small twin of a program, put together. No statement about the program is proved here. -/
namespace Go.Proofs.YtgbnbgkldeifkaaGreatA
open Go Go.RowKit
set_option linter.unusedVariables false
def CodeOK (P:Program) (f:Nat) (fd:AFun):Prop :=
 ∃ fn c h,Entered P f fn∧fn.body=some c∧fd.body=(lowC P c h).1∧fd.ntmps=fn.ntmps∧lowRes P fn.results.toList=some fd.results
def FnGood (P:Program) (f:Nat):AF→Prop
 | .code fd=>CodeOK P f fd
 | .prim g=>(∃ fn,Entered P f fn)∧PrimOK P f g
 | .ext g=>ExtOK P f g
def MethGood (P:Program) (t:Nat) (name:String) (f:Nat):Option (Option Nat)→Prop
 | none=>∀ v w,(method (P.types.size + Made.depth) t v name).run P w=.ok (f,v) w
 | some n=>∃ e,shp P e=some n∧∀ a w,(method (P.types.size + Made.depth) t (.pointer (some a)) name).run P w=(do let r ← loadVar e a;pure (f,r):Sem (FuncId × Value)).run P w
def findF:List (Nat × AF)→Nat→Option AF
 | [],_=>none
 | (k,x) :: r,f=>if k=f then some x else findF r f
def findM:List (Nat × String × Nat × Option (Option Nat))→Nat→String→Option (Nat × Option (Option Nat))
 | [],_,_=>none
 | (t,n,x) :: r,t',n'=>if t=t'∧n=n' then some x else findM r t' n'
def mkEnv (fs:List (Nat × AF)) (ms:List (Nat × String × Nat × Option (Option Nat))):AEnv:=⟨findF fs,findM ms⟩
inductive AllF (P:Program):List (Nat × AF)→Prop
 | nil:AllF P []
 | code {f fd r} (h:CodeOK P f fd) (t:AllF P r):AllF P ((f,.code fd) :: r)
 | prim {f g fn r} (h:Entered P f fn) (k:PrimOK P f g) (t:AllF P r):AllF P ((f,.prim g) :: r)
 | ext {f g r} (k:ExtOK P f g) (t:AllF P r):AllF P ((f,.ext g) :: r)
inductive AllM (P:Program):List (Nat × String × Nat × Option (Option Nat))→Prop
 | nil:AllM P []
 | cons {t n f k r} (h:MethGood P t n f k) (tl:AllM P r):AllM P ((t,n,f,k) :: r)
theorem AllF.get {P:Program}:∀ {fs:List (Nat × AF)},AllF P fs→∀ {f:Nat} {x:AF},findF fs f=some x→FnGood P f x
 | _,.nil,f,x,h=>by cases h
 | _,.code k t,f,x,h=>by
  simp only [findF] at h
  split at h
  · rename_i e;subst e;cases h;exact k
  · exact AllF.get t h
 | _,.prim k k' t,f,x,h=>by
  simp only [findF] at h
  split at h
  · rename_i e;subst e;cases h;exact ⟨⟨_,k⟩,k'⟩
  · exact AllF.get t h
 | _,.ext k t,f,x,h=>by
  simp only [findF] at h
  split at h
  · rename_i e;subst e;cases h;exact k
  · exact AllF.get t h
theorem AllM.get {P:Program}:∀ {ms:List (Nat × String × Nat × Option (Option Nat))},AllM P ms→∀ {t:Nat} {n:String} {f:Nat} {k:Option (Option Nat)},findM ms t n=some (f,k)→MethGood P t n f k
 | _,.nil,_,_,_,_,h=>by cases h
 | _,.cons k tl,_,_,_,_,h=>by
  simp only [findM] at h
  split at h
  · rename_i e;obtain ⟨rfl,rfl⟩:=e;cases h;exact k
  · exact AllM.get tl h
theorem env_ok {P:Program} {fs:List (Nat × AF)} {ms:List (Nat × String × Nat × Option (Option Nat))} (hm:P.follows .mixedOrders=true) (h:AllF P fs) (k:AllM P ms):EnvOK P (mkEnv fs ms) where
 mixed:=hm
 code:=fun f fd e=>h.get e
 prim:=fun f g e=>h.get e
 ext:=fun f g e=>h.get e
 meth0:=fun t n f e=>k.get e
 meth1:=fun t n f m e=>k.get e
def exLe (ex ex':AC→Nat→Tmps→Heap→Step):Prop:=∀ c lim T H r,ex c lim T H=some r→ex' c lim T H=some r
section
variable {E:AEnv} {ex ex':AC→Nat→Tmps→Heap→Step}
theorem callF_mono (h:exLe ex ex') {f:Nat} {as:List AV} {lim:Nat} {H:Heap} {r:AV × Heap} (k:callF E ex f as lim H=some r):callF E ex' f as lim H=some r:=by
 unfold callF at k ⊢
 cases e:E.fn f with
 | none=>rw [e] at k;cases k
 | some x =>
  rw [e] at k
  cases x with
  | prim g=>exact k
  | ext g=>exact k
  | code fd =>
   simp only at k ⊢
   cases hm:fd.mode with
   | heap =>
    rw [hm] at k
    simp only at k ⊢
    cases e1:ex fd.body lim (as++List.replicate (fd.ntmps - as.length) .noval) H with
    | none=>rw [e1] at k;cases k
    | some y=>rw [e1] at k;rw [h _ _ _ _ _ e1];exact k
   | pure =>
    rw [hm] at k
    simp only [Option.bind_eq_some_iff] at k ⊢
    obtain ⟨ds,k1,k2⟩:=k
    refine ⟨ds,k1,?_⟩
    cases e1:ex fd.body 0 (ds++List.replicate (fd.ntmps - as.length) .noval) [] with
    | none=>rw [e1] at k2;cases k2
    | some y=>rw [e1] at k2;rw [h _ _ _ _ _ e1];exact k2
theorem runOp_mono (h:exLe ex ex') {lim:Nat} {T:Tmps} {H:Heap} {o:AOp} {r:AV × Heap} (k:runOp E ex lim T H o=some r):runOp E ex' lim T H o=some r:=by
 cases o
 case call c as =>
  simp only [runOp,Option.bind_eq_some_iff] at k ⊢
  obtain ⟨x,k1,k2⟩:=k
  exact ⟨x,k1,callF_mono h k2⟩
 all_goals exact k
theorem stepOp_mono (h:exLe ex ex') {lim:Nat} {T:Tmps} {H:Heap} {o:AOper} {r:Tmps × Heap} (k:stepOp E ex lim o T H=some r):stepOp E ex' lim o T H=some r:=by
 simp only [stepOp,Option.bind_eq_some_iff] at k ⊢
 obtain ⟨b,k1,k2⟩:=k
 refine ⟨b,k1,?_⟩
 cases b with
 | false=>exact k2
 | true =>
  simp only [Option.map_eq_some_iff] at k2 ⊢
  obtain ⟨x,k3,k4⟩:=k2
  exact ⟨x,runOp_mono h k3,k4⟩
theorem runOps_mono (h:exLe ex ex') {lim:Nat}:∀ {os:List AOper} {T:Tmps} {H:Heap} {r:Tmps × Heap},runOps E ex lim os T H=some r→runOps E ex' lim os T H=some r
 | [],_,_,_,k=>k
 | o :: os,T,H,r,k=>by
  simp only [runOps,Option.bind_eq_some_iff] at k ⊢
  obtain ⟨x,k1,k2⟩:=k
  exact ⟨x,stepOp_mono h k1,runOps_mono h k2⟩
theorem stepD_mono (h:exLe ex ex') {lim:Nat} {B:Option (List Nat)} {b:Bool} {T:Tmps} {H:Heap} {o:AOper} {r:Tmps × Heap} (k:stepD E ex lim B b o T H=some r):stepD E ex' lim B b o T H=some r:=by
 unfold stepD at k ⊢
 cases b with
 | true =>
  simp only [if_true,Option.bind_eq_some_iff] at k ⊢
  obtain ⟨x,k1,k2⟩:=k
  exact ⟨x,stepOp_mono h k1,k2⟩
 | false =>
  simp only [Bool.false_eq_true,if_false] at k ⊢
  split at k
  case isFalse=>cases k
  rename_i hsn
  rw [if_pos hsn]
  simp only [Option.map_eq_some_iff] at k ⊢
  obtain ⟨x,k1,k2⟩:=k
  exact ⟨x,stepOp_mono h k1,k2⟩
theorem runDraw_mono (h:exLe ex ex') {lim:Nat} {B:Option (List Nat)}:∀ {os:List (Bool × AOper)} {T:Tmps} {H:Heap} {r:Tmps × Heap},runDraw E ex lim B os T H=some r→runDraw E ex' lim B os T H=some r
 | [],_,_,_,k=>k
 | (b,o) :: os,T,H,r,k=>by
  simp only [runDraw,Option.bind_eq_some_iff] at k ⊢
  obtain ⟨x,k1,k2⟩:=k
  exact ⟨x,stepD_mono h k1,runDraw_mono h k2⟩
end
theorem exec_succ {E:AEnv}:∀ n,exLe (exec E n) (exec E (n + 1))
 | 0=>fun c lim T H r h=>by simp [exec] at h
 | n + 1=>fun c lim T H r h=>by
  have ih:=exec_succ (E:=E) n
  cases c with
  | skip=>exact h
  | ret=>exact h
  | exit id=>exact h
  | kill ts=>exact h
  | fail=>exact h
  | region ops =>
   simp only [exec,Option.map_eq_some_iff] at h ⊢
   obtain ⟨x,h1,h2⟩:=h
   exact ⟨x,runOps_mono ih h1,h2⟩
  | draw hs ops =>
   simp only [exec] at h ⊢
   split at h
   case isFalse=>cases h
   rename_i hle
   rw [if_pos hle]
   simp only [Option.bind_eq_some_iff,Option.map_eq_some_iff] at h ⊢
   obtain ⟨B,hB,x,h1,h2⟩:=h
   exact ⟨B,hB,x,runDraw_mono ih h1,h2⟩
  | seq a b =>
   rw [exec] at h ⊢
   cases e:exec E n a lim T H with
   | none=>rw [e] at h;cases h
   | some y =>
    obtain ⟨x,T1,H1⟩:=y
    rw [e] at h
    rw [ih _ _ _ _ _ e]
    cases x with
    | normal=>exact ih _ _ _ _ _ h
    | ret=>exact h
    | exit id=>exact h
  | cond c t e =>
   rw [exec] at h ⊢
   split at h
   · exact ih _ _ _ _ _ h
   · cases h
  | block id b =>
   simp only [exec,Option.map_eq_some_iff] at h ⊢
   obtain ⟨x,h1,h2⟩:=h
   exact ⟨x,ih _ _ _ _ _ h1,h2⟩
  | loop b =>
   rw [exec] at h ⊢
   cases e:exec E n b lim T H with
   | none=>rw [e] at h;cases h
   | some y =>
    obtain ⟨x,T1,H1⟩:=y
    rw [e] at h
    rw [ih _ _ _ _ _ e]
    cases x with
    | normal=>exact ih _ _ _ _ _ h
    | ret=>exact h
    | exit id=>exact h
theorem exec_mono {E:AEnv} {n m:Nat} (h:n≤m):exLe (exec E n) (exec E m):=by
 induction h with
 | refl=>exact fun _ _ _ _ _ h=>h
 | step _ ih=>exact fun c lim T H r h=>exec_succ _ _ _ _ _ _ (ih _ _ _ _ _ h)
def Ev (E:AEnv) (c:AC) (lim:Nat) (T:Tmps) (H:Heap) (x:AExit) (T':Tmps) (H':Heap):Prop:=∃ n,exec E n c lim T H=some (x,T',H')
def Cl (E:AEnv) (f:Nat) (as:List AV) (lim:Nat) (H:Heap) (r:AV) (H':Heap):Prop:=∃ n,callF E (exec E n) f as lim H=some (r,H')
def Op1 (E:AEnv) (o:AOper) (lim:Nat) (T:Tmps) (H:Heap) (T':Tmps) (H':Heap):Prop:=∃ n,stepOp E (exec E n) lim o T H=some (T',H')
def Ops (E:AEnv) (os:List AOper) (lim:Nat) (T:Tmps) (H:Heap) (T':Tmps) (H':Heap):Prop:=∃ n,runOps E (exec E n) lim os T H=some (T',H')
def Drs (E:AEnv) (os:List (Bool × AOper)) (lim:Nat) (T:Tmps) (H:Heap) (T':Tmps) (H':Heap):Prop:=∃ n,runDraw E (exec E n) lim none os T H=some (T',H')
section
variable {E:AEnv} {lim:Nat} {T T1 T':Tmps} {H H1 H':Heap}
theorem Op1.plain {o:AOper} {R:Tmps × Heap} (h:stepOp E (fun _ _ _ _=>none) lim o T H=some R):Op1 E o lim T H R.1 R.2 :=
 ⟨0,stepOp_mono (fun _ _ _ _ _ h=>by cases h) h⟩
theorem Op1.call {dst:Option Nat} {g:Option (Nat × Bool)} {c:ACallee} {xs:List AX} {f:Nat} {as:List AV} {r:AV} (hg:wantedA T g=some true) (hc:callee E H T c (xs.map (·.ev T))=some (f,as)) (h:Cl E f as lim H r H') :
 Op1 E ⟨dst,g,.call c xs⟩ lim T H (putT T dst r) H':=by
 obtain ⟨n,h⟩:=h
 refine ⟨n,?_⟩
 simp only [stepOp,hg,Option.bind_some,runOp,hc,h,Option.map_some]
theorem Ops.nil:Ops E [] lim T H T H:=⟨0,rfl⟩
theorem Ops.cons {o:AOper} {os:List AOper} (h:Op1 E o lim T H T1 H1) (k:Ops E os lim T1 H1 T' H'):Ops E (o :: os) lim T H T' H':=by
 obtain ⟨n,h⟩:=h
 obtain ⟨m,k⟩:=k
 refine ⟨n + m,?_⟩
 simp only [runOps,stepOp_mono (exec_mono (Nat.le_add_right n m)) h,Option.bind_some]
 exact runOps_mono (exec_mono (Nat.le_add_left m n)) k
theorem Drs.nil:Drs E [] lim T H T H:=⟨0,rfl⟩
theorem Drs.solo {o:AOper} {os:List (Bool × AOper)} (h:Op1 E o lim T H T1 H1) (hl:H.length≤H1.length) (k:Drs E os lim T1 H1 T' H'):Drs E ((true,o) :: os) lim T H T' H':=by
 obtain ⟨n,h⟩:=h
 obtain ⟨m,k⟩:=k
 refine ⟨n + m,?_⟩
 simp only [runDraw,stepD,hideO,unhideO,if_true,stepOp_mono (exec_mono (Nat.le_add_right n m)) h,Option.bind_some,if_pos hl]
 exact runDraw_mono (exec_mono (Nat.le_add_left m n)) k
theorem Drs.soft {o:AOper} {os:List (Bool × AOper)} (h:Op1 E o H.length T H T1 H1) (k:Drs E os lim T1 (H++H1.drop H.length) T' H'):Drs E ((false,o) :: os) lim T H T' H':=by
 obtain ⟨n,h⟩:=h
 obtain ⟨m,k⟩:=k
 refine ⟨n + m,?_⟩
 simp only [runDraw,stepD,seen,if_true,Bool.false_eq_true,if_false,stepOp_mono (exec_mono (Nat.le_add_right n m)) h,Option.map_some,Option.bind_some]
 exact runDraw_mono (exec_mono (Nat.le_add_left m n)) k
theorem Ev.skip:Ev E .skip lim T H .normal T H:=⟨1,rfl⟩
theorem Ev.ret:Ev E .ret lim T H .ret T H:=⟨1,rfl⟩
theorem Ev.exit {id:Nat}:Ev E (.exit id) lim T H (.exit id) T H:=⟨1,rfl⟩
theorem Ev.kill {ts:List Nat}:Ev E (.kill ts) lim T H .normal (killT T ts) H:=⟨1,rfl⟩
theorem Ev.region {os:List AOper} (h:Ops E os lim T H T' H'):Ev E (.region os) lim T H .normal T' H':=by
 obtain ⟨n,h⟩:=h
 exact ⟨n + 1,by simp only [exec,h,Option.map_some]⟩
theorem Ev.draw {os:List (Bool × AOper)} (hl:lim≤H.length) (h:Drs E os lim T H T' H'):Ev E (.draw [] os) lim T H .normal T' H':=by
 obtain ⟨n,h⟩:=h
 exact ⟨n + 1,by simp only [exec,if_pos hl,hidden,Option.bind_some,h,Option.map_some]⟩
theorem Ev.seq {a b:AC} {x:AExit} (h:Ev E a lim T H .normal T1 H1) (k:Ev E b lim T1 H1 x T' H'):Ev E (.seq a b) lim T H x T' H':=by
 obtain ⟨n,h⟩:=h
 obtain ⟨m,k⟩:=k
 refine ⟨n + m + 1,?_⟩
 rw [exec,exec_mono (Nat.le_add_right n m) _ _ _ _ _ h]
 exact exec_mono (Nat.le_add_left m n) _ _ _ _ _ k
theorem Ev.seqx {a b:AC} {x:AExit} (h:Ev E a lim T H x T' H') (hx:x ≠ .normal):Ev E (.seq a b) lim T H x T' H':=by
 obtain ⟨n,h⟩:=h
 refine ⟨n + 1,?_⟩
 rw [exec,h]
 cases x with
 | normal=>exact absurd rfl hx
 | ret=>rfl
 | exit id=>rfl
theorem Ev.cond {c:AX} {t e:AC} {b:Bool} {x:AExit} (hc:c.ev T=.bool b) (h:Ev E (if b then t else e) lim T H x T' H'):Ev E (.cond c t e) lim T H x T' H':=by
 obtain ⟨n,h⟩:=h
 refine ⟨n + 1,?_⟩
 rw [exec,hc]
 exact h
theorem Ev.block {id:Nat} {b:AC} {x:AExit} (h:Ev E b lim T H x T' H'):Ev E (.block id b) lim T H (if x=.exit id then .normal else x) T' H':=by
 obtain ⟨n,h⟩:=h
 refine ⟨n + 1,?_⟩
 rw [exec,h]
 cases x with
 | normal=>rfl
 | ret=>rfl
 | exit j =>
  simp only [Option.map_some,AExit.exit.injEq]
theorem Ev.loop {b:AC} {x:AExit} (h:Ev E b lim T H .normal T1 H1) (k:Ev E (.loop b) lim T1 H1 x T' H'):Ev E (.loop b) lim T H x T' H':=by
 obtain ⟨n,h⟩:=h
 obtain ⟨m,k⟩:=k
 refine ⟨n + m + 1,?_⟩
 rw [exec,exec_mono (Nat.le_add_right n m) _ _ _ _ _ h]
 exact exec_mono (Nat.le_add_left m n) _ _ _ _ _ k
theorem Ev.loopx {b:AC} {x:AExit} (h:Ev E b lim T H x T' H') (hx:x ≠ .normal):Ev E (.loop b) lim T H x T' H':=by
 obtain ⟨n,h⟩:=h
 refine ⟨n + 1,?_⟩
 rw [exec,h]
 cases x with
 | normal=>exact absurd rfl hx
 | ret=>rfl
 | exit id=>rfl
theorem Cl.heap {f:Nat} {fd:AFun} {as:List AV} {x:AExit} {r:AV} (hf:E.fn f=some (.code fd)) (hm:fd.mode=.heap) (h:Ev E fd.body lim (as++List.replicate (fd.ntmps - as.length) .noval) H x T' H') (hx:x=.normal∨x=.ret) (hr:resAll H' T' fd.results=some r):Cl E f as lim H r H':=by
 obtain ⟨n,h⟩:=h
 refine ⟨n,?_⟩
 unfold callF
 rw [hf]
 simp only [hm,h]
 rcases hx with rfl | rfl <;> simp only [hr,Option.map_some]
theorem Cl.pure {f:Nat} {fd:AFun} {as ds:List AV} {x:AExit} {v d:AV} {used:List Nat} (hf:E.fn f=some (.code fd)) (hm:fd.mode=.pure) (hd:mapO (frz H deep) as=some ds) (h:Ev E fd.body 0 (ds++List.replicate (fd.ntmps - as.length) .noval) [] x T' H') (hx:x=.normal∨x=.ret) (hr:resAll H' T' fd.results=some v)
 (ho:own H' deep v=some (d,used)) (hn:noTwo used=true):Cl E f as lim H (thaw d H).1 (thaw d H).2:=by
 obtain ⟨n,h⟩:=h
 refine ⟨n,?_⟩
 unfold callF
 rw [hf]
 simp only [hm,hd,Option.bind_some,h]
 rcases hx with rfl | rfl <;> simp only [hr,ho,Option.bind_some,hn,if_true]
end
end Go.Proofs.YtgbnbgkldeifkaaGreatA

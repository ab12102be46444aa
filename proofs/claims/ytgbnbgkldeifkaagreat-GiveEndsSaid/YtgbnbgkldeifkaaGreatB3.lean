/- The small machine, part B3. No statement about the program is proved here. -/
import Derived.Test.YtgbnbgkldeifkaaGreatB2
import Derived.Lib.Overlaps
import Derived.Laws.Externs
/- slices.Insert and slices.overlaps, as the small machine does them. No statement about the program is proved here. -/
namespace Go.Proofs.YtgbnbgkldeifkaaGreatA
open Go Go.RowKit
set_option linter.unusedVariables false
def insertG (es bytes:Nat):List AV→Nat→Heap→Option (AV × Heap)
 | [s,.int .i64 i,v],lim,H =>
  (elems H es v).bind fun (m,new) =>
   match v,s with
   | .sl b' _ _ _,.nilsl=>if i=0∧m=1∧0 < es∧bytes≤most∧new.all AV.one=true then some (.sl H.length 0 1 es,H++[.cells true new]) else none
   | .sl b' _ _ _,.sl b o n es' =>
    if es'=es∧0 < es∧m=1∧lim≤b∧(n + 1) * bytes≤most∧n + 1≤most∧new.all AV.one=true∧b' ≠ b∧0≤i∧i≤(n:Int) then
     match H[b]? with
     | some (.cells true cs)=>if o + n * es=cs.length then some (.sl H.length 0 (n + 1) es,H.set b .dead++[.cells true ((cs.drop o).take (i.toNat * es)++new++cs.drop (o + i.toNat * es))]) else none
     | _=>none
    else none
   | _,_=>none
 | _,_,_=>none
def rowAt:AV→Option (Nat × Nat)
 | .sl b o n _=>some (b,n)
 | .slc b o n _ _=>some (b,n)
 | _=>none
def isRow1 (H:Heap) (b:Nat):Bool:=match H[b]? with | some (.cells _ (_ :: _))=>true | _=>false
def overlapsG:List AV→Heap→Option AV
 | [x,y],H=>(rowAt x).bind fun (b,n)=>(rowAt y).bind fun (b',n')=>if b ≠ b'∧0 < n∧0 < n'∧isRow1 H b=true∧isRow1 H b'=true then some (.bool false) else none
 | _,_=>none
section
variable {w0:World} {ro:Nat→Prop} {P:Program} {μ:Mu} {H:Heap} {w:World}
theorem rowAt_VR {x:AV} {v:Value} {b n:Nat} (hx:VR w0 ro μ x v) (h:rowAt x=some (b,n)) (hn:0 < n):∃ loc off cap,μ[b]?=some (some loc)∧v=.slice (some ⟨loc.c,loc.k + off,none⟩) n cap:=by
 cases hx <;> simp only [rowAt,reduceCtorEq,Option.some.injEq,Prod.mk.injEq] at h
 case sl hm hn' hc=>obtain ⟨rfl,rfl⟩:=h;exact ⟨_,_,_,hm,rfl⟩
 case sl0 a=>omega
 case slc hm hn' hc=>obtain ⟨rfl,rfl⟩:=h;exact ⟨_,_,_,hm,rfl⟩
theorem isRow1_BR (hr:HR w0 ro μ H w) {b:Nat} {loc:Loc} (h:isRow1 H b=true) (hm:μ[b]?=some (some loc)):∃ arr t,w.heap[loc.c]?=some (.cells arr t (0,0))∧arr.size ≠ 0∧alive H b:=by
 have hb:=hr.blk b loc hm
 unfold isRow1 at h
 split at h
 · rename_i g c cs e
   rw [e] at hb
   obtain ⟨_,arr,t,h1,h2,h3,_⟩:=hb
   simp only [List.length_cons] at h3
   exact ⟨arr,t,h1,by omega,.inl ⟨g,_,e⟩⟩
 · cases h
theorem overlaps_ok {f : Nat} {fn : Func} {tS tR e : TypeId} (hf : P.funcs[f]? = some fn) (hname : (fn.name == "runtime.NumGoroutine") = false) (hb : fn.body.isNone = true) (hn : Extern.findNext fn = none) (he : Extern.find fn = some (Extern.SlicesOverlaps.overlaps #[tS, tS] #[tR]))
 (ht:P.underlying tS=some (.slice e)) {size:Nat} (hs:sizeT P e=some size):ExtOK P f overlapsG:=by
 intro w0 ro μ H w as vs r hr hv h
 unfold overlapsG at h
 split at h
 · rename_i x y
   simp only [Option.bind_eq_some_iff] at h
   obtain ⟨⟨b,n⟩,h1,⟨b',n'⟩,h2,h3⟩:=h
   split at h3
   · rename_i q
     obtain ⟨q1,q2,q3,q4,q5⟩:=q
     cases h3
     obtain ⟨l⟩:=vs
     cases hv with
     | cons k t=>cases t with
      | cons k' t=>cases t with
       | nil =>
        obtain ⟨la,oa,ca,m1,rfl⟩:=rowAt_VR k h1 q2
        obtain ⟨lb,ob,cb,m2,rfl⟩:=rowAt_VR k' h2 q3
        obtain ⟨arr,t1,e1,_,a1⟩:=isRow1_BR hr q4 m1
        obtain ⟨arr',t2,e2,z2,a2⟩:=isRow1_BR hr q5 m2
        have hne:la.c ≠ lb.c:=fun e=>q1 (hr.inj b b' la lb a1 a2 m1 m2 e)
        refine ⟨.bool false,?_,.bool _⟩
        rw [run_callFunc_extern hf hname hb hn he,Go.Lib.run_overlaps_apart w tS tR e ht size (fun w=>run_sizeT hs w) ⟨la.c,la.k + oa,none⟩ ⟨lb.c,lb.k + ob,none⟩ n ca n' cb hne t1 t2 arr.size arr'.size
         (by simp [World.shape?,e1]) (by simp [World.shape?,e2]) z2 (by simp [World.frozen?,e1]) (by simp [World.frozen?,e1])]
        rfl
   · cases h3
 · cases h
end
end Go.Proofs.YtgbnbgkldeifkaaGreatA
/- Walking through the small machine's code. No statement about the program is proved here. -/
namespace Go.Proofs.YtgbnbgkldeifkaaGreatA
open Go Go.RowKit
set_option linter.unusedVariables false
def Wp (E:AEnv) (c:AC) (lim:Nat) (T:Tmps) (H:Heap) (K:AExit→Tmps→Heap→Prop):Prop:=∃ x T' H',Ev E c lim T H x T' H'∧K x T' H'
def WOps (E:AEnv) (os:List AOper) (lim:Nat) (T:Tmps) (H:Heap) (K:Tmps→Heap→Prop):Prop:=∃ T' H',Ops E os lim T H T' H'∧K T' H'
def WDrs (E:AEnv) (os:List (Bool × AOper)) (lim:Nat) (T:Tmps) (H:Heap) (K:Tmps→Heap→Prop):Prop:=∃ T' H',Drs E os lim T H T' H'∧K T' H'
def WCl (E:AEnv) (f:Nat) (as:List AV) (lim:Nat) (H:Heap) (K:AV→Heap→Prop):Prop:=∃ r H',Cl E f as lim H r H'∧K r H'
section
variable {E:AEnv} {lim:Nat} {T T1 T':Tmps} {H H1 H':Heap}
theorem WCl.of {f:Nat} {as:List AV} {r:AV} {K:AV→Heap→Prop} (h:Cl E f as lim H r H1) (k:K r H1):WCl E f as lim H K:=⟨r,H1,h,k⟩
theorem WCl.mono {f:Nat} {as:List AV} {K K':AV→Heap→Prop} (h:WCl E f as lim H K) (k:∀ r H',K r H'→K' r H'):WCl E f as lim H K':=by
 obtain ⟨r,H',h1,h2⟩:=h
 exact ⟨r,H',h1,k _ _ h2⟩
theorem Wp.mono {c:AC} {K K':AExit→Tmps→Heap→Prop} (h:Wp E c lim T H K) (k:∀ x T' H',K x T' H'→K' x T' H'):Wp E c lim T H K':=by
 obtain ⟨x,T',H',h1,h2⟩:=h
 exact ⟨x,T',H',h1,k _ _ _ h2⟩
theorem WOps.nil {K:Tmps→Heap→Prop} (h:K T H):WOps E [] lim T H K:=⟨T,H,Ops.nil,h⟩
theorem WOps.op {o:AOper} {os:List AOper} {K:Tmps→Heap→Prop} {R:Tmps × Heap} (h:stepOp E (fun _ _ _ _=>none) lim o T H=some R) (k:WOps E os lim R.1 R.2 K):WOps E (o :: os) lim T H K:=by
 obtain ⟨T',H',h1,h2⟩:=k
 exact ⟨T',H',Ops.cons (Op1.plain h) h1,h2⟩
theorem WOps.plain {dst:Option Nat} {op:AOp} {os:List AOper} {K:Tmps→Heap→Prop} {v:AV} (h:aop lim H T op=some (v,H1)) (k:WOps E os lim (putT T dst v) H1 K):WOps E (⟨dst,none,op⟩ :: os) lim T H K:=by
 refine WOps.op (R:=(putT T dst v,H1)) ?_ k
 have e:runOp E (fun _ _ _ _=>none) lim T H op=some (v,H1):=by
  cases op
  case call=>simp [aop] at h
  all_goals exact h
 simp only [stepOp,wantedA,Option.bind_some,e,Option.map_some]
theorem WOps.test {dst:Option Nat} {t:Nat} {want b:Bool} {op:AOp} {os:List AOper} {K:Tmps→Heap→Prop} (hT:T[t]?=some (.bool b)) (h1:b=want→WOps E (⟨dst,none,op⟩ :: os) lim T H K) (h2:b=!want→WOps E os lim (putT T dst .noval) H K):WOps E (⟨dst,some (t,want),op⟩ :: os) lim T H K:=by
 by_cases e:b=want
 · obtain ⟨T',H',⟨n,h3⟩,h4⟩:=h1 e
   refine ⟨T',H',⟨n,?_⟩,h4⟩
   simp only [runOps,stepOp,wantedA,hT,Option.bind_some] at h3 ⊢
   subst e
   simp only [beq_self_eq_true] at h3 ⊢
   exact h3
 · have e':b=!want:=by cases b <;> cases want <;> simp_all
   have e2:(b == want)=false:=by simpa using e
   obtain ⟨T',H',⟨n,h3⟩,h4⟩:=h2 e'
   refine ⟨T',H',⟨n,?_⟩,h4⟩
   simp only [runOps,stepOp,wantedA,hT,Option.bind_some,e2]
   exact h3
theorem WOps.pass {dst:Option Nat} {t:Nat} {want:Bool} {op:AOp} {os:List AOper} {K:Tmps→Heap→Prop} (hT:T[t]?=some .noval) (h:WOps E os lim (putT T dst .noval) H K):WOps E (⟨dst,some (t,want),op⟩ :: os) lim T H K:=by
 obtain ⟨T',H',⟨n,h3⟩,h4⟩:=h
 refine ⟨T',H',⟨n,?_⟩,h4⟩
 simp only [runOps,stepOp,wantedA,hT,Option.bind_some]
 exact h3
theorem WOps.call {dst:Option Nat} {c:ACallee} {xs:List AX} {os:List AOper} {K:Tmps→Heap→Prop} {f:Nat} {as:List AV} (hc:callee E H T c (xs.map (·.ev T))=some (f,as)) (h:WCl E f as lim H fun r H1=>WOps E os lim (putT T dst r) H1 K):WOps E (⟨dst,none,.call c xs⟩ :: os) lim T H K:=by
 obtain ⟨r,H1,h1,T',H',h2,h3⟩:=h
 exact ⟨T',H',Ops.cons (Op1.call rfl hc h1) h2,h3⟩
theorem WDrs.nil {K:Tmps→Heap→Prop} (h:K T H):WDrs E [] lim T H K:=⟨T,H,Drs.nil,h⟩
theorem WDrs.plain {b:Bool} {dst:Option Nat} {op:AOp} {os:List (Bool × AOper)} {K:Tmps→Heap→Prop} {v:AV} {H2:Heap} (h:aop (if b then lim else H.length) H T op=some (v,H1)) (he:(if b then (if H.length≤H1.length then some H1 else none) else some (H++H1.drop H.length))=some H2) (k:WDrs E os lim (putT T dst v) H2 K):WDrs E ((b,⟨dst,none,op⟩) :: os) lim T H K:=by
 have e:∀ l,aop l H T op=some (v,H1)→stepOp E (fun _ _ _ _=>none) l ⟨dst,none,op⟩ T H=some (putT T dst v,H1):=fun l h=>by
  have e:runOp E (fun _ _ _ _=>none) l T H op=some (v,H1):=by
   cases op
   case call=>simp [aop] at h
   all_goals exact h
  simp only [stepOp,wantedA,Option.bind_some,e,Option.map_some]
 obtain ⟨T',H',h1,h2⟩:=k
 cases b with
 | true =>
  simp only [if_true] at h he
  split at he
  · rename_i hl;cases he;exact ⟨T',H',Drs.solo (Op1.plain (e _ h)) hl h1,h2⟩
  · cases he
 | false =>
  simp only [Bool.false_eq_true,if_false,Option.some.injEq] at h he
  subst he
  exact ⟨T',H',Drs.soft (Op1.plain (e _ h)) h1,h2⟩
theorem WDrs.test {s:Bool} {dst:Option Nat} {t:Nat} {want b:Bool} {op:AOp} {os:List (Bool × AOper)} {K:Tmps→Heap→Prop} (hT:T[t]?=some (.bool b)) (h1:b=want→WDrs E ((s,⟨dst,none,op⟩) :: os) lim T H K) (h2:b=!want→WDrs E os lim (putT T dst .noval) H K):WDrs E ((s,⟨dst,some (t,want),op⟩) :: os) lim T H K:=by
 by_cases e:b=want
 · obtain ⟨T',H',⟨n,h3⟩,h4⟩:=h1 e
   refine ⟨T',H',⟨n,?_⟩,h4⟩
   simp only [runDraw,stepD,seen,hideO,unhideO,if_true,stepOp,wantedA,hT,Option.bind_some] at h3 ⊢
   subst e
   simp only [beq_self_eq_true] at h3 ⊢
   exact h3
 · have e':b=!want:=by cases b <;> cases want <;> simp_all
   have e2:(b == want)=false:=by simpa using e
   obtain ⟨T',H',⟨n,h3⟩,h4⟩:=h2 e'
   refine ⟨T',H',⟨n,?_⟩,h4⟩
   cases s <;> simp only [runDraw,stepD,seen,hideO,unhideO,stepOp,wantedA,hT,Option.bind_some,e2,Bool.false_eq_true,if_false,if_true,Nat.le_refl,Option.map_some,List.drop_length,List.append_nil] <;> exact h3
theorem WDrs.pass {s:Bool} {dst:Option Nat} {t:Nat} {want:Bool} {op:AOp} {os:List (Bool × AOper)} {K:Tmps→Heap→Prop} (hT:T[t]?=some .noval) (h:WDrs E os lim (putT T dst .noval) H K):WDrs E ((s,⟨dst,some (t,want),op⟩) :: os) lim T H K:=by
 obtain ⟨T',H',⟨n,h3⟩,h4⟩:=h
 refine ⟨T',H',⟨n,?_⟩,h4⟩
 cases s <;> simp only [runDraw,stepD,seen,hideO,unhideO,stepOp,wantedA,hT,Option.bind_some,Bool.false_eq_true,if_false,if_true,Nat.le_refl,Option.map_some,List.drop_length,List.append_nil] <;> exact h3
theorem WDrs.call {b:Bool} {dst:Option Nat} {c:ACallee} {xs:List AX} {os:List (Bool × AOper)} {K:Tmps→Heap→Prop} {f:Nat} {as:List AV} (hc:callee E H T c (xs.map (·.ev T))=some (f,as))
 (h:WCl E f as (if b then lim else H.length) H fun r H1=>∃ X,H1=H++X∧WDrs E os lim (putT T dst r) H1 K):WDrs E ((b,⟨dst,none,.call c xs⟩) :: os) lim T H K:=by
 obtain ⟨r,H1,h1,X,rfl,T',H',h2,h3⟩:=h
 cases b with
 | true=>exact ⟨T',H',Drs.solo (Op1.call rfl hc h1) (by simp) h2,h3⟩
 | false =>
  refine ⟨T',H',Drs.soft (Op1.call rfl hc h1) ?_,h3⟩
  rw [List.drop_left]
  exact h2
theorem Wp.skip {K:AExit→Tmps→Heap→Prop} (h:K .normal T H):Wp E .skip lim T H K:=⟨_,_,_,Ev.skip,h⟩
theorem Wp.ret {K:AExit→Tmps→Heap→Prop} (h:K .ret T H):Wp E .ret lim T H K:=⟨_,_,_,Ev.ret,h⟩
theorem Wp.exit {id:Nat} {K:AExit→Tmps→Heap→Prop} (h:K (.exit id) T H):Wp E (.exit id) lim T H K:=⟨_,_,_,Ev.exit,h⟩
theorem Wp.kill {ts:List Nat} {K:AExit→Tmps→Heap→Prop} (h:K .normal (killT T ts) H):Wp E (.kill ts) lim T H K:=⟨_,_,_,Ev.kill,h⟩
theorem Wp.region {os:List AOper} {K:AExit→Tmps→Heap→Prop} (h:WOps E os lim T H (K .normal)):Wp E (.region os) lim T H K:=by
 obtain ⟨T',H',h1,h2⟩:=h
 exact ⟨_,_,_,Ev.region h1,h2⟩
theorem Wp.draw {os:List (Bool × AOper)} {K:AExit→Tmps→Heap→Prop} (hl:lim≤H.length) (h:WDrs E os lim T H (K .normal)):Wp E (.draw [] os) lim T H K:=by
 obtain ⟨T',H',h1,h2⟩:=h
 exact ⟨_,_,_,Ev.draw hl h1,h2⟩
def andThen (k:Tmps→Heap→Prop) (K:AExit→Tmps→Heap→Prop):AExit→Tmps→Heap→Prop
 | .normal,T,H=>k T H
 | x,T,H=>K x T H
theorem Wp.seq {a b:AC} {K:AExit→Tmps→Heap→Prop} (h:Wp E a lim T H (andThen (fun T H=>Wp E b lim T H K) K)):Wp E (.seq a b) lim T H K:=by
 obtain ⟨x,T1,H1,h1,h2⟩:=h
 cases x with
 | normal =>
  obtain ⟨y,T2,H2,h3,h4⟩:=h2
  exact ⟨y,T2,H2,Ev.seq h1 h3,h4⟩
 | ret=>exact ⟨_,T1,H1,Ev.seqx h1 (by simp),h2⟩
 | exit id=>exact ⟨_,T1,H1,Ev.seqx h1 (by simp),h2⟩
theorem Wp.cond {c:AX} {t e:AC} {b:Bool} {K:AExit→Tmps→Heap→Prop} (hc:c.ev T=.bool b) (h1:b=true→Wp E t lim T H K) (h2:b=false→Wp E e lim T H K):Wp E (.cond c t e) lim T H K:=by
 cases b with
 | true =>
  obtain ⟨x,T',H',h3,h4⟩:=h1 rfl
  exact ⟨x,T',H',Ev.cond hc h3,h4⟩
 | false =>
  obtain ⟨x,T',H',h3,h4⟩:=h2 rfl
  exact ⟨x,T',H',Ev.cond hc h3,h4⟩
def inBlock (id:Nat) (K:AExit→Tmps→Heap→Prop):AExit→Tmps→Heap→Prop
 | .exit j,T,H=>if j=id then K .normal T H else K (.exit j) T H
 | x,T,H=>K x T H
theorem Wp.block {id:Nat} {b:AC} {K:AExit→Tmps→Heap→Prop} (h:Wp E b lim T H (inBlock id K)):Wp E (.block id b) lim T H K:=by
 obtain ⟨x,T',H',h1,h2⟩:=h
 refine ⟨_,T',H',Ev.block h1,?_⟩
 cases x with
 | normal=>exact h2
 | ret=>exact h2
 | exit j =>
  simp only [inBlock] at h2
  by_cases e:j=id
  · subst e;simpa using h2
  · rw [if_neg e] at h2;simpa [e] using h2
theorem Wp.loop {b:AC} {K:AExit→Tmps→Heap→Prop} (I:Nat→Tmps→Heap→Prop) (step:∀ n T H,I n T H→Wp E b lim T H (andThen (fun T' H'=>∃ m,m < n∧I m T' H') K)):∀ (n:Nat) (T:Tmps) (H:Heap),I n T H→Wp E (.loop b) lim T H K:=by
 intro n
 induction n using Nat.strongRecOn with
 | _ n ih =>
  intro T H hI
  obtain ⟨x,T1,H1,h1,h2⟩:=step n T H hI
  cases x with
  | normal =>
   obtain ⟨m,hm,hI'⟩:=h2
   obtain ⟨y,T2,H2,h3,h4⟩:=ih m hm T1 H1 hI'
   exact ⟨y,T2,H2,Ev.loop h1 h3,h4⟩
  | ret=>exact ⟨_,T1,H1,Ev.loopx h1 (by simp),h2⟩
  | exit id=>exact ⟨_,T1,H1,Ev.loopx h1 (by simp),h2⟩
def fnEnd (rs:List ARes) (K:AV→Heap→Prop):AExit→Tmps→Heap→Prop
 | .exit _,_,_=>False
 | _,T,H=>∃ r,resAll H T rs=some r∧K r H
theorem WCl.heap {f:Nat} {fd:AFun} {as:List AV} {K:AV→Heap→Prop} (hf:E.fn f=some (.code fd)) (hm:fd.mode=.heap) (h:Wp E fd.body lim (as++List.replicate (fd.ntmps - as.length) .noval) H (fnEnd fd.results K)):WCl E f as lim H K:=by
 obtain ⟨x,T',H',h1,h2⟩:=h
 cases x with
 | normal=>obtain ⟨r,h3,h4⟩:=h2;exact ⟨r,H',Cl.heap hf hm h1 (.inl rfl) h3,h4⟩
 | ret=>obtain ⟨r,h3,h4⟩:=h2;exact ⟨r,H',Cl.heap hf hm h1 (.inr rfl) h3,h4⟩
 | exit id=>exact h2.elim
def pureEnd (rs:List ARes) (K:AV→Prop):AExit→Tmps→Heap→Prop
 | .exit _,_,_=>False
 | _,T,H=>∃ v d used,resAll H T rs=some v∧own H deep v=some (d,used)∧noTwo used=true∧K d
def WPu (E:AEnv) (f:Nat) (ds:List AV) (K:AV→Prop):Prop:=∃ d,(∀ (as:List AV) (lim:Nat) (H:Heap),mapO (frz H deep) as=some ds→as.length=ds.length→Cl E f as lim H (thaw d H).1 (thaw d H).2)∧K d
theorem mapO_len {f:AV→Option AV}:∀ {as ds:List AV},mapO f as=some ds→as.length=ds.length
 | [],ds,h=>by simp only [mapO,Option.some.injEq] at h;subst h;rfl
 | v :: vs,ds,h=>by
  simp only [mapO,Option.bind_eq_some_iff,Option.map_eq_some_iff] at h
  obtain ⟨u,_,us,h2,rfl⟩:=h
  simp [mapO_len h2]
theorem WPu.of {f:Nat} {fd:AFun} {ds:List AV} {K:AV→Prop} (hf:E.fn f=some (.code fd)) (hm:fd.mode=.pure) (h:Wp E fd.body 0 (ds++List.replicate (fd.ntmps - ds.length) .noval) [] (pureEnd fd.results K)):WPu E f ds K:=by
 obtain ⟨x,T',H',h1,h2⟩:=h
 cases x with
 | normal=>obtain ⟨v,d,used,h3,h4,h5,h6⟩:=h2;exact ⟨d,fun as lim H hd hl=>Cl.pure hf hm hd (by rw [hl];exact h1) (.inl rfl) h3 h4 h5,h6⟩
 | ret=>obtain ⟨v,d,used,h3,h4,h5,h6⟩:=h2;exact ⟨d,fun as lim H hd hl=>Cl.pure hf hm hd (by rw [hl];exact h1) (.inr rfl) h3 h4 h5,h6⟩
 | exit id=>exact h2.elim
theorem WPu.cl {f:Nat} {ds as:List AV} {K:AV→Prop} {K':AV→Heap→Prop} (h:WPu E f ds K) (hd:mapO (frz H deep) as=some ds) (k:∀ d,K d→K' (thaw d H).1 (thaw d H).2):WCl E f as lim H K':=by
 obtain ⟨d,h1,h2⟩:=h
 exact ⟨_,_,h1 as lim H hd (mapO_len hd),k d h2⟩
end
end Go.Proofs.YtgbnbgkldeifkaaGreatA
/- slices.Insert: from a walk through its code to what the small machine says of it. No statement about the program is proved here. -/
namespace Go.Proofs.YtgbnbgkldeifkaaGreatA
open Go Go.RowKit
set_option linter.unusedVariables false
section
variable {w0:World} {ro:Nat→Prop} {P:Program} {μ:Mu} {H:Heap} {w:World} {lim:Nat}
theorem call_of (E:AEnv) (hE:EnvOK P E) {f:Nat} {fd:AFun} (hfd:E.fn f=some (.code fd)) {as:List AV} {vs:Array Value} {r:AV} {H':Heap} (hr:HR w0 ro μ H w) (hv:VRs w0 ro μ as vs.toList) (h:Cl E f as lim H r H') :
 Calls P f vs w (CallPost w0 ro lim μ H w r H'):=by
 obtain ⟨n,h⟩:=h
 exact call_sim hE n w0 ro μ H w lim f as vs r H' (fun g e=>by rw [hfd] at e;cases e) hr hv h
theorem set_append_left {H X:Heap} {b:Nat} {x:ABlk} (h:b < H.length):(H++X).set b x=H.set b x++X:=by
 rw [List.set_append]
 simp [h]
structure InsertWalk (E:AEnv) (f es bytes:Nat):Prop where
 nil:∀ (lim:Nat) (H:Heap) (v r:AV) (H':Heap),insertG es bytes [.nilsl,.int .i64 0,v] lim H=some (r,H')→Cl E f [.nilsl,.int .i64 0,v] lim H r H'
 last:∀ (lim:Nat) (H:Heap) (b o n:Nat) (v r:AV) (H':Heap),insertG es bytes [.sl b o n es,.int .i64 n,v] lim H=some (r,H')→Cl E f [.sl b o n es,.int .i64 n,v] lim H r H'
 grow:∀ (lim:Nat) (H:Heap) (b o n c i b' o':Nat) (cs new:List AV),H[b]?=some (.cells true cs)→elems H es (.sl b' o' 1 es)=some (1,new)→0 < es→o + n * es=cs.length→i < n→c < n + 1→lim≤H.length→b' ≠ b→(n + 1) * bytes≤most→n + 1≤most→new.all AV.one=true→cs.all AV.one=true→n≤c →
  Cl E f [.slc b o n c es,.int .i64 i,.sl b' o' 1 es] lim H (.sl H.length 0 (n + 1) es) (H++[.cells true ((cs.drop o).take (i * es)++new++cs.drop (o + i * es))])
 room:∀ (lim:Nat) (H:Heap) (b o n c i b' o':Nat) (cs new:List AV),H[b]?=some (.cells true cs)→elems H es (.sl b' o' 1 es)=some (1,new)→0 < es→o + n * es=cs.length→i < n→n + 1≤c→lim≤b→b' ≠ b→n + 1≤most→new.all AV.one=true→cs.all AV.one=true →
  Cl E f [.slc b o n c es,.int .i64 i,.sl b' o' 1 es] lim H (.slc b o (n + 1) c es) (H.set b (.cells true (cs.take (o + i * es)++new++cs.drop (o + i * es))))
theorem insert_prim (E:AEnv) (hE:EnvOK P E) {f es bytes:Nat} {fd:AFun} (hfd:E.fn f=some (.code fd)) (W:InsertWalk E f es bytes):PrimOK P f (insertG es bytes):=by
 intro w0 ro μ H w lim as vs r H' hr hv h
 have h0:=h
 unfold insertG at h
 split at h
 · rename_i s i v
   simp only [Option.bind_eq_some_iff] at h
   obtain ⟨⟨m,new⟩,hel,h⟩:=h
   simp only at h
   split at h
   · rename_i b' o' n' es'
     split at h
     · rename_i q
       obtain ⟨rfl,_⟩:=q
       exact call_of E hE hfd hr hv (W.nil lim H _ _ _ h0)
     · cases h
   · rename_i b' o' n' es2 b o n es'
     split at h
     · rename_i q
       obtain ⟨rfl,hpos,rfl,hlim,hb1,hb2,hnew,hbb,hi0,hin⟩:=q
       split at h
       · rename_i cs hb
         split at h
         · rename_i hlen
           cases h
           obtain ⟨i,rfl⟩:=Int.eq_ofNat_of_zero_le hi0
           have hin':i≤n:=by omega
           simp only [Int.toNat_natCast] at h0 ⊢
           rcases Nat.lt_or_ge i n with hlt | hge
           · -- not at the end
             have hn':n'=1∧es2=es':=by
              simp only [elems] at hel
              split at hel
              · rename_i e
                simp only [Option.bind_eq_some_iff,Option.map_eq_some_iff,Prod.mk.injEq] at hel
                obtain ⟨_,_,_,_,e1,_⟩:=hel
                exact ⟨e1,e⟩
              · cases hel
             obtain ⟨rfl,rfl⟩:=hn'
             have hbl:b < H.length:=(List.getElem?_eq_some_iff.1 hb).1
             obtain ⟨l⟩:=vs
             cases hv with
             | @cons _ _ _ vs' k t=>cases k with
              | sl0 a=>omega
              | @sl _ _ _ _ loc cap hmu hn hc =>
               have hbr:=hr.blk b loc hmu
               rw [hb] at hbr
               obtain ⟨hnro,arr,ta,h3,h4,h5,h6⟩:=hbr
               have hone:cs.all AV.one=true:=List.all_eq_true.2 fun v hv=>by
                obtain ⟨j,hj,rfl⟩:=List.mem_iff_getElem.1 hv
                exact (h6 j _ (List.getElem?_eq_getElem hj)).1
               have hv2:VRs w0 ro μ [.slc b o n cap es2,.int .i64 i,.sl b' o' 1 es2] (⟨(.slice (some ⟨loc.c,loc.k + o,none⟩) n cap) :: vs'⟩:Array Value).toList:=.cons (.slc hmu hn hc) t
               rcases Nat.lt_or_ge cap (n + 1) with hg | hg
               · refine (call_of E hE hfd hr hv2 (W.grow lim H b o n cap i b' o' cs new hb hel hpos hlen hlt hg (Nat.le_trans hlim (Nat.le_of_lt hbl)) hbb hb1 hb2 hnew hone hn)).mono ?_
                 rintro e w' ⟨v',μ',rfl,hp,hv'⟩
                 have hk:=Post.kill' (lim:=lim) (b:=b) hp.hr hlim (by simp;omega)
                 rw [set_append_left hbl] at hk
                 exact ⟨v',μ',rfl,hp.trans hk,hv'⟩
               · refine (call_of E hE hfd hr hv2 (W.room lim H b o n cap i b' o' cs new hb hel hpos hlen hlt hg hlim hbb hb2 hnew hone)).mono ?_
                 rintro e w' ⟨v',μ',rfl,hp,hv'⟩
                 cases hv' with
                 | slc hmu2 hn2 hc2 =>
                  rename_i loc2
                  have e1:=hp.ext b loc hmu
                  rw [hmu2] at e1
                  cases e1
                  have hbr2:=hp.hr.blk b loc hmu2
                  rw [List.getElem?_set_self hbl] at hbr2
                  obtain ⟨hnro2,arr2,ta2,g3,g4,g5,g6⟩:=hbr2
                  have hdrop:(cs.take (o + i * es2)++new++cs.drop (o + i * es2)).drop o=(cs.drop o).take (i * es2)++new++cs.drop (o + i * es2):=by
                   have h7:i * es2≤n * es2:=Nat.mul_le_mul_right _ hin'
                   rw [List.append_assoc,List.drop_append_of_le_length (by simp;omega),List.drop_take,Nat.add_sub_cancel_left,← List.append_assoc]
                  have hmv:=Post.move (lim:=lim) (b:=b) (loc:=loc) (k:=loc.k + o) (w1:=w') (g:=true) (cs:=(cs.drop o).take (i * es2)++new++cs.drop (o + i * es2)) hp.hr hlim hmu2 (.inl ⟨true,_,List.getElem?_set_self hbl⟩) rfl (fun _ _=>rfl) rfl rfl rfl
                   ⟨hnro2,arr2,ta2,g3,g4,by
                    show loc.k + o + _≤arr2.size
                    rw [← hdrop,List.length_drop]
                    have h7:i * es2≤n * es2:=Nat.mul_le_mul_right _ hin'
                    have hL:o≤(cs.take (o + i * es2)++new++cs.drop (o + i * es2)).length:=by simp;omega
                    omega,fun j v hj=>by
                    rw [← hdrop,List.getElem?_drop] at hj
                    obtain ⟨k0,v',k1,k2⟩:=g6 (o + j) v hj
                    exact ⟨k0,v',by
                     show arr2[loc.k + o + j]?=some v'
                     rw [Nat.add_assoc];exact k1,k2.ext (Ext.app _ _)⟩⟩
                  have hset:(H.set b (.cells true (cs.take (o + i * es2)++new++cs.drop (o + i * es2)))).set b .dead=H.set b .dead:=by rw [List.set_set]
                  rw [hset] at hmv
                  refine ⟨_,_,rfl,hp.trans hmv,?_⟩
                  have hl2:H.length=μ'.length:=by rw [hp.hr.len];simp
                  have:=VR.sl (w0:=w0) (ro:=ro) (μ:=μ'++[some (⟨loc.c,loc.k + o,loc.sz⟩:Loc)]) (b:=H.length) (o:=0) (n:=n + 1) (es:=es2) (cap:=cap) (loc:=⟨loc.c,loc.k + o,loc.sz⟩) (by rw [hl2];simp) hg (by simpa using hc2)
                  simpa using this
           · have:i=n:=by omega
             subst this
             exact call_of E hE hfd hr hv (W.last lim H b o i _ _ _ h0)
         · cases h
       · cases h
     · cases h
   · cases h
 · cases h
end
end Go.Proofs.YtgbnbgkldeifkaaGreatA
/- Walking by rewriting. No statement about the program is proved here. -/
namespace Go.Proofs.YtgbnbgkldeifkaaGreatA
open Go Go.RowKit
set_option linter.unusedVariables false
def isCall:AOp→Bool
 | .call ..=>true
 | _=>false
def optP {α:Type} (x:Option α) (k:α→Prop):Prop:=match x with | some a=>k a | none=>False
theorem optP_some {α:Type} {a:α} {k:α→Prop}:optP (some a) k=k a:=propext Iff.rfl
theorem optP_get {α:Type} {x:Option α} {k:α→Prop} (h:optP x k):∃ a,x=some a∧k a:=by
 cases x with
 | none=>exact h.elim
 | some a=>exact ⟨a,rfl,h⟩
def boolP (v:Option AV) (k:Bool→Prop) (none':Prop):Prop:=match v with | some (.bool b)=>k b | some .noval=>none' | _=>False
theorem boolP_get {v:Option AV} {k:Bool→Prop} {n:Prop} (h:boolP v k n):(∃ b,v=some (.bool b)∧k b)∨v=some .noval∧n:=by
 unfold boolP at h
 split at h
 · exact .inl ⟨_,rfl,h⟩
 · exact .inr ⟨rfl,h⟩
 · exact h.elim
def nextP (x:Option (AV × Heap)) (T:Tmps) (dst:Option Nat) (next:Tmps→Heap→Prop):Prop:=match x with | some p=>next (putT T dst p.1) p.2 | none=>False
theorem nextP_some {v:AV} {H1:Heap} {T:Tmps} {dst:Option Nat} {next:Tmps→Heap→Prop}:nextP (some (v,H1)) T dst next=next (putT T dst v) H1:=propext Iff.rfl
theorem nextP_get {x:Option (AV × Heap)} {T:Tmps} {dst:Option Nat} {next:Tmps→Heap→Prop} (h:nextP x T dst next):∃ v H1,x=some (v,H1)∧next (putT T dst v) H1:=by
 cases x with
 | none=>exact h.elim
 | some p=>exact ⟨p.1,p.2,rfl,h⟩
def afterP (T:Tmps) (dst:Option Nat) (next:Tmps→Heap→Prop):AV→Heap→Prop:=fun r H1=>next (putT T dst r) H1
def callP (E:AEnv) (lim:Nat) (H:Heap) (x:Option (Nat × List AV)) (K:AV→Heap→Prop):Prop:=match x with | some p=>WCl E p.1 p.2 lim H K | none=>False
theorem callP_some {E:AEnv} {lim:Nat} {H:Heap} {f:Nat} {as:List AV} {K:AV→Heap→Prop}:callP E lim H (some (f,as)) K=WCl E f as lim H K:=propext Iff.rfl
def eitherP (v:Option AV) (want:Bool) (go skip:Tmps→Heap→Prop) (T:Tmps) (H:Heap):Prop:=boolP v (fun b=>(b=want→go T H)∧(b=!want→skip T H)) (skip T H)
theorem eitherP_tt {go skip:Tmps→Heap→Prop} {T:Tmps} {H:Heap}:eitherP (some (.bool true)) true go skip T H=go T H:=by simp [eitherP,boolP]
theorem eitherP_tf {go skip:Tmps→Heap→Prop} {T:Tmps} {H:Heap}:eitherP (some (.bool true)) false go skip T H=skip T H:=by simp [eitherP,boolP]
theorem eitherP_ft {go skip:Tmps→Heap→Prop} {T:Tmps} {H:Heap}:eitherP (some (.bool false)) true go skip T H=skip T H:=by simp [eitherP,boolP]
theorem eitherP_ff {go skip:Tmps→Heap→Prop} {T:Tmps} {H:Heap}:eitherP (some (.bool false)) false go skip T H=go T H:=by simp [eitherP,boolP]
theorem eitherP_no {want:Bool} {go skip:Tmps→Heap→Prop} {T:Tmps} {H:Heap}:eitherP (some .noval) want go skip T H=skip T H:=propext Iff.rfl
def wGuard (g:Option (Nat × Bool)) (go skip:Tmps→Heap→Prop) (T:Tmps) (H:Heap):Prop :=
 match g with
 | none=>go T H
 | some (t,want)=>eitherP T[t]? want go skip T H
def wOp (E:AEnv) (lim:Nat) (dst:Option Nat) (next:Tmps→Heap→Prop):AOp→Tmps→Heap→Prop
 | .call c xs,T,H=>callP E lim H (callee E H T c (xs.map (·.ev T))) (afterP T dst next)
 | op,T,H=>nextP (aop lim H T op) T dst next
def skipP (dst:Option Nat) (next:Tmps→Heap→Prop) (T:Tmps) (H:Heap):Prop:=next (putT T dst .noval) H
def wOps (E:AEnv) (lim:Nat) (K:Tmps→Heap→Prop):List AOper→Tmps→Heap→Prop
 | [],T,H=>K T H
 | o :: os,T,H=>wGuard o.guard (wOp E lim o.dst (wOps E lim K os) o.op) (skipP o.dst (wOps E lim K os)) T H
def nextD (s:Bool) (x:Option (AV × Heap)) (T:Tmps) (H:Heap) (dst:Option Nat) (next:Tmps→Heap→Prop):Prop :=
 match x with
 | some p=>if s then H.length≤p.2.length∧next (putT T dst p.1) p.2 else next (putT T dst p.1) (H++p.2.drop H.length)
 | none=>False
theorem nextD_same {s:Bool} {v:AV} {H:Heap} {T:Tmps} {dst:Option Nat} {next:Tmps→Heap→Prop}:nextD s (some (v,H)) T H dst next=next (putT T dst v) H:=by
 cases s <;> simp [nextD]
theorem nextD_set {s:Bool} {v:AV} {H:Heap} {b:Nat} {x:ABlk} {T:Tmps} {dst:Option Nat} {next:Tmps→Heap→Prop}:nextD true (some (v,H.set b x)) T H dst next=next (putT T dst v) (H.set b x):=by
 simp [nextD]
theorem nextD_new {s:Bool} {v:AV} {H X:Heap} {T:Tmps} {dst:Option Nat} {next:Tmps→Heap→Prop}:nextD s (some (v,H++X)) T H dst next=next (putT T dst v) (H++X):=by
 cases s <;> simp [nextD]
def GoesOn:Bool→Heap→Heap→Prop
 | true,H,H1=>H.length≤H1.length
 | false,H,H1=>∃ X,H1=H++X
def wDr (E:AEnv) (lim:Nat) (s:Bool) (dst:Option Nat) (next:Tmps→Heap→Prop):AOp→Tmps→Heap→Prop
 | .call c xs,T,H=>callP E (if s then lim else H.length) H (callee E H T c (xs.map (·.ev T))) fun r H1=>GoesOn s H H1∧afterP T dst next r H1
 | op,T,H=>nextD s (aop (if s then lim else H.length) H T op) T H dst next
def wDrs (E:AEnv) (lim:Nat) (K:Tmps→Heap→Prop):List (Bool × AOper)→Tmps→Heap→Prop
 | [],T,H=>K T H
 | o :: os,T,H=>wGuard o.2.guard (wDr E lim o.1 o.2.dst (wDrs E lim K os) o.2.op) (skipP o.2.dst (wDrs E lim K os)) T H
def nextH (B:List Nat) (x:Option (AV × Heap)) (T:Tmps) (H:Heap) (dst:Option Nat) (next:Tmps→Heap→Prop):Prop :=
 match x with
 | some p=>H.length≤p.2.length∧next (putT T dst p.1) (unhide B H p.2)
 | none=>False
def amongP (B:List Nat):AV→Prop
 | .ptr (some (b,_))=>B.contains b=true
 | .tp _=>True
 | _=>False
def softH (E:AEnv) (B:List Nat) (dst:Option Nat) (next:Tmps→Heap→Prop):AOp→Tmps→Heap→Prop
 | .call c xs,T,H=>callP E H.length H (callee E H T c (xs.map (·.ev T))) fun r H1=>∃ X,H1=H++X∧afterP T dst next r H1
 | .load n x,T,H=>amongP B (x.ev T)∧nextD false (aop H.length H T (.load n x)) T H dst next
 | op,T,H=>nextD false (aop H.length H T op) T H dst next
def soloH (E:AEnv) (lim:Nat) (B:List Nat) (dst:Option Nat) (next:Tmps→Heap→Prop):AOp→Tmps→Heap→Prop
 | .call c xs,T,H=>callP E lim (hide B H) (callee E (hide B H) T c (xs.map (·.ev T))) fun r H1=>H.length≤H1.length∧afterP T dst next r (unhide B H H1)
 | op,T,H=>nextH B (aop lim (hide B H) T op) T H dst next
def wDrsH (E:AEnv) (lim:Nat) (B:List Nat) (K:Tmps→Heap→Prop):List (Bool × AOper)→Tmps→Heap→Prop
 | [],T,H=>K T H
 | (true,o) :: os,T,H=>wGuard o.guard (soloH E lim B o.dst (wDrsH E lim B K os) o.op) (skipP o.dst (wDrsH E lim B K os)) T H
 | (false,o) :: os,T,H=>wGuard o.guard (softH E B o.dst (wDrsH E lim B K os) o.op) (skipP o.dst (wDrsH E lim B K os)) T H
def WDrsH (E:AEnv) (B:List Nat) (os:List (Bool × AOper)) (lim:Nat) (T:Tmps) (H:Heap) (K:Tmps→Heap→Prop):Prop:=∃ T' H',(∃ n,runDraw E (exec E n) lim (some B) os T H=some (T',H'))∧K T' H'
theorem unhide_hide {B:List Nat} {H:Heap} (hb:∀ b,b ∈ B→b < H.length):unhide B H (hide B H)=H:=by
 apply List.ext_getElem?
 intro i
 rw [unhide_get hb (by rw [hide_len];exact Nat.le_refl _),hide_get]
 by_cases h:i ∈ B <;> simp [h]
theorem WDrsH.step {E:AEnv} {lim:Nat} {B:List Nat} {s:Bool} {o:AOper} {os:List (Bool × AOper)} {T:Tmps} {H:Heap} {K:Tmps→Heap→Prop} {T1:Tmps} {H1:Heap} (h:∃ n,stepD E (exec E n) lim (some B) s o T H=some (T1,H1)) (k:WDrsH E B os lim T1 H1 K):WDrsH E B ((s,o) :: os) lim T H K:=by
 obtain ⟨n,h⟩:=h
 obtain ⟨T',H',⟨m,k1⟩,k2⟩:=k
 refine ⟨T',H',⟨n + m,?_⟩,k2⟩
 simp only [runDraw,stepD_mono (exec_mono (Nat.le_add_right n m)) h,Option.bind_some]
 exact runDraw_mono (exec_mono (Nat.le_add_left m n)) k1
theorem stepD_skip {E:AEnv} {lim:Nat} {B:List Nat} {s:Bool} {dst:Option Nat} {g:Option (Nat × Bool)} {op:AOp} {T:Tmps} {H:Heap} (hb:∀ b,b ∈ B→b < H.length) (hg:wantedA T g=some false):stepD E (exec E 0) lim (some B) s ⟨dst,g,op⟩ T H=some (putT T dst .noval,H):=by
 cases s with
 | true=>simp only [stepD,if_true,stepOp,hg,Option.bind_some,hideO,unhideO,hide_len,Nat.le_refl,unhide_hide hb]
 | false =>
  have hs:seen T ⟨dst,g,op⟩ (some B)=true:=by
   unfold seen
   cases op <;> simp only [hg]
  simp only [stepD,Bool.false_eq_true,if_false,hs,if_true,stepOp,hg,Option.bind_some,Option.map_some,List.drop_length,List.append_nil]
theorem run_plain {E:AEnv} {n lim:Nat} {T:Tmps} {H H1:Heap} {op:AOp} {v:AV} (h:aop lim H T op=some (v,H1)):runOp E (exec E n) lim T H op=some (v,H1):=by
 cases op
 case call=>simp [aop] at h
 all_goals exact h
theorem soloH_ok {E:AEnv} {lim:Nat} {B:List Nat} {dst:Option Nat} {g:Option (Nat × Bool)} {op:AOp} {os:List (Bool × AOper)} {T:Tmps} {H:Heap} {K:Tmps→Heap→Prop} (hg:wantedA T g=some true) (hb:∀ b,b ∈ B→b < H.length) (ih:∀ T1 H1,(∀ b,b ∈ B→b < H1.length)→wDrsH E lim B K os T1 H1→WDrsH E B os lim T1 H1 K) (h:soloH E lim B dst (wDrsH E lim B K os) op T H):WDrsH E B ((true,⟨dst,g,op⟩) :: os) lim T H K:=by
 have hb2:∀ {H1:Heap},H.length≤H1.length→∀ b,b ∈ B→b < (unhide B H H1).length:=fun {H1} hl b hm=>by
  have:=hb b hm
  rw [unhide_len]
  omega
 cases op
 case call c xs =>
  simp only [soloH] at h
  unfold callP at h
  split at h
  · rename_i p e
    obtain ⟨r,H1,⟨n,h1⟩,hl,h2⟩:=h
    refine WDrsH.step (T1:=putT T dst r) (H1:=unhide B H H1) ⟨n,?_⟩ (ih _ _ (hb2 hl) h2)
    simp only [stepD,if_true,stepOp,hg,Option.bind_some,hideO,unhideO,runOp,e,h1,Option.map_some,hl]
  · exact h.elim
 all_goals
  simp only [soloH] at h
  unfold nextH at h
  split at h
  · rename_i p e
    refine WDrsH.step (T1:=putT T dst p.1) (H1:=unhide B H p.2) ⟨0,?_⟩ (ih _ _ (hb2 h.1) h.2)
    simp only [stepD,if_true,stepOp,hg,Option.bind_some,hideO,unhideO,run_plain e,Option.map_some,h.1]
  · exact h.elim
theorem among_seen {B:List Nat} {v:AV}:amongP B v→(match v with | .ptr (some (b,_))=>B.contains b | .tp _=>true | _=>false)=true:=by
 intro h
 unfold amongP at h
 split at h
 · exact h
 · rfl
 · exact h.elim
theorem softH_ok {E:AEnv} {lim:Nat} {B:List Nat} {dst:Option Nat} {g:Option (Nat × Bool)} {op:AOp} {os:List (Bool × AOper)} {T:Tmps} {H:Heap} {K:Tmps→Heap→Prop} (hg:wantedA T g=some true) (hb:∀ b,b ∈ B→b < H.length) (ih:∀ T1 H1,(∀ b,b ∈ B→b < H1.length)→wDrsH E lim B K os T1 H1→WDrsH E B os lim T1 H1 K) (h:softH E B dst (wDrsH E lim B K os) op T H):WDrsH E B ((false,⟨dst,g,op⟩) :: os) lim T H K:=by
 have hb2:∀ X:Heap,∀ b,b ∈ B→b < (H++X).length:=fun X b hm=>by
  have:=hb b hm
  rw [List.length_append]
  omega
 cases op
 case call c xs =>
  simp only [softH] at h
  unfold callP at h
  split at h
  · rename_i p e
    obtain ⟨r,H1,⟨n,h1⟩,X,rfl,h2⟩:=h
    refine WDrsH.step (T1:=putT T dst r) (H1:=H++X) ⟨n,?_⟩ (ih _ _ (hb2 X) h2)
    simp only [stepD,Bool.false_eq_true,if_false,seen,if_true,stepOp,hg,Option.bind_some,runOp,e,h1,Option.map_some,List.drop_left]
  · exact h.elim
 case load n x =>
  simp only [softH] at h
  obtain ⟨ha,h⟩:=h
  unfold nextD at h
  split at h
  · rename_i p e
    simp only [Bool.false_eq_true,if_false] at h
    refine WDrsH.step (T1:=putT T dst p.1) (H1:=H++p.2.drop H.length) ⟨0,?_⟩ (ih _ _ (hb2 _) h)
    have hs:seen T ⟨dst,g,.load n x⟩ (some B)=true:=by
     simp only [seen,hg]
     exact among_seen ha
    simp only [stepD,Bool.false_eq_true,if_false,hs,if_true,stepOp,hg,Option.bind_some,run_plain e,Option.map_some]
  · exact h.elim
 all_goals
  simp only [softH] at h
  unfold nextD at h
  split at h
  · rename_i p e
    simp only [Bool.false_eq_true,if_false] at h
    refine WDrsH.step (T1:=putT T dst p.1) (H1:=H++p.2.drop H.length) ⟨0,?_⟩ (ih _ _ (hb2 _) h)
    simp only [stepD,Bool.false_eq_true,if_false,seen,if_true,stepOp,hg,Option.bind_some,run_plain e,Option.map_some]
  · exact h.elim
theorem wDrsH_ok {E:AEnv} {lim:Nat} {B:List Nat} {K:Tmps→Heap→Prop}:∀ {os:List (Bool × AOper)} {T:Tmps} {H:Heap},(∀ b,b ∈ B→b < H.length)→wDrsH E lim B K os T H→WDrsH E B os lim T H K
 | [],T,H,_,h=>⟨T,H,⟨0,rfl⟩,h⟩
 | (s,⟨dst,none,op⟩) :: os,T,H,hb,h=>by
  cases s with
  | true=>exact soloH_ok rfl hb (fun _ _ hb h=>wDrsH_ok hb h) h
  | false=>exact softH_ok rfl hb (fun _ _ hb h=>wDrsH_ok hb h) h
 | (s, ⟨dst,some (t,want),op⟩) :: os,T,H,hb,h=>by
  have skip:wantedA T (some (t,want))=some false→wDrsH E lim B K os (putT T dst .noval) H→WDrsH E B ((s,⟨dst,some (t,want),op⟩) :: os) lim T H K:=fun hg h=>WDrsH.step ⟨0,stepD_skip hb hg⟩ (wDrsH_ok hb h)
  have go:∀ b,T[t]?=some (.bool b)→b=want→wantedA T (some (t,want))=some true:=fun b h1 e=>by simp [wantedA,h1,e]
  have no:∀ b,T[t]?=some (.bool b)→b=!want→wantedA T (some (t,want))=some false:=fun b h1 e=>by simp [wantedA,h1,e]
  have nv:T[t]?=some .noval→wantedA T (some (t,want))=some false:=fun h1=>by simp [wantedA,h1]
  cases s with
  | true =>
   rcases boolP_get h with ⟨b,h1,h2,h3⟩ | ⟨h1,h2⟩
   case inr=>exact skip (nv h1) h2
   · by_cases e:b=want
     · exact soloH_ok (go b h1 e) hb (fun _ _ hb h=>wDrsH_ok hb h) (h2 e)
     · have e':b=!want:=by cases b <;> cases want <;> simp_all
       exact skip (no b h1 e') (h3 e')
  | false =>
   rcases boolP_get h with ⟨b,h1,h2,h3⟩ | ⟨h1,h2⟩
   case inr=>exact skip (nv h1) h2
   · by_cases e:b=want
     · exact softH_ok (go b h1 e) hb (fun _ _ hb h=>wDrsH_ok hb h) (h2 e)
     · have e':b=!want:=by cases b <;> cases want <;> simp_all
       exact skip (no b h1 e') (h3 e')
theorem Wp.drawH {E:AEnv} {lim:Nat} {t:Nat} {ts:List Nat} {os:List (Bool × AOper)} {T:Tmps} {H:Heap} {K:AExit→Tmps→Heap→Prop} {B:List Nat} (hl:lim≤H.length) (hB:hidB T H.length (t :: ts)=some B) (h:WDrsH E B os lim T H (K .normal)):Wp E (.draw (t :: ts) os) lim T H K:=by
 obtain ⟨T',H',⟨n,h1⟩,h2⟩:=h
 exact ⟨.normal,T',H',⟨n + 1,by simp only [exec,if_pos hl,hidden,hB,Option.map_some,Option.bind_some,h1]⟩,h2⟩
def wC (E:AEnv) (lim:Nat):AC→(AExit→Tmps→Heap→Prop)→Tmps→Heap→Prop
 | .skip,K,T,H=>K .normal T H
 | .ret,K,T,H=>K .ret T H
 | .exit id,K,T,H=>K (.exit id) T H
 | .kill ts,K,T,H=>K .normal (killT T ts) H
 | .fail,K,T,H=>False
 | .region os,K,T,H=>wOps E lim (K .normal) os T H
 | .draw [] os,K,T,H=>lim≤H.length∧wDrs E lim (K .normal) os T H
 | .draw (t :: ts) os,K,T,H=>lim≤H.length∧optP (hidB T H.length (t :: ts)) fun B=>wDrsH E lim B (K .normal) os T H
 | .seq a b,K,T,H=>wC E lim a (andThen (wC E lim b K) K) T H
 | .cond c t e,K,T,H=>eitherP (some (c.ev T)) true (wC E lim t K) (wC E lim e K) T H∧c.ev T ≠ .noval
 | .block id b,K,T,H=>wC E lim b (inBlock id K) T H
 | .loop b,K,T,H=>Wp E (.loop b) lim T H K
section
variable {E:AEnv} {lim:Nat}
theorem wOp_ok {K:Tmps→Heap→Prop} {os:List AOper} {T:Tmps} {H:Heap} {dst:Option Nat} {op:AOp} (ih:∀ T H,wOps E lim K os T H→WOps E os lim T H K) (h:wOp E lim dst (wOps E lim K os) op T H):WOps E (⟨dst,none,op⟩ :: os) lim T H K:=by
 cases op
 case call c xs =>
  simp only [wOp] at h
  unfold callP at h
  split at h
  · rename_i p e
    exact WOps.call e (WCl.mono h fun r H' h3=>ih _ _ h3)
  · exact h.elim
 all_goals
  simp only [wOp] at h
  obtain ⟨v,H1,h1,h2⟩:=nextP_get h
  exact WOps.plain h1 (ih _ _ h2)
theorem wOps_ok {K:Tmps→Heap→Prop}:∀ {os:List AOper} {T:Tmps} {H:Heap},wOps E lim K os T H→WOps E os lim T H K
 | [],T,H,h=>WOps.nil h
 | ⟨dst,none,op⟩ :: os,T,H,h=>wOp_ok (fun _ _ h=>wOps_ok h) h
 | ⟨dst,some (t,want),op⟩ :: os,T,H,h=>by
  rcases boolP_get h with ⟨b,h1,h2,h3⟩ | ⟨h1,h2⟩
  case inr=>exact WOps.pass h1 (wOps_ok h2)
  · exact WOps.test h1 (fun e=>wOp_ok (fun _ _ h=>wOps_ok h) (h2 e)) (fun e=>wOps_ok (h3 e))
theorem WDrs.callS {E:AEnv} {lim:Nat} {T:Tmps} {H:Heap} {dst:Option Nat} {c:ACallee} {xs:List AX} {os:List (Bool × AOper)} {K:Tmps→Heap→Prop} {f:Nat} {as:List AV} (hc:callee E H T c (xs.map (·.ev T))=some (f,as))
 (h:WCl E f as lim H fun r H1=>H.length≤H1.length∧WDrs E os lim (putT T dst r) H1 K):WDrs E ((true,⟨dst,none,.call c xs⟩) :: os) lim T H K:=by
 obtain ⟨r,H1,h1,hl,T',H',h2,h3⟩:=h
 exact ⟨T',H',Drs.solo (Op1.call rfl hc h1) hl h2,h3⟩
theorem wDr_ok {K:Tmps→Heap→Prop} {os:List (Bool × AOper)} {T:Tmps} {H:Heap} {s:Bool} {dst:Option Nat} {op:AOp} (ih:∀ T H,wDrs E lim K os T H→WDrs E os lim T H K) (h:wDr E lim s dst (wDrs E lim K os) op T H):WDrs E ((s,⟨dst,none,op⟩) :: os) lim T H K:=by
 cases op
 case call c xs =>
  simp only [wDr] at h
  unfold callP at h
  split at h
  · rename_i p e
    cases s with
    | false=>exact WDrs.call e (WCl.mono h fun r H' ⟨⟨X,e⟩,h3⟩=>⟨X,e,ih _ _ h3⟩)
    | true=>exact WDrs.callS e (WCl.mono h fun r H' ⟨e,h3⟩=>⟨e,ih _ _ h3⟩)
  · exact h.elim
 all_goals
  simp only [wDr] at h
  unfold nextD at h
  split at h
  · rename_i p e
    cases s with
    | true=>simp only [if_true] at h;exact WDrs.plain (v:=p.1) (H1:=p.2) e (by rw [if_pos rfl,if_pos h.1]) (ih _ _ h.2)
    | false=>simp only [Bool.false_eq_true,if_false] at h;exact WDrs.plain (v:=p.1) (H1:=p.2) e rfl (ih _ _ h)
  · exact h.elim
theorem wDrs_ok {K:Tmps→Heap→Prop}:∀ {os:List (Bool × AOper)} {T:Tmps} {H:Heap},wDrs E lim K os T H→WDrs E os lim T H K
 | [],T,H,h=>WDrs.nil h
 | (s,⟨dst,none,op⟩) :: os,T,H,h=>wDr_ok (fun _ _ h=>wDrs_ok h) h
 | (s,⟨dst,some (t,want),op⟩) :: os,T,H,h=>by
  rcases boolP_get h with ⟨b,h1,h2,h3⟩ | ⟨h1,h2⟩
  case inr=>exact WDrs.pass h1 (wDrs_ok h2)
  · exact WDrs.test h1 (fun e=>wDr_ok (fun _ _ h=>wDrs_ok h) (h2 e)) (fun e=>wDrs_ok (h3 e))
theorem wC_ok:∀ {c:AC} {K:AExit→Tmps→Heap→Prop} {T:Tmps} {H:Heap},wC E lim c K T H→Wp E c lim T H K
 | .skip,K,T,H,h=>Wp.skip h
 | .ret,K,T,H,h=>Wp.ret h
 | .exit id,K,T,H,h=>Wp.exit h
 | .kill ts,K,T,H,h=>Wp.kill h
 | .fail,K,T,H,h=>h.elim
 | .region os,K,T,H,h=>Wp.region (wOps_ok h)
 | .draw [] os,K,T,H,h=>Wp.draw h.1 (wDrs_ok h.2)
 | .draw (t :: ts) os,K,T,H,h=>by
  obtain ⟨B,hB,h2⟩:=optP_get h.2
  exact Wp.drawH h.1 hB (wDrsH_ok (hidB_lt hB) h2)
 | .seq a b,K,T,H,h=>Wp.seq ((wC_ok (c:=a) h).mono fun x T' H' h2=>by
  cases x with
  | normal=>exact wC_ok (c:=b) h2
  | ret=>exact h2
  | exit id=>exact h2)
 | .cond c t e,K,T,H,h=>by
  rcases boolP_get h.1 with ⟨b,h1,h2,h3⟩ | ⟨h1,_⟩
  case inr=>exact absurd (Option.some.inj h1) h.2
  have h1:=Option.some.inj h1
  exact Wp.cond h1 (fun q=>wC_ok (h2 q)) (fun q=>wC_ok (h3 q))
 | .block id b,K,T,H,h=>Wp.block (wC_ok (c:=b) h)
 | .loop b,K,T,H,h=>h
def pEnd (rs:List ARes) (K:AV→Prop):AExit→Tmps→Heap→Prop
 | .exit _,_,_=>False
 | _,T,H=>optP (resAll H T rs) fun v=>optP (own H deep v) fun p=>noTwo p.2=true∧K p.1
theorem pEnd_ok {rs:List ARes} {K:AV→Prop} {x:AExit} {T:Tmps} {H:Heap} (h:pEnd rs K x T H):pureEnd rs K x T H:=by
 cases x with
 | exit id=>exact h.elim
 | normal=>obtain ⟨v,h1,h⟩:=optP_get h;obtain ⟨p,h2,h3,h4⟩:=optP_get h;exact ⟨v,p.1,p.2,h1,h2,h3,h4⟩
 | ret=>obtain ⟨v,h1,h⟩:=optP_get h;obtain ⟨p,h2,h3,h4⟩:=optP_get h;exact ⟨v,p.1,p.2,h1,h2,h3,h4⟩
def hEnd (rs:List ARes) (K:AV→Heap→Prop):AExit→Tmps→Heap→Prop
 | .exit _,_,_=>False
 | _,T,H=>optP (resAll H T rs) fun v=>K v H
theorem hEnd_ok {rs:List ARes} {K:AV→Heap→Prop} {x:AExit} {T:Tmps} {H:Heap} (h:hEnd rs K x T H):fnEnd rs K x T H:=by
 cases x with
 | exit id=>exact h.elim
 | normal=>obtain ⟨v,h1,h⟩:=optP_get h;exact ⟨v,h1,h⟩
 | ret=>obtain ⟨v,h1,h⟩:=optP_get h;exact ⟨v,h1,h⟩
theorem cl_of {f:Nat} {fd:AFun} {as:List AV} {H:Heap} {K:AV→Heap→Prop} (hf:E.fn f=some (.code fd)) (hm:fd.mode=.heap) (h:wC E lim fd.body (hEnd fd.results K) (as++List.replicate (fd.ntmps - as.length) .noval) H):WCl E f as lim H K :=
 WCl.heap hf hm ((wC_ok h).mono fun _ _ _=>hEnd_ok)
theorem bnd_nat {k:IntKind} {j d m:Nat} (h:j≤m):bnd (some (.int k (j:Int))) d m=some j:=by
 simp only [bnd,AV.isInt,Option.bind_some]
 rw [if_pos ⟨by omega,by omega⟩]
 simp
theorem wrap_i64 {x:Int} (h1:-9223372036854775808≤x) (h2:x≤9223372036854775807):IntKind.i64.wrap x=x:=by
 simp [IntKind.wrap,IntKind.signed,IntKind.bits]
 split <;> omega
end
end Go.Proofs.YtgbnbgkldeifkaaGreatA
/- Rules by which a walk is rewritten: each only where all its arguments stand. No statement about the program is proved here. -/
namespace Go.Proofs.YtgbnbgkldeifkaaGreatA
open Go Go.RowKit
set_option linter.unusedVariables false
section
variable {E:AEnv} {lim:Nat} {K:AExit→Tmps→Heap→Prop} {k:Tmps→Heap→Prop} {T:Tmps} {H:Heap}
@[simp] theorem wC_skip:wC E lim .skip K T H=K .normal T H:=propext Iff.rfl
@[simp] theorem wC_ret:wC E lim .ret K T H=K .ret T H:=propext Iff.rfl
@[simp] theorem wC_exit {id:Nat}:wC E lim (.exit id) K T H=K (.exit id) T H:=propext Iff.rfl
@[simp] theorem wC_kill {ts:List Nat}:wC E lim (.kill ts) K T H=K .normal (killT T ts) H:=propext Iff.rfl
@[simp] theorem wC_region {os:List AOper}:wC E lim (.region os) K T H=wOps E lim (K .normal) os T H:=propext Iff.rfl
@[simp] theorem wC_draw {os:List (Bool × AOper)}:wC E lim (.draw [] os) K T H=(lim≤H.length∧wDrs E lim (K .normal) os T H):=propext Iff.rfl
@[simp] theorem wC_drawH {t:Nat} {ts:List Nat} {os:List (Bool × AOper)}:wC E lim (.draw (t :: ts) os) K T H=(lim≤H.length∧optP (hidB T H.length (t :: ts)) fun B=>wDrsH E lim B (K .normal) os T H):=propext Iff.rfl
@[simp] theorem wDrsH_nil {B:List Nat}:wDrsH E lim B k [] T H=k T H:=propext Iff.rfl
@[simp] theorem wDrsH_call_t {B:List Nat} {dst:Option Nat} {c:ACallee} {xs:List AX} {os:List (Bool × AOper)}:wDrsH E lim B k ((true,⟨dst,none,.call c xs⟩) :: os) T H=callP E lim (hide B H) (callee E (hide B H) T c (xs.map (·.ev T))) fun r H1=>H.length≤H1.length∧afterP T dst (wDrsH E lim B k os) r (unhide B H H1):=propext Iff.rfl
@[simp] theorem wDrsH_call_f {B:List Nat} {dst:Option Nat} {c:ACallee} {xs:List AX} {os:List (Bool × AOper)}:wDrsH E lim B k ((false,⟨dst,none,.call c xs⟩) :: os) T H=callP E H.length H (callee E H T c (xs.map (·.ev T))) fun r H1=>∃ X,H1=H++X∧afterP T dst (wDrsH E lim B k os) r H1:=propext Iff.rfl
@[simp] theorem wDrsH_test_t {B:List Nat} {dst:Option Nat} {t:Nat} {want:Bool} {op:AOp} {os:List (Bool × AOper)}:wDrsH E lim B k ((true,⟨dst,some (t,want),op⟩) :: os) T H=eitherP T[t]? want (wDrsH E lim B k ((true,⟨dst,none,op⟩) :: os)) (skipP dst (wDrsH E lim B k os)) T H:=propext Iff.rfl
@[simp] theorem wDrsH_test_f {B:List Nat} {dst:Option Nat} {t:Nat} {want:Bool} {op:AOp} {os:List (Bool × AOper)}:wDrsH E lim B k ((false,⟨dst,some (t,want),op⟩) :: os) T H=eitherP T[t]? want (wDrsH E lim B k ((false,⟨dst,none,op⟩) :: os)) (skipP dst (wDrsH E lim B k os)) T H:=propext Iff.rfl
@[simp] theorem wC_seq {a b:AC}:wC E lim (.seq a b) K T H=wC E lim a (andThen (wC E lim b K) K) T H:=propext Iff.rfl
@[simp] theorem wC_cond {c:AX} {t e:AC}:wC E lim (.cond c t e) K T H=(eitherP (some (c.ev T)) true (wC E lim t K) (wC E lim e K) T H∧c.ev T ≠ .noval):=propext Iff.rfl
@[simp] theorem wC_block {id:Nat} {b:AC}:wC E lim (.block id b) K T H=wC E lim b (inBlock id K) T H:=propext Iff.rfl
@[simp] theorem wC_loop {b:AC}:wC E lim (.loop b) K T H=Wp E (.loop b) lim T H K:=propext Iff.rfl
@[simp] theorem wOps_nil:wOps E lim k [] T H=k T H:=propext Iff.rfl
@[simp] theorem wOps_call {dst:Option Nat} {c:ACallee} {xs:List AX} {os:List AOper}:wOps E lim k (⟨dst,none,.call c xs⟩ :: os) T H=callP E lim H (callee E H T c (xs.map (·.ev T))) (afterP T dst (wOps E lim k os)):=propext Iff.rfl
@[simp] theorem wOps_test {dst:Option Nat} {t:Nat} {want:Bool} {op:AOp} {os:List AOper}:wOps E lim k (⟨dst,some (t,want),op⟩ :: os) T H=eitherP T[t]? want (wOps E lim k (⟨dst,none,op⟩ :: os)) (skipP dst (wOps E lim k os)) T H:=propext Iff.rfl
@[simp] theorem wDrs_nil:wDrs E lim k [] T H=k T H:=propext Iff.rfl
@[simp] theorem wDrs_call_t {dst:Option Nat} {c:ACallee} {xs:List AX} {os:List (Bool × AOper)}:wDrs E lim k ((true,⟨dst,none,.call c xs⟩) :: os) T H=callP E lim H (callee E H T c (xs.map (·.ev T))) fun r H1=>H.length≤H1.length∧afterP T dst (wDrs E lim k os) r H1:=propext Iff.rfl
@[simp] theorem wDrs_call_f {dst:Option Nat} {c:ACallee} {xs:List AX} {os:List (Bool × AOper)}:wDrs E lim k ((false,⟨dst,none,.call c xs⟩) :: os) T H=callP E H.length H (callee E H T c (xs.map (·.ev T))) fun r H1=>(∃ X,H1=H++X)∧afterP T dst (wDrs E lim k os) r H1:=propext Iff.rfl
@[simp] theorem wDrs_test {s:Bool} {dst:Option Nat} {t:Nat} {want:Bool} {op:AOp} {os:List (Bool × AOper)}:wDrs E lim k ((s,⟨dst,some (t,want),op⟩) :: os) T H=eitherP T[t]? want (wDrs E lim k ((s,⟨dst,none,op⟩) :: os)) (skipP dst (wDrs E lim k os)) T H:=propext Iff.rfl
@[simp] theorem wOps_fail {dst:Option Nat} {os:List AOper}:wOps E lim k (⟨dst,none,.fail⟩ :: os) T H=nextP (aop lim H T (.fail)) T dst (wOps E lim k os):=propext Iff.rfl
@[simp] theorem wDrs_fail {s:Bool} {dst:Option Nat} {os:List (Bool × AOper)}:wDrs E lim k ((s,⟨dst,none,.fail⟩) :: os) T H=nextD s (aop (if s then lim else H.length) H T (.fail)) T H dst (wDrs E lim k os):=propext Iff.rfl
@[simp] theorem wDrsH_fail_t {B:List Nat} {dst:Option Nat} {os:List (Bool × AOper)}:wDrsH E lim B k ((true,⟨dst,none,.fail⟩) :: os) T H=nextH B (aop lim (hide B H) T (.fail)) T H dst (wDrsH E lim B k os):=propext Iff.rfl
@[simp] theorem wDrsH_fail_f {B:List Nat} {dst:Option Nat} {os:List (Bool × AOper)}:wDrsH E lim B k ((false,⟨dst,none,.fail⟩) :: os) T H=nextD false (aop H.length H T (.fail)) T H dst (wDrsH E lim B k os):=propext Iff.rfl
@[simp] theorem wOps_mv {a0} {dst:Option Nat} {os:List AOper}:wOps E lim k (⟨dst,none,.mv a0⟩ :: os) T H=nextP (aop lim H T (.mv a0)) T dst (wOps E lim k os):=propext Iff.rfl
@[simp] theorem wDrs_mv {a0} {s:Bool} {dst:Option Nat} {os:List (Bool × AOper)}:wDrs E lim k ((s,⟨dst,none,.mv a0⟩) :: os) T H=nextD s (aop (if s then lim else H.length) H T (.mv a0)) T H dst (wDrs E lim k os):=propext Iff.rfl
@[simp] theorem wDrsH_mv_t {a0} {B:List Nat} {dst:Option Nat} {os:List (Bool × AOper)}:wDrsH E lim B k ((true,⟨dst,none,.mv a0⟩) :: os) T H=nextH B (aop lim (hide B H) T (.mv a0)) T H dst (wDrsH E lim B k os):=propext Iff.rfl
@[simp] theorem wDrsH_mv_f {a0} {B:List Nat} {dst:Option Nat} {os:List (Bool × AOper)}:wDrsH E lim B k ((false,⟨dst,none,.mv a0⟩) :: os) T H=nextD false (aop H.length H T (.mv a0)) T H dst (wDrsH E lim B k os):=propext Iff.rfl
@[simp] theorem wOps_pick {a0 a1 a2} {dst:Option Nat} {os:List AOper}:wOps E lim k (⟨dst,none,.pick a0 a1 a2⟩ :: os) T H=nextP (aop lim H T (.pick a0 a1 a2)) T dst (wOps E lim k os):=propext Iff.rfl
@[simp] theorem wDrs_pick {a0 a1 a2} {s:Bool} {dst:Option Nat} {os:List (Bool × AOper)}:wDrs E lim k ((s,⟨dst,none,.pick a0 a1 a2⟩) :: os) T H=nextD s (aop (if s then lim else H.length) H T (.pick a0 a1 a2)) T H dst (wDrs E lim k os):=propext Iff.rfl
@[simp] theorem wDrsH_pick_t {a0 a1 a2} {B:List Nat} {dst:Option Nat} {os:List (Bool × AOper)}:wDrsH E lim B k ((true,⟨dst,none,.pick a0 a1 a2⟩) :: os) T H=nextH B (aop lim (hide B H) T (.pick a0 a1 a2)) T H dst (wDrsH E lim B k os):=propext Iff.rfl
@[simp] theorem wDrsH_pick_f {a0 a1 a2} {B:List Nat} {dst:Option Nat} {os:List (Bool × AOper)}:wDrsH E lim B k ((false,⟨dst,none,.pick a0 a1 a2⟩) :: os) T H=nextD false (aop H.length H T (.pick a0 a1 a2)) T H dst (wDrsH E lim B k os):=propext Iff.rfl
@[simp] theorem wOps_alloc {a0} {dst:Option Nat} {os:List AOper}:wOps E lim k (⟨dst,none,.alloc a0⟩ :: os) T H=nextP (aop lim H T (.alloc a0)) T dst (wOps E lim k os):=propext Iff.rfl
@[simp] theorem wDrs_alloc {a0} {s:Bool} {dst:Option Nat} {os:List (Bool × AOper)}:wDrs E lim k ((s,⟨dst,none,.alloc a0⟩) :: os) T H=nextD s (aop (if s then lim else H.length) H T (.alloc a0)) T H dst (wDrs E lim k os):=propext Iff.rfl
@[simp] theorem wDrsH_alloc_t {a0} {B:List Nat} {dst:Option Nat} {os:List (Bool × AOper)}:wDrsH E lim B k ((true,⟨dst,none,.alloc a0⟩) :: os) T H=nextH B (aop lim (hide B H) T (.alloc a0)) T H dst (wDrsH E lim B k os):=propext Iff.rfl
@[simp] theorem wDrsH_alloc_f {a0} {B:List Nat} {dst:Option Nat} {os:List (Bool × AOper)}:wDrsH E lim B k ((false,⟨dst,none,.alloc a0⟩) :: os) T H=nextD false (aop H.length H T (.alloc a0)) T H dst (wDrsH E lim B k os):=propext Iff.rfl
@[simp] theorem wOps_box {a0} {dst:Option Nat} {os:List AOper}:wOps E lim k (⟨dst,none,.box a0⟩ :: os) T H=nextP (aop lim H T (.box a0)) T dst (wOps E lim k os):=propext Iff.rfl
@[simp] theorem wDrs_box {a0} {s:Bool} {dst:Option Nat} {os:List (Bool × AOper)}:wDrs E lim k ((s,⟨dst,none,.box a0⟩) :: os) T H=nextD s (aop (if s then lim else H.length) H T (.box a0)) T H dst (wDrs E lim k os):=propext Iff.rfl
@[simp] theorem wDrsH_box_t {a0} {B:List Nat} {dst:Option Nat} {os:List (Bool × AOper)}:wDrsH E lim B k ((true,⟨dst,none,.box a0⟩) :: os) T H=nextH B (aop lim (hide B H) T (.box a0)) T H dst (wDrsH E lim B k os):=propext Iff.rfl
@[simp] theorem wDrsH_box_f {a0} {B:List Nat} {dst:Option Nat} {os:List (Bool × AOper)}:wDrsH E lim B k ((false,⟨dst,none,.box a0⟩) :: os) T H=nextD false (aop H.length H T (.box a0)) T H dst (wDrsH E lim B k os):=propext Iff.rfl
@[simp] theorem wOps_build {a0 a1} {dst:Option Nat} {os:List AOper}:wOps E lim k (⟨dst,none,.build a0 a1⟩ :: os) T H=nextP (aop lim H T (.build a0 a1)) T dst (wOps E lim k os):=propext Iff.rfl
@[simp] theorem wDrs_build {a0 a1} {s:Bool} {dst:Option Nat} {os:List (Bool × AOper)}:wDrs E lim k ((s,⟨dst,none,.build a0 a1⟩) :: os) T H=nextD s (aop (if s then lim else H.length) H T (.build a0 a1)) T H dst (wDrs E lim k os):=propext Iff.rfl
@[simp] theorem wDrsH_build_t {a0 a1} {B:List Nat} {dst:Option Nat} {os:List (Bool × AOper)}:wDrsH E lim B k ((true,⟨dst,none,.build a0 a1⟩) :: os) T H=nextH B (aop lim (hide B H) T (.build a0 a1)) T H dst (wDrsH E lim B k os):=propext Iff.rfl
@[simp] theorem wDrsH_build_f {a0 a1} {B:List Nat} {dst:Option Nat} {os:List (Bool × AOper)}:wDrsH E lim B k ((false,⟨dst,none,.build a0 a1⟩) :: os) T H=nextD false (aop H.length H T (.build a0 a1)) T H dst (wDrsH E lim B k os):=propext Iff.rfl
@[simp] theorem wOps_buildSlice {a0 a1 a2 a3} {dst:Option Nat} {os:List AOper}:wOps E lim k (⟨dst,none,.buildSlice a0 a1 a2 a3⟩ :: os) T H=nextP (aop lim H T (.buildSlice a0 a1 a2 a3)) T dst (wOps E lim k os):=propext Iff.rfl
@[simp] theorem wDrs_buildSlice {a0 a1 a2 a3} {s:Bool} {dst:Option Nat} {os:List (Bool × AOper)}:wDrs E lim k ((s,⟨dst,none,.buildSlice a0 a1 a2 a3⟩) :: os) T H=nextD s (aop (if s then lim else H.length) H T (.buildSlice a0 a1 a2 a3)) T H dst (wDrs E lim k os):=propext Iff.rfl
@[simp] theorem wDrsH_buildSlice_t {a0 a1 a2 a3} {B:List Nat} {dst:Option Nat} {os:List (Bool × AOper)}:wDrsH E lim B k ((true,⟨dst,none,.buildSlice a0 a1 a2 a3⟩) :: os) T H=nextH B (aop lim (hide B H) T (.buildSlice a0 a1 a2 a3)) T H dst (wDrsH E lim B k os):=propext Iff.rfl
@[simp] theorem wDrsH_buildSlice_f {a0 a1 a2 a3} {B:List Nat} {dst:Option Nat} {os:List (Bool × AOper)}:wDrsH E lim B k ((false,⟨dst,none,.buildSlice a0 a1 a2 a3⟩) :: os) T H=nextD false (aop H.length H T (.buildSlice a0 a1 a2 a3)) T H dst (wDrsH E lim B k os):=propext Iff.rfl
@[simp] theorem wOps_load {a0 a1} {dst:Option Nat} {os:List AOper}:wOps E lim k (⟨dst,none,.load a0 a1⟩ :: os) T H=nextP (aop lim H T (.load a0 a1)) T dst (wOps E lim k os):=propext Iff.rfl
@[simp] theorem wDrs_load {a0 a1} {s:Bool} {dst:Option Nat} {os:List (Bool × AOper)}:wDrs E lim k ((s,⟨dst,none,.load a0 a1⟩) :: os) T H=nextD s (aop (if s then lim else H.length) H T (.load a0 a1)) T H dst (wDrs E lim k os):=propext Iff.rfl
@[simp] theorem wDrsH_load_t {a0 a1} {B:List Nat} {dst:Option Nat} {os:List (Bool × AOper)}:wDrsH E lim B k ((true,⟨dst,none,.load a0 a1⟩) :: os) T H=nextH B (aop lim (hide B H) T (.load a0 a1)) T H dst (wDrsH E lim B k os):=propext Iff.rfl
@[simp] theorem wDrsH_load_f {a0 a1} {B:List Nat} {dst:Option Nat} {os:List (Bool × AOper)}:wDrsH E lim B k ((false,⟨dst,none,.load a0 a1⟩) :: os) T H=(amongP B (a1.ev T)∧nextD false (aop H.length H T (.load a0 a1)) T H dst (wDrsH E lim B k os)):=propext Iff.rfl
@[simp] theorem wOps_store {a0 a1 a2} {dst:Option Nat} {os:List AOper}:wOps E lim k (⟨dst,none,.store a0 a1 a2⟩ :: os) T H=nextP (aop lim H T (.store a0 a1 a2)) T dst (wOps E lim k os):=propext Iff.rfl
@[simp] theorem wDrs_store {a0 a1 a2} {s:Bool} {dst:Option Nat} {os:List (Bool × AOper)}:wDrs E lim k ((s,⟨dst,none,.store a0 a1 a2⟩) :: os) T H=nextD s (aop (if s then lim else H.length) H T (.store a0 a1 a2)) T H dst (wDrs E lim k os):=propext Iff.rfl
@[simp] theorem wDrsH_store_t {a0 a1 a2} {B:List Nat} {dst:Option Nat} {os:List (Bool × AOper)}:wDrsH E lim B k ((true,⟨dst,none,.store a0 a1 a2⟩) :: os) T H=nextH B (aop lim (hide B H) T (.store a0 a1 a2)) T H dst (wDrsH E lim B k os):=propext Iff.rfl
@[simp] theorem wDrsH_store_f {a0 a1 a2} {B:List Nat} {dst:Option Nat} {os:List (Bool × AOper)}:wDrsH E lim B k ((false,⟨dst,none,.store a0 a1 a2⟩) :: os) T H=nextD false (aop H.length H T (.store a0 a1 a2)) T H dst (wDrsH E lim B k os):=propext Iff.rfl
@[simp] theorem wOps_nilchk {a0} {dst:Option Nat} {os:List AOper}:wOps E lim k (⟨dst,none,.nilchk a0⟩ :: os) T H=nextP (aop lim H T (.nilchk a0)) T dst (wOps E lim k os):=propext Iff.rfl
@[simp] theorem wDrs_nilchk {a0} {s:Bool} {dst:Option Nat} {os:List (Bool × AOper)}:wDrs E lim k ((s,⟨dst,none,.nilchk a0⟩) :: os) T H=nextD s (aop (if s then lim else H.length) H T (.nilchk a0)) T H dst (wDrs E lim k os):=propext Iff.rfl
@[simp] theorem wDrsH_nilchk_t {a0} {B:List Nat} {dst:Option Nat} {os:List (Bool × AOper)}:wDrsH E lim B k ((true,⟨dst,none,.nilchk a0⟩) :: os) T H=nextH B (aop lim (hide B H) T (.nilchk a0)) T H dst (wDrsH E lim B k os):=propext Iff.rfl
@[simp] theorem wDrsH_nilchk_f {a0} {B:List Nat} {dst:Option Nat} {os:List (Bool × AOper)}:wDrsH E lim B k ((false,⟨dst,none,.nilchk a0⟩) :: os) T H=nextD false (aop H.length H T (.nilchk a0)) T H dst (wDrsH E lim B k os):=propext Iff.rfl
@[simp] theorem wOps_bin {a0 a1 a2} {dst:Option Nat} {os:List AOper}:wOps E lim k (⟨dst,none,.bin a0 a1 a2⟩ :: os) T H=nextP (aop lim H T (.bin a0 a1 a2)) T dst (wOps E lim k os):=propext Iff.rfl
@[simp] theorem wDrs_bin {a0 a1 a2} {s:Bool} {dst:Option Nat} {os:List (Bool × AOper)}:wDrs E lim k ((s,⟨dst,none,.bin a0 a1 a2⟩) :: os) T H=nextD s (aop (if s then lim else H.length) H T (.bin a0 a1 a2)) T H dst (wDrs E lim k os):=propext Iff.rfl
@[simp] theorem wDrsH_bin_t {a0 a1 a2} {B:List Nat} {dst:Option Nat} {os:List (Bool × AOper)}:wDrsH E lim B k ((true,⟨dst,none,.bin a0 a1 a2⟩) :: os) T H=nextH B (aop lim (hide B H) T (.bin a0 a1 a2)) T H dst (wDrsH E lim B k os):=propext Iff.rfl
@[simp] theorem wDrsH_bin_f {a0 a1 a2} {B:List Nat} {dst:Option Nat} {os:List (Bool × AOper)}:wDrsH E lim B k ((false,⟨dst,none,.bin a0 a1 a2⟩) :: os) T H=nextD false (aop H.length H T (.bin a0 a1 a2)) T H dst (wDrsH E lim B k os):=propext Iff.rfl
@[simp] theorem wOps_eqagg {a0 a1 a2 a3} {dst:Option Nat} {os:List AOper}:wOps E lim k (⟨dst,none,.eqagg a0 a1 a2 a3⟩ :: os) T H=nextP (aop lim H T (.eqagg a0 a1 a2 a3)) T dst (wOps E lim k os):=propext Iff.rfl
@[simp] theorem wDrs_eqagg {a0 a1 a2 a3} {s:Bool} {dst:Option Nat} {os:List (Bool × AOper)}:wDrs E lim k ((s,⟨dst,none,.eqagg a0 a1 a2 a3⟩) :: os) T H=nextD s (aop (if s then lim else H.length) H T (.eqagg a0 a1 a2 a3)) T H dst (wDrs E lim k os):=propext Iff.rfl
@[simp] theorem wDrsH_eqagg_t {a0 a1 a2 a3} {B:List Nat} {dst:Option Nat} {os:List (Bool × AOper)}:wDrsH E lim B k ((true,⟨dst,none,.eqagg a0 a1 a2 a3⟩) :: os) T H=nextH B (aop lim (hide B H) T (.eqagg a0 a1 a2 a3)) T H dst (wDrsH E lim B k os):=propext Iff.rfl
@[simp] theorem wDrsH_eqagg_f {a0 a1 a2 a3} {B:List Nat} {dst:Option Nat} {os:List (Bool × AOper)}:wDrsH E lim B k ((false,⟨dst,none,.eqagg a0 a1 a2 a3⟩) :: os) T H=nextD false (aop H.length H T (.eqagg a0 a1 a2 a3)) T H dst (wDrsH E lim B k os):=propext Iff.rfl
@[simp] theorem wOps_eqbool {a0 a1 a2} {dst:Option Nat} {os:List AOper}:wOps E lim k (⟨dst,none,.eqbool a0 a1 a2⟩ :: os) T H=nextP (aop lim H T (.eqbool a0 a1 a2)) T dst (wOps E lim k os):=propext Iff.rfl
@[simp] theorem wDrs_eqbool {a0 a1 a2} {s:Bool} {dst:Option Nat} {os:List (Bool × AOper)}:wDrs E lim k ((s,⟨dst,none,.eqbool a0 a1 a2⟩) :: os) T H=nextD s (aop (if s then lim else H.length) H T (.eqbool a0 a1 a2)) T H dst (wDrs E lim k os):=propext Iff.rfl
@[simp] theorem wDrsH_eqbool_t {a0 a1 a2} {B:List Nat} {dst:Option Nat} {os:List (Bool × AOper)}:wDrsH E lim B k ((true,⟨dst,none,.eqbool a0 a1 a2⟩) :: os) T H=nextH B (aop lim (hide B H) T (.eqbool a0 a1 a2)) T H dst (wDrsH E lim B k os):=propext Iff.rfl
@[simp] theorem wDrsH_eqbool_f {a0 a1 a2} {B:List Nat} {dst:Option Nat} {os:List (Bool × AOper)}:wDrsH E lim B k ((false,⟨dst,none,.eqbool a0 a1 a2⟩) :: os) T H=nextD false (aop H.length H T (.eqbool a0 a1 a2)) T H dst (wDrsH E lim B k os):=propext Iff.rfl
@[simp] theorem wOps_eqptr {a0 a1 a2} {dst:Option Nat} {os:List AOper}:wOps E lim k (⟨dst,none,.eqptr a0 a1 a2⟩ :: os) T H=nextP (aop lim H T (.eqptr a0 a1 a2)) T dst (wOps E lim k os):=propext Iff.rfl
@[simp] theorem wDrs_eqptr {a0 a1 a2} {s:Bool} {dst:Option Nat} {os:List (Bool × AOper)}:wDrs E lim k ((s,⟨dst,none,.eqptr a0 a1 a2⟩) :: os) T H=nextD s (aop (if s then lim else H.length) H T (.eqptr a0 a1 a2)) T H dst (wDrs E lim k os):=propext Iff.rfl
@[simp] theorem wDrsH_eqptr_t {a0 a1 a2} {B:List Nat} {dst:Option Nat} {os:List (Bool × AOper)}:wDrsH E lim B k ((true,⟨dst,none,.eqptr a0 a1 a2⟩) :: os) T H=nextH B (aop lim (hide B H) T (.eqptr a0 a1 a2)) T H dst (wDrsH E lim B k os):=propext Iff.rfl
@[simp] theorem wDrsH_eqptr_f {a0 a1 a2} {B:List Nat} {dst:Option Nat} {os:List (Bool × AOper)}:wDrsH E lim B k ((false,⟨dst,none,.eqptr a0 a1 a2⟩) :: os) T H=nextD false (aop H.length H T (.eqptr a0 a1 a2)) T H dst (wDrsH E lim B k os):=propext Iff.rfl
@[simp] theorem wOps_eqmap {a0 a1 a2} {dst:Option Nat} {os:List AOper}:wOps E lim k (⟨dst,none,.eqmap a0 a1 a2⟩ :: os) T H=nextP (aop lim H T (.eqmap a0 a1 a2)) T dst (wOps E lim k os):=propext Iff.rfl
@[simp] theorem wDrs_eqmap {a0 a1 a2} {s:Bool} {dst:Option Nat} {os:List (Bool × AOper)}:wDrs E lim k ((s,⟨dst,none,.eqmap a0 a1 a2⟩) :: os) T H=nextD s (aop (if s then lim else H.length) H T (.eqmap a0 a1 a2)) T H dst (wDrs E lim k os):=propext Iff.rfl
@[simp] theorem wDrsH_eqmap_t {a0 a1 a2} {B:List Nat} {dst:Option Nat} {os:List (Bool × AOper)}:wDrsH E lim B k ((true,⟨dst,none,.eqmap a0 a1 a2⟩) :: os) T H=nextH B (aop lim (hide B H) T (.eqmap a0 a1 a2)) T H dst (wDrsH E lim B k os):=propext Iff.rfl
@[simp] theorem wDrsH_eqmap_f {a0 a1 a2} {B:List Nat} {dst:Option Nat} {os:List (Bool × AOper)}:wDrsH E lim B k ((false,⟨dst,none,.eqmap a0 a1 a2⟩) :: os) T H=nextD false (aop H.length H T (.eqmap a0 a1 a2)) T H dst (wDrsH E lim B k os):=propext Iff.rfl
@[simp] theorem wOps_un {a0 a1} {dst:Option Nat} {os:List AOper}:wOps E lim k (⟨dst,none,.un a0 a1⟩ :: os) T H=nextP (aop lim H T (.un a0 a1)) T dst (wOps E lim k os):=propext Iff.rfl
@[simp] theorem wDrs_un {a0 a1} {s:Bool} {dst:Option Nat} {os:List (Bool × AOper)}:wDrs E lim k ((s,⟨dst,none,.un a0 a1⟩) :: os) T H=nextD s (aop (if s then lim else H.length) H T (.un a0 a1)) T H dst (wDrs E lim k os):=propext Iff.rfl
@[simp] theorem wDrsH_un_t {a0 a1} {B:List Nat} {dst:Option Nat} {os:List (Bool × AOper)}:wDrsH E lim B k ((true,⟨dst,none,.un a0 a1⟩) :: os) T H=nextH B (aop lim (hide B H) T (.un a0 a1)) T H dst (wDrsH E lim B k os):=propext Iff.rfl
@[simp] theorem wDrsH_un_f {a0 a1} {B:List Nat} {dst:Option Nat} {os:List (Bool × AOper)}:wDrsH E lim B k ((false,⟨dst,none,.un a0 a1⟩) :: os) T H=nextD false (aop H.length H T (.un a0 a1)) T H dst (wDrsH E lim B k os):=propext Iff.rfl
@[simp] theorem wOps_conv {a0 a1} {dst:Option Nat} {os:List AOper}:wOps E lim k (⟨dst,none,.conv a0 a1⟩ :: os) T H=nextP (aop lim H T (.conv a0 a1)) T dst (wOps E lim k os):=propext Iff.rfl
@[simp] theorem wDrs_conv {a0 a1} {s:Bool} {dst:Option Nat} {os:List (Bool × AOper)}:wDrs E lim k ((s,⟨dst,none,.conv a0 a1⟩) :: os) T H=nextD s (aop (if s then lim else H.length) H T (.conv a0 a1)) T H dst (wDrs E lim k os):=propext Iff.rfl
@[simp] theorem wDrsH_conv_t {a0 a1} {B:List Nat} {dst:Option Nat} {os:List (Bool × AOper)}:wDrsH E lim B k ((true,⟨dst,none,.conv a0 a1⟩) :: os) T H=nextH B (aop lim (hide B H) T (.conv a0 a1)) T H dst (wDrsH E lim B k os):=propext Iff.rfl
@[simp] theorem wDrsH_conv_f {a0 a1} {B:List Nat} {dst:Option Nat} {os:List (Bool × AOper)}:wDrsH E lim B k ((false,⟨dst,none,.conv a0 a1⟩) :: os) T H=nextD false (aop H.length H T (.conv a0 a1)) T H dst (wDrsH E lim B k os):=propext Iff.rfl
@[simp] theorem wOps_same {a0} {dst:Option Nat} {os:List AOper}:wOps E lim k (⟨dst,none,.same a0⟩ :: os) T H=nextP (aop lim H T (.same a0)) T dst (wOps E lim k os):=propext Iff.rfl
@[simp] theorem wDrs_same {a0} {s:Bool} {dst:Option Nat} {os:List (Bool × AOper)}:wDrs E lim k ((s,⟨dst,none,.same a0⟩) :: os) T H=nextD s (aop (if s then lim else H.length) H T (.same a0)) T H dst (wDrs E lim k os):=propext Iff.rfl
@[simp] theorem wDrsH_same_t {a0} {B:List Nat} {dst:Option Nat} {os:List (Bool × AOper)}:wDrsH E lim B k ((true,⟨dst,none,.same a0⟩) :: os) T H=nextH B (aop lim (hide B H) T (.same a0)) T H dst (wDrsH E lim B k os):=propext Iff.rfl
@[simp] theorem wDrsH_same_f {a0} {B:List Nat} {dst:Option Nat} {os:List (Bool × AOper)}:wDrsH E lim B k ((false,⟨dst,none,.same a0⟩) :: os) T H=nextD false (aop H.length H T (.same a0)) T H dst (wDrsH E lim B k os):=propext Iff.rfl
@[simp] theorem wOps_ofBytes {a0} {dst:Option Nat} {os:List AOper}:wOps E lim k (⟨dst,none,.ofBytes a0⟩ :: os) T H=nextP (aop lim H T (.ofBytes a0)) T dst (wOps E lim k os):=propext Iff.rfl
@[simp] theorem wDrs_ofBytes {a0} {s:Bool} {dst:Option Nat} {os:List (Bool × AOper)}:wDrs E lim k ((s,⟨dst,none,.ofBytes a0⟩) :: os) T H=nextD s (aop (if s then lim else H.length) H T (.ofBytes a0)) T H dst (wDrs E lim k os):=propext Iff.rfl
@[simp] theorem wDrsH_ofBytes_t {a0} {B:List Nat} {dst:Option Nat} {os:List (Bool × AOper)}:wDrsH E lim B k ((true,⟨dst,none,.ofBytes a0⟩) :: os) T H=nextH B (aop lim (hide B H) T (.ofBytes a0)) T H dst (wDrsH E lim B k os):=propext Iff.rfl
@[simp] theorem wDrsH_ofBytes_f {a0} {B:List Nat} {dst:Option Nat} {os:List (Bool × AOper)}:wDrsH E lim B k ((false,⟨dst,none,.ofBytes a0⟩) :: os) T H=nextD false (aop H.length H T (.ofBytes a0)) T H dst (wDrsH E lim B k os):=propext Iff.rfl
@[simp] theorem wOps_fieldAddr {a0 a1} {dst:Option Nat} {os:List AOper}:wOps E lim k (⟨dst,none,.fieldAddr a0 a1⟩ :: os) T H=nextP (aop lim H T (.fieldAddr a0 a1)) T dst (wOps E lim k os):=propext Iff.rfl
@[simp] theorem wDrs_fieldAddr {a0 a1} {s:Bool} {dst:Option Nat} {os:List (Bool × AOper)}:wDrs E lim k ((s,⟨dst,none,.fieldAddr a0 a1⟩) :: os) T H=nextD s (aop (if s then lim else H.length) H T (.fieldAddr a0 a1)) T H dst (wDrs E lim k os):=propext Iff.rfl
@[simp] theorem wDrsH_fieldAddr_t {a0 a1} {B:List Nat} {dst:Option Nat} {os:List (Bool × AOper)}:wDrsH E lim B k ((true,⟨dst,none,.fieldAddr a0 a1⟩) :: os) T H=nextH B (aop lim (hide B H) T (.fieldAddr a0 a1)) T H dst (wDrsH E lim B k os):=propext Iff.rfl
@[simp] theorem wDrsH_fieldAddr_f {a0 a1} {B:List Nat} {dst:Option Nat} {os:List (Bool × AOper)}:wDrsH E lim B k ((false,⟨dst,none,.fieldAddr a0 a1⟩) :: os) T H=nextD false (aop H.length H T (.fieldAddr a0 a1)) T H dst (wDrsH E lim B k os):=propext Iff.rfl
@[simp] theorem wOps_field {a0 a1 a2} {dst:Option Nat} {os:List AOper}:wOps E lim k (⟨dst,none,.field a0 a1 a2⟩ :: os) T H=nextP (aop lim H T (.field a0 a1 a2)) T dst (wOps E lim k os):=propext Iff.rfl
@[simp] theorem wDrs_field {a0 a1 a2} {s:Bool} {dst:Option Nat} {os:List (Bool × AOper)}:wDrs E lim k ((s,⟨dst,none,.field a0 a1 a2⟩) :: os) T H=nextD s (aop (if s then lim else H.length) H T (.field a0 a1 a2)) T H dst (wDrs E lim k os):=propext Iff.rfl
@[simp] theorem wDrsH_field_t {a0 a1 a2} {B:List Nat} {dst:Option Nat} {os:List (Bool × AOper)}:wDrsH E lim B k ((true,⟨dst,none,.field a0 a1 a2⟩) :: os) T H=nextH B (aop lim (hide B H) T (.field a0 a1 a2)) T H dst (wDrsH E lim B k os):=propext Iff.rfl
@[simp] theorem wDrsH_field_f {a0 a1 a2} {B:List Nat} {dst:Option Nat} {os:List (Bool × AOper)}:wDrsH E lim B k ((false,⟨dst,none,.field a0 a1 a2⟩) :: os) T H=nextD false (aop H.length H T (.field a0 a1 a2)) T H dst (wDrsH E lim B k os):=propext Iff.rfl
@[simp] theorem wOps_idxArr {a0 a1 a2 a3} {dst:Option Nat} {os:List AOper}:wOps E lim k (⟨dst,none,.idxArr a0 a1 a2 a3⟩ :: os) T H=nextP (aop lim H T (.idxArr a0 a1 a2 a3)) T dst (wOps E lim k os):=propext Iff.rfl
@[simp] theorem wDrs_idxArr {a0 a1 a2 a3} {s:Bool} {dst:Option Nat} {os:List (Bool × AOper)}:wDrs E lim k ((s,⟨dst,none,.idxArr a0 a1 a2 a3⟩) :: os) T H=nextD s (aop (if s then lim else H.length) H T (.idxArr a0 a1 a2 a3)) T H dst (wDrs E lim k os):=propext Iff.rfl
@[simp] theorem wDrsH_idxArr_t {a0 a1 a2 a3} {B:List Nat} {dst:Option Nat} {os:List (Bool × AOper)}:wDrsH E lim B k ((true,⟨dst,none,.idxArr a0 a1 a2 a3⟩) :: os) T H=nextH B (aop lim (hide B H) T (.idxArr a0 a1 a2 a3)) T H dst (wDrsH E lim B k os):=propext Iff.rfl
@[simp] theorem wDrsH_idxArr_f {a0 a1 a2 a3} {B:List Nat} {dst:Option Nat} {os:List (Bool × AOper)}:wDrsH E lim B k ((false,⟨dst,none,.idxArr a0 a1 a2 a3⟩) :: os) T H=nextD false (aop H.length H T (.idxArr a0 a1 a2 a3)) T H dst (wDrsH E lim B k os):=propext Iff.rfl
@[simp] theorem wOps_idxSl {a0 a1 a2} {dst:Option Nat} {os:List AOper}:wOps E lim k (⟨dst,none,.idxSl a0 a1 a2⟩ :: os) T H=nextP (aop lim H T (.idxSl a0 a1 a2)) T dst (wOps E lim k os):=propext Iff.rfl
@[simp] theorem wDrs_idxSl {a0 a1 a2} {s:Bool} {dst:Option Nat} {os:List (Bool × AOper)}:wDrs E lim k ((s,⟨dst,none,.idxSl a0 a1 a2⟩) :: os) T H=nextD s (aop (if s then lim else H.length) H T (.idxSl a0 a1 a2)) T H dst (wDrs E lim k os):=propext Iff.rfl
@[simp] theorem wDrsH_idxSl_t {a0 a1 a2} {B:List Nat} {dst:Option Nat} {os:List (Bool × AOper)}:wDrsH E lim B k ((true,⟨dst,none,.idxSl a0 a1 a2⟩) :: os) T H=nextH B (aop lim (hide B H) T (.idxSl a0 a1 a2)) T H dst (wDrsH E lim B k os):=propext Iff.rfl
@[simp] theorem wDrsH_idxSl_f {a0 a1 a2} {B:List Nat} {dst:Option Nat} {os:List (Bool × AOper)}:wDrsH E lim B k ((false,⟨dst,none,.idxSl a0 a1 a2⟩) :: os) T H=nextD false (aop H.length H T (.idxSl a0 a1 a2)) T H dst (wDrsH E lim B k os):=propext Iff.rfl
@[simp] theorem wOps_idxVal {a0 a1 a2 a3 a4} {dst:Option Nat} {os:List AOper}:wOps E lim k (⟨dst,none,.idxVal a0 a1 a2 a3 a4⟩ :: os) T H=nextP (aop lim H T (.idxVal a0 a1 a2 a3 a4)) T dst (wOps E lim k os):=propext Iff.rfl
@[simp] theorem wDrs_idxVal {a0 a1 a2 a3 a4} {s:Bool} {dst:Option Nat} {os:List (Bool × AOper)}:wDrs E lim k ((s,⟨dst,none,.idxVal a0 a1 a2 a3 a4⟩) :: os) T H=nextD s (aop (if s then lim else H.length) H T (.idxVal a0 a1 a2 a3 a4)) T H dst (wDrs E lim k os):=propext Iff.rfl
@[simp] theorem wDrsH_idxVal_t {a0 a1 a2 a3 a4} {B:List Nat} {dst:Option Nat} {os:List (Bool × AOper)}:wDrsH E lim B k ((true,⟨dst,none,.idxVal a0 a1 a2 a3 a4⟩) :: os) T H=nextH B (aop lim (hide B H) T (.idxVal a0 a1 a2 a3 a4)) T H dst (wDrsH E lim B k os):=propext Iff.rfl
@[simp] theorem wDrsH_idxVal_f {a0 a1 a2 a3 a4} {B:List Nat} {dst:Option Nat} {os:List (Bool × AOper)}:wDrsH E lim B k ((false,⟨dst,none,.idxVal a0 a1 a2 a3 a4⟩) :: os) T H=nextD false (aop H.length H T (.idxVal a0 a1 a2 a3 a4)) T H dst (wDrsH E lim B k os):=propext Iff.rfl
@[simp] theorem wOps_idxStr {a0 a1} {dst:Option Nat} {os:List AOper}:wOps E lim k (⟨dst,none,.idxStr a0 a1⟩ :: os) T H=nextP (aop lim H T (.idxStr a0 a1)) T dst (wOps E lim k os):=propext Iff.rfl
@[simp] theorem wDrs_idxStr {a0 a1} {s:Bool} {dst:Option Nat} {os:List (Bool × AOper)}:wDrs E lim k ((s,⟨dst,none,.idxStr a0 a1⟩) :: os) T H=nextD s (aop (if s then lim else H.length) H T (.idxStr a0 a1)) T H dst (wDrs E lim k os):=propext Iff.rfl
@[simp] theorem wDrsH_idxStr_t {a0 a1} {B:List Nat} {dst:Option Nat} {os:List (Bool × AOper)}:wDrsH E lim B k ((true,⟨dst,none,.idxStr a0 a1⟩) :: os) T H=nextH B (aop lim (hide B H) T (.idxStr a0 a1)) T H dst (wDrsH E lim B k os):=propext Iff.rfl
@[simp] theorem wDrsH_idxStr_f {a0 a1} {B:List Nat} {dst:Option Nat} {os:List (Bool × AOper)}:wDrsH E lim B k ((false,⟨dst,none,.idxStr a0 a1⟩) :: os) T H=nextD false (aop H.length H T (.idxStr a0 a1)) T H dst (wDrsH E lim B k os):=propext Iff.rfl
@[simp] theorem wOps_sliceArr {a0 a1 a2 a3 a4 a5} {dst:Option Nat} {os:List AOper}:wOps E lim k (⟨dst,none,.sliceArr a0 a1 a2 a3 a4 a5⟩ :: os) T H=nextP (aop lim H T (.sliceArr a0 a1 a2 a3 a4 a5)) T dst (wOps E lim k os):=propext Iff.rfl
@[simp] theorem wDrs_sliceArr {a0 a1 a2 a3 a4 a5} {s:Bool} {dst:Option Nat} {os:List (Bool × AOper)}:wDrs E lim k ((s,⟨dst,none,.sliceArr a0 a1 a2 a3 a4 a5⟩) :: os) T H=nextD s (aop (if s then lim else H.length) H T (.sliceArr a0 a1 a2 a3 a4 a5)) T H dst (wDrs E lim k os):=propext Iff.rfl
@[simp] theorem wDrsH_sliceArr_t {a0 a1 a2 a3 a4 a5} {B:List Nat} {dst:Option Nat} {os:List (Bool × AOper)}:wDrsH E lim B k ((true,⟨dst,none,.sliceArr a0 a1 a2 a3 a4 a5⟩) :: os) T H=nextH B (aop lim (hide B H) T (.sliceArr a0 a1 a2 a3 a4 a5)) T H dst (wDrsH E lim B k os):=propext Iff.rfl
@[simp] theorem wDrsH_sliceArr_f {a0 a1 a2 a3 a4 a5} {B:List Nat} {dst:Option Nat} {os:List (Bool × AOper)}:wDrsH E lim B k ((false,⟨dst,none,.sliceArr a0 a1 a2 a3 a4 a5⟩) :: os) T H=nextD false (aop H.length H T (.sliceArr a0 a1 a2 a3 a4 a5)) T H dst (wDrsH E lim B k os):=propext Iff.rfl
@[simp] theorem wOps_sliceSl {a0 a1 a2 a3 a4} {dst:Option Nat} {os:List AOper}:wOps E lim k (⟨dst,none,.sliceSl a0 a1 a2 a3 a4⟩ :: os) T H=nextP (aop lim H T (.sliceSl a0 a1 a2 a3 a4)) T dst (wOps E lim k os):=propext Iff.rfl
@[simp] theorem wDrs_sliceSl {a0 a1 a2 a3 a4} {s:Bool} {dst:Option Nat} {os:List (Bool × AOper)}:wDrs E lim k ((s,⟨dst,none,.sliceSl a0 a1 a2 a3 a4⟩) :: os) T H=nextD s (aop (if s then lim else H.length) H T (.sliceSl a0 a1 a2 a3 a4)) T H dst (wDrs E lim k os):=propext Iff.rfl
@[simp] theorem wDrsH_sliceSl_t {a0 a1 a2 a3 a4} {B:List Nat} {dst:Option Nat} {os:List (Bool × AOper)}:wDrsH E lim B k ((true,⟨dst,none,.sliceSl a0 a1 a2 a3 a4⟩) :: os) T H=nextH B (aop lim (hide B H) T (.sliceSl a0 a1 a2 a3 a4)) T H dst (wDrsH E lim B k os):=propext Iff.rfl
@[simp] theorem wDrsH_sliceSl_f {a0 a1 a2 a3 a4} {B:List Nat} {dst:Option Nat} {os:List (Bool × AOper)}:wDrsH E lim B k ((false,⟨dst,none,.sliceSl a0 a1 a2 a3 a4⟩) :: os) T H=nextD false (aop H.length H T (.sliceSl a0 a1 a2 a3 a4)) T H dst (wDrsH E lim B k os):=propext Iff.rfl
@[simp] theorem wOps_sliceStr {a0 a1 a2} {dst:Option Nat} {os:List AOper}:wOps E lim k (⟨dst,none,.sliceStr a0 a1 a2⟩ :: os) T H=nextP (aop lim H T (.sliceStr a0 a1 a2)) T dst (wOps E lim k os):=propext Iff.rfl
@[simp] theorem wDrs_sliceStr {a0 a1 a2} {s:Bool} {dst:Option Nat} {os:List (Bool × AOper)}:wDrs E lim k ((s,⟨dst,none,.sliceStr a0 a1 a2⟩) :: os) T H=nextD s (aop (if s then lim else H.length) H T (.sliceStr a0 a1 a2)) T H dst (wDrs E lim k os):=propext Iff.rfl
@[simp] theorem wDrsH_sliceStr_t {a0 a1 a2} {B:List Nat} {dst:Option Nat} {os:List (Bool × AOper)}:wDrsH E lim B k ((true,⟨dst,none,.sliceStr a0 a1 a2⟩) :: os) T H=nextH B (aop lim (hide B H) T (.sliceStr a0 a1 a2)) T H dst (wDrsH E lim B k os):=propext Iff.rfl
@[simp] theorem wDrsH_sliceStr_f {a0 a1 a2} {B:List Nat} {dst:Option Nat} {os:List (Bool × AOper)}:wDrsH E lim B k ((false,⟨dst,none,.sliceStr a0 a1 a2⟩) :: os) T H=nextD false (aop H.length H T (.sliceStr a0 a1 a2)) T H dst (wDrsH E lim B k os):=propext Iff.rfl
@[simp] theorem wOps_extract {a0 a1} {dst:Option Nat} {os:List AOper}:wOps E lim k (⟨dst,none,.extract a0 a1⟩ :: os) T H=nextP (aop lim H T (.extract a0 a1)) T dst (wOps E lim k os):=propext Iff.rfl
@[simp] theorem wDrs_extract {a0 a1} {s:Bool} {dst:Option Nat} {os:List (Bool × AOper)}:wDrs E lim k ((s,⟨dst,none,.extract a0 a1⟩) :: os) T H=nextD s (aop (if s then lim else H.length) H T (.extract a0 a1)) T H dst (wDrs E lim k os):=propext Iff.rfl
@[simp] theorem wDrsH_extract_t {a0 a1} {B:List Nat} {dst:Option Nat} {os:List (Bool × AOper)}:wDrsH E lim B k ((true,⟨dst,none,.extract a0 a1⟩) :: os) T H=nextH B (aop lim (hide B H) T (.extract a0 a1)) T H dst (wDrsH E lim B k os):=propext Iff.rfl
@[simp] theorem wDrsH_extract_f {a0 a1} {B:List Nat} {dst:Option Nat} {os:List (Bool × AOper)}:wDrsH E lim B k ((false,⟨dst,none,.extract a0 a1⟩) :: os) T H=nextD false (aop H.length H T (.extract a0 a1)) T H dst (wDrsH E lim B k os):=propext Iff.rfl
@[simp] theorem wOps_mkFn {a0 a1 a2} {dst:Option Nat} {os:List AOper}:wOps E lim k (⟨dst,none,.mkFn a0 a1 a2⟩ :: os) T H=nextP (aop lim H T (.mkFn a0 a1 a2)) T dst (wOps E lim k os):=propext Iff.rfl
@[simp] theorem wDrs_mkFn {a0 a1 a2} {s:Bool} {dst:Option Nat} {os:List (Bool × AOper)}:wDrs E lim k ((s,⟨dst,none,.mkFn a0 a1 a2⟩) :: os) T H=nextD s (aop (if s then lim else H.length) H T (.mkFn a0 a1 a2)) T H dst (wDrs E lim k os):=propext Iff.rfl
@[simp] theorem wDrsH_mkFn_t {a0 a1 a2} {B:List Nat} {dst:Option Nat} {os:List (Bool × AOper)}:wDrsH E lim B k ((true,⟨dst,none,.mkFn a0 a1 a2⟩) :: os) T H=nextH B (aop lim (hide B H) T (.mkFn a0 a1 a2)) T H dst (wDrsH E lim B k os):=propext Iff.rfl
@[simp] theorem wDrsH_mkFn_f {a0 a1 a2} {B:List Nat} {dst:Option Nat} {os:List (Bool × AOper)}:wDrsH E lim B k ((false,⟨dst,none,.mkFn a0 a1 a2⟩) :: os) T H=nextD false (aop H.length H T (.mkFn a0 a1 a2)) T H dst (wDrsH E lim B k os):=propext Iff.rfl
@[simp] theorem wOps_mkIface {a0 a1} {dst:Option Nat} {os:List AOper}:wOps E lim k (⟨dst,none,.mkIface a0 a1⟩ :: os) T H=nextP (aop lim H T (.mkIface a0 a1)) T dst (wOps E lim k os):=propext Iff.rfl
@[simp] theorem wDrs_mkIface {a0 a1} {s:Bool} {dst:Option Nat} {os:List (Bool × AOper)}:wDrs E lim k ((s,⟨dst,none,.mkIface a0 a1⟩) :: os) T H=nextD s (aop (if s then lim else H.length) H T (.mkIface a0 a1)) T H dst (wDrs E lim k os):=propext Iff.rfl
@[simp] theorem wDrsH_mkIface_t {a0 a1} {B:List Nat} {dst:Option Nat} {os:List (Bool × AOper)}:wDrsH E lim B k ((true,⟨dst,none,.mkIface a0 a1⟩) :: os) T H=nextH B (aop lim (hide B H) T (.mkIface a0 a1)) T H dst (wDrsH E lim B k os):=propext Iff.rfl
@[simp] theorem wDrsH_mkIface_f {a0 a1} {B:List Nat} {dst:Option Nat} {os:List (Bool × AOper)}:wDrsH E lim B k ((false,⟨dst,none,.mkIface a0 a1⟩) :: os) T H=nextD false (aop H.length H T (.mkIface a0 a1)) T H dst (wDrsH E lim B k os):=propext Iff.rfl
@[simp] theorem wOps_assertTo {a0 a1 a2} {dst:Option Nat} {os:List AOper}:wOps E lim k (⟨dst,none,.assertTo a0 a1 a2⟩ :: os) T H=nextP (aop lim H T (.assertTo a0 a1 a2)) T dst (wOps E lim k os):=propext Iff.rfl
@[simp] theorem wDrs_assertTo {a0 a1 a2} {s:Bool} {dst:Option Nat} {os:List (Bool × AOper)}:wDrs E lim k ((s,⟨dst,none,.assertTo a0 a1 a2⟩) :: os) T H=nextD s (aop (if s then lim else H.length) H T (.assertTo a0 a1 a2)) T H dst (wDrs E lim k os):=propext Iff.rfl
@[simp] theorem wDrsH_assertTo_t {a0 a1 a2} {B:List Nat} {dst:Option Nat} {os:List (Bool × AOper)}:wDrsH E lim B k ((true,⟨dst,none,.assertTo a0 a1 a2⟩) :: os) T H=nextH B (aop lim (hide B H) T (.assertTo a0 a1 a2)) T H dst (wDrsH E lim B k os):=propext Iff.rfl
@[simp] theorem wDrsH_assertTo_f {a0 a1 a2} {B:List Nat} {dst:Option Nat} {os:List (Bool × AOper)}:wDrsH E lim B k ((false,⟨dst,none,.assertTo a0 a1 a2⟩) :: os) T H=nextD false (aop H.length H T (.assertTo a0 a1 a2)) T H dst (wDrsH E lim B k os):=propext Iff.rfl
@[simp] theorem wOps_mkSlice {a0 a1 a2 a3 a4} {dst:Option Nat} {os:List AOper}:wOps E lim k (⟨dst,none,.mkSlice a0 a1 a2 a3 a4⟩ :: os) T H=nextP (aop lim H T (.mkSlice a0 a1 a2 a3 a4)) T dst (wOps E lim k os):=propext Iff.rfl
@[simp] theorem wDrs_mkSlice {a0 a1 a2 a3 a4} {s:Bool} {dst:Option Nat} {os:List (Bool × AOper)}:wDrs E lim k ((s,⟨dst,none,.mkSlice a0 a1 a2 a3 a4⟩) :: os) T H=nextD s (aop (if s then lim else H.length) H T (.mkSlice a0 a1 a2 a3 a4)) T H dst (wDrs E lim k os):=propext Iff.rfl
@[simp] theorem wDrsH_mkSlice_t {a0 a1 a2 a3 a4} {B:List Nat} {dst:Option Nat} {os:List (Bool × AOper)}:wDrsH E lim B k ((true,⟨dst,none,.mkSlice a0 a1 a2 a3 a4⟩) :: os) T H=nextH B (aop lim (hide B H) T (.mkSlice a0 a1 a2 a3 a4)) T H dst (wDrsH E lim B k os):=propext Iff.rfl
@[simp] theorem wDrsH_mkSlice_f {a0 a1 a2 a3 a4} {B:List Nat} {dst:Option Nat} {os:List (Bool × AOper)}:wDrsH E lim B k ((false,⟨dst,none,.mkSlice a0 a1 a2 a3 a4⟩) :: os) T H=nextD false (aop H.length H T (.mkSlice a0 a1 a2 a3 a4)) T H dst (wDrsH E lim B k os):=propext Iff.rfl
@[simp] theorem wOps_mkMap {dst:Option Nat} {os:List AOper}:wOps E lim k (⟨dst,none,.mkMap⟩ :: os) T H=nextP (aop lim H T (.mkMap)) T dst (wOps E lim k os):=propext Iff.rfl
@[simp] theorem wDrs_mkMap {s:Bool} {dst:Option Nat} {os:List (Bool × AOper)}:wDrs E lim k ((s,⟨dst,none,.mkMap⟩) :: os) T H=nextD s (aop (if s then lim else H.length) H T (.mkMap)) T H dst (wDrs E lim k os):=propext Iff.rfl
@[simp] theorem wDrsH_mkMap_t {B:List Nat} {dst:Option Nat} {os:List (Bool × AOper)}:wDrsH E lim B k ((true,⟨dst,none,.mkMap⟩) :: os) T H=nextH B (aop lim (hide B H) T (.mkMap)) T H dst (wDrsH E lim B k os):=propext Iff.rfl
@[simp] theorem wDrsH_mkMap_f {B:List Nat} {dst:Option Nat} {os:List (Bool × AOper)}:wDrsH E lim B k ((false,⟨dst,none,.mkMap⟩) :: os) T H=nextD false (aop H.length H T (.mkMap)) T H dst (wDrsH E lim B k os):=propext Iff.rfl
@[simp] theorem wOps_lookup {a0 a1 a2 a3 a4} {dst:Option Nat} {os:List AOper}:wOps E lim k (⟨dst,none,.lookup a0 a1 a2 a3 a4⟩ :: os) T H=nextP (aop lim H T (.lookup a0 a1 a2 a3 a4)) T dst (wOps E lim k os):=propext Iff.rfl
@[simp] theorem wDrs_lookup {a0 a1 a2 a3 a4} {s:Bool} {dst:Option Nat} {os:List (Bool × AOper)}:wDrs E lim k ((s,⟨dst,none,.lookup a0 a1 a2 a3 a4⟩) :: os) T H=nextD s (aop (if s then lim else H.length) H T (.lookup a0 a1 a2 a3 a4)) T H dst (wDrs E lim k os):=propext Iff.rfl
@[simp] theorem wDrsH_lookup_t {a0 a1 a2 a3 a4} {B:List Nat} {dst:Option Nat} {os:List (Bool × AOper)}:wDrsH E lim B k ((true,⟨dst,none,.lookup a0 a1 a2 a3 a4⟩) :: os) T H=nextH B (aop lim (hide B H) T (.lookup a0 a1 a2 a3 a4)) T H dst (wDrsH E lim B k os):=propext Iff.rfl
@[simp] theorem wDrsH_lookup_f {a0 a1 a2 a3 a4} {B:List Nat} {dst:Option Nat} {os:List (Bool × AOper)}:wDrsH E lim B k ((false,⟨dst,none,.lookup a0 a1 a2 a3 a4⟩) :: os) T H=nextD false (aop H.length H T (.lookup a0 a1 a2 a3 a4)) T H dst (wDrsH E lim B k os):=propext Iff.rfl
@[simp] theorem wOps_mapSet {a0 a1 a2 a3} {dst:Option Nat} {os:List AOper}:wOps E lim k (⟨dst,none,.mapSet a0 a1 a2 a3⟩ :: os) T H=nextP (aop lim H T (.mapSet a0 a1 a2 a3)) T dst (wOps E lim k os):=propext Iff.rfl
@[simp] theorem wDrs_mapSet {a0 a1 a2 a3} {s:Bool} {dst:Option Nat} {os:List (Bool × AOper)}:wDrs E lim k ((s,⟨dst,none,.mapSet a0 a1 a2 a3⟩) :: os) T H=nextD s (aop (if s then lim else H.length) H T (.mapSet a0 a1 a2 a3)) T H dst (wDrs E lim k os):=propext Iff.rfl
@[simp] theorem wDrsH_mapSet_t {a0 a1 a2 a3} {B:List Nat} {dst:Option Nat} {os:List (Bool × AOper)}:wDrsH E lim B k ((true,⟨dst,none,.mapSet a0 a1 a2 a3⟩) :: os) T H=nextH B (aop lim (hide B H) T (.mapSet a0 a1 a2 a3)) T H dst (wDrsH E lim B k os):=propext Iff.rfl
@[simp] theorem wDrsH_mapSet_f {a0 a1 a2 a3} {B:List Nat} {dst:Option Nat} {os:List (Bool × AOper)}:wDrsH E lim B k ((false,⟨dst,none,.mapSet a0 a1 a2 a3⟩) :: os) T H=nextD false (aop H.length H T (.mapSet a0 a1 a2 a3)) T H dst (wDrsH E lim B k os):=propext Iff.rfl
@[simp] theorem wOps_mapDel {a0 a1 a2} {dst:Option Nat} {os:List AOper}:wOps E lim k (⟨dst,none,.mapDel a0 a1 a2⟩ :: os) T H=nextP (aop lim H T (.mapDel a0 a1 a2)) T dst (wOps E lim k os):=propext Iff.rfl
@[simp] theorem wDrs_mapDel {a0 a1 a2} {s:Bool} {dst:Option Nat} {os:List (Bool × AOper)}:wDrs E lim k ((s,⟨dst,none,.mapDel a0 a1 a2⟩) :: os) T H=nextD s (aop (if s then lim else H.length) H T (.mapDel a0 a1 a2)) T H dst (wDrs E lim k os):=propext Iff.rfl
@[simp] theorem wDrsH_mapDel_t {a0 a1 a2} {B:List Nat} {dst:Option Nat} {os:List (Bool × AOper)}:wDrsH E lim B k ((true,⟨dst,none,.mapDel a0 a1 a2⟩) :: os) T H=nextH B (aop lim (hide B H) T (.mapDel a0 a1 a2)) T H dst (wDrsH E lim B k os):=propext Iff.rfl
@[simp] theorem wDrsH_mapDel_f {a0 a1 a2} {B:List Nat} {dst:Option Nat} {os:List (Bool × AOper)}:wDrsH E lim B k ((false,⟨dst,none,.mapDel a0 a1 a2⟩) :: os) T H=nextD false (aop H.length H T (.mapDel a0 a1 a2)) T H dst (wDrsH E lim B k os):=propext Iff.rfl
@[simp] theorem wOps_rangeM {a0} {dst:Option Nat} {os:List AOper}:wOps E lim k (⟨dst,none,.rangeM a0⟩ :: os) T H=nextP (aop lim H T (.rangeM a0)) T dst (wOps E lim k os):=propext Iff.rfl
@[simp] theorem wDrs_rangeM {a0} {s:Bool} {dst:Option Nat} {os:List (Bool × AOper)}:wDrs E lim k ((s,⟨dst,none,.rangeM a0⟩) :: os) T H=nextD s (aop (if s then lim else H.length) H T (.rangeM a0)) T H dst (wDrs E lim k os):=propext Iff.rfl
@[simp] theorem wDrsH_rangeM_t {a0} {B:List Nat} {dst:Option Nat} {os:List (Bool × AOper)}:wDrsH E lim B k ((true,⟨dst,none,.rangeM a0⟩) :: os) T H=nextH B (aop lim (hide B H) T (.rangeM a0)) T H dst (wDrsH E lim B k os):=propext Iff.rfl
@[simp] theorem wDrsH_rangeM_f {a0} {B:List Nat} {dst:Option Nat} {os:List (Bool × AOper)}:wDrsH E lim B k ((false,⟨dst,none,.rangeM a0⟩) :: os) T H=nextD false (aop H.length H T (.rangeM a0)) T H dst (wDrsH E lim B k os):=propext Iff.rfl
@[simp] theorem wOps_nextM {a0} {dst:Option Nat} {os:List AOper}:wOps E lim k (⟨dst,none,.nextM a0⟩ :: os) T H=nextP (aop lim H T (.nextM a0)) T dst (wOps E lim k os):=propext Iff.rfl
@[simp] theorem wDrs_nextM {a0} {s:Bool} {dst:Option Nat} {os:List (Bool × AOper)}:wDrs E lim k ((s,⟨dst,none,.nextM a0⟩) :: os) T H=nextD s (aop (if s then lim else H.length) H T (.nextM a0)) T H dst (wDrs E lim k os):=propext Iff.rfl
@[simp] theorem wDrsH_nextM_t {a0} {B:List Nat} {dst:Option Nat} {os:List (Bool × AOper)}:wDrsH E lim B k ((true,⟨dst,none,.nextM a0⟩) :: os) T H=nextH B (aop lim (hide B H) T (.nextM a0)) T H dst (wDrsH E lim B k os):=propext Iff.rfl
@[simp] theorem wDrsH_nextM_f {a0} {B:List Nat} {dst:Option Nat} {os:List (Bool × AOper)}:wDrsH E lim B k ((false,⟨dst,none,.nextM a0⟩) :: os) T H=nextD false (aop H.length H T (.nextM a0)) T H dst (wDrsH E lim B k os):=propext Iff.rfl
@[simp] theorem wOps_entryM {a0} {dst:Option Nat} {os:List AOper}:wOps E lim k (⟨dst,none,.entryM a0⟩ :: os) T H=nextP (aop lim H T (.entryM a0)) T dst (wOps E lim k os):=propext Iff.rfl
@[simp] theorem wDrs_entryM {a0} {s:Bool} {dst:Option Nat} {os:List (Bool × AOper)}:wDrs E lim k ((s,⟨dst,none,.entryM a0⟩) :: os) T H=nextD s (aop (if s then lim else H.length) H T (.entryM a0)) T H dst (wDrs E lim k os):=propext Iff.rfl
@[simp] theorem wDrsH_entryM_t {a0} {B:List Nat} {dst:Option Nat} {os:List (Bool × AOper)}:wDrsH E lim B k ((true,⟨dst,none,.entryM a0⟩) :: os) T H=nextH B (aop lim (hide B H) T (.entryM a0)) T H dst (wDrsH E lim B k os):=propext Iff.rfl
@[simp] theorem wDrsH_entryM_f {a0} {B:List Nat} {dst:Option Nat} {os:List (Bool × AOper)}:wDrsH E lim B k ((false,⟨dst,none,.entryM a0⟩) :: os) T H=nextD false (aop H.length H T (.entryM a0)) T H dst (wDrsH E lim B k os):=propext Iff.rfl
@[simp] theorem wOps_lenSl {a0} {dst:Option Nat} {os:List AOper}:wOps E lim k (⟨dst,none,.lenSl a0⟩ :: os) T H=nextP (aop lim H T (.lenSl a0)) T dst (wOps E lim k os):=propext Iff.rfl
@[simp] theorem wDrs_lenSl {a0} {s:Bool} {dst:Option Nat} {os:List (Bool × AOper)}:wDrs E lim k ((s,⟨dst,none,.lenSl a0⟩) :: os) T H=nextD s (aop (if s then lim else H.length) H T (.lenSl a0)) T H dst (wDrs E lim k os):=propext Iff.rfl
@[simp] theorem wDrsH_lenSl_t {a0} {B:List Nat} {dst:Option Nat} {os:List (Bool × AOper)}:wDrsH E lim B k ((true,⟨dst,none,.lenSl a0⟩) :: os) T H=nextH B (aop lim (hide B H) T (.lenSl a0)) T H dst (wDrsH E lim B k os):=propext Iff.rfl
@[simp] theorem wDrsH_lenSl_f {a0} {B:List Nat} {dst:Option Nat} {os:List (Bool × AOper)}:wDrsH E lim B k ((false,⟨dst,none,.lenSl a0⟩) :: os) T H=nextD false (aop H.length H T (.lenSl a0)) T H dst (wDrsH E lim B k os):=propext Iff.rfl
@[simp] theorem wOps_lenStr {a0} {dst:Option Nat} {os:List AOper}:wOps E lim k (⟨dst,none,.lenStr a0⟩ :: os) T H=nextP (aop lim H T (.lenStr a0)) T dst (wOps E lim k os):=propext Iff.rfl
@[simp] theorem wDrs_lenStr {a0} {s:Bool} {dst:Option Nat} {os:List (Bool × AOper)}:wDrs E lim k ((s,⟨dst,none,.lenStr a0⟩) :: os) T H=nextD s (aop (if s then lim else H.length) H T (.lenStr a0)) T H dst (wDrs E lim k os):=propext Iff.rfl
@[simp] theorem wDrsH_lenStr_t {a0} {B:List Nat} {dst:Option Nat} {os:List (Bool × AOper)}:wDrsH E lim B k ((true,⟨dst,none,.lenStr a0⟩) :: os) T H=nextH B (aop lim (hide B H) T (.lenStr a0)) T H dst (wDrsH E lim B k os):=propext Iff.rfl
@[simp] theorem wDrsH_lenStr_f {a0} {B:List Nat} {dst:Option Nat} {os:List (Bool × AOper)}:wDrsH E lim B k ((false,⟨dst,none,.lenStr a0⟩) :: os) T H=nextD false (aop H.length H T (.lenStr a0)) T H dst (wDrsH E lim B k os):=propext Iff.rfl
@[simp] theorem wOps_lenConst {a0} {dst:Option Nat} {os:List AOper}:wOps E lim k (⟨dst,none,.lenConst a0⟩ :: os) T H=nextP (aop lim H T (.lenConst a0)) T dst (wOps E lim k os):=propext Iff.rfl
@[simp] theorem wDrs_lenConst {a0} {s:Bool} {dst:Option Nat} {os:List (Bool × AOper)}:wDrs E lim k ((s,⟨dst,none,.lenConst a0⟩) :: os) T H=nextD s (aop (if s then lim else H.length) H T (.lenConst a0)) T H dst (wDrs E lim k os):=propext Iff.rfl
@[simp] theorem wDrsH_lenConst_t {a0} {B:List Nat} {dst:Option Nat} {os:List (Bool × AOper)}:wDrsH E lim B k ((true,⟨dst,none,.lenConst a0⟩) :: os) T H=nextH B (aop lim (hide B H) T (.lenConst a0)) T H dst (wDrsH E lim B k os):=propext Iff.rfl
@[simp] theorem wDrsH_lenConst_f {a0} {B:List Nat} {dst:Option Nat} {os:List (Bool × AOper)}:wDrsH E lim B k ((false,⟨dst,none,.lenConst a0⟩) :: os) T H=nextD false (aop H.length H T (.lenConst a0)) T H dst (wDrsH E lim B k os):=propext Iff.rfl
@[simp] theorem wOps_lenMap {a0} {dst:Option Nat} {os:List AOper}:wOps E lim k (⟨dst,none,.lenMap a0⟩ :: os) T H=nextP (aop lim H T (.lenMap a0)) T dst (wOps E lim k os):=propext Iff.rfl
@[simp] theorem wDrs_lenMap {a0} {s:Bool} {dst:Option Nat} {os:List (Bool × AOper)}:wDrs E lim k ((s,⟨dst,none,.lenMap a0⟩) :: os) T H=nextD s (aop (if s then lim else H.length) H T (.lenMap a0)) T H dst (wDrs E lim k os):=propext Iff.rfl
@[simp] theorem wDrsH_lenMap_t {a0} {B:List Nat} {dst:Option Nat} {os:List (Bool × AOper)}:wDrsH E lim B k ((true,⟨dst,none,.lenMap a0⟩) :: os) T H=nextH B (aop lim (hide B H) T (.lenMap a0)) T H dst (wDrsH E lim B k os):=propext Iff.rfl
@[simp] theorem wDrsH_lenMap_f {a0} {B:List Nat} {dst:Option Nat} {os:List (Bool × AOper)}:wDrsH E lim B k ((false,⟨dst,none,.lenMap a0⟩) :: os) T H=nextD false (aop H.length H T (.lenMap a0)) T H dst (wDrsH E lim B k os):=propext Iff.rfl
@[simp] theorem wOps_max {a0} {dst:Option Nat} {os:List AOper}:wOps E lim k (⟨dst,none,.max a0⟩ :: os) T H=nextP (aop lim H T (.max a0)) T dst (wOps E lim k os):=propext Iff.rfl
@[simp] theorem wDrs_max {a0} {s:Bool} {dst:Option Nat} {os:List (Bool × AOper)}:wDrs E lim k ((s,⟨dst,none,.max a0⟩) :: os) T H=nextD s (aop (if s then lim else H.length) H T (.max a0)) T H dst (wDrs E lim k os):=propext Iff.rfl
@[simp] theorem wDrsH_max_t {a0} {B:List Nat} {dst:Option Nat} {os:List (Bool × AOper)}:wDrsH E lim B k ((true,⟨dst,none,.max a0⟩) :: os) T H=nextH B (aop lim (hide B H) T (.max a0)) T H dst (wDrsH E lim B k os):=propext Iff.rfl
@[simp] theorem wDrsH_max_f {a0} {B:List Nat} {dst:Option Nat} {os:List (Bool × AOper)}:wDrsH E lim B k ((false,⟨dst,none,.max a0⟩) :: os) T H=nextD false (aop H.length H T (.max a0)) T H dst (wDrsH E lim B k os):=propext Iff.rfl
@[simp] theorem wOps_min {a0} {dst:Option Nat} {os:List AOper}:wOps E lim k (⟨dst,none,.min a0⟩ :: os) T H=nextP (aop lim H T (.min a0)) T dst (wOps E lim k os):=propext Iff.rfl
@[simp] theorem wDrs_min {a0} {s:Bool} {dst:Option Nat} {os:List (Bool × AOper)}:wDrs E lim k ((s,⟨dst,none,.min a0⟩) :: os) T H=nextD s (aop (if s then lim else H.length) H T (.min a0)) T H dst (wDrs E lim k os):=propext Iff.rfl
@[simp] theorem wDrsH_min_t {a0} {B:List Nat} {dst:Option Nat} {os:List (Bool × AOper)}:wDrsH E lim B k ((true,⟨dst,none,.min a0⟩) :: os) T H=nextH B (aop lim (hide B H) T (.min a0)) T H dst (wDrsH E lim B k os):=propext Iff.rfl
@[simp] theorem wDrsH_min_f {a0} {B:List Nat} {dst:Option Nat} {os:List (Bool × AOper)}:wDrsH E lim B k ((false,⟨dst,none,.min a0⟩) :: os) T H=nextD false (aop H.length H T (.min a0)) T H dst (wDrsH E lim B k os):=propext Iff.rfl
@[simp] theorem wOps_append {a0 a1 a2 a3} {dst:Option Nat} {os:List AOper}:wOps E lim k (⟨dst,none,.append a0 a1 a2 a3⟩ :: os) T H=nextP (aop lim H T (.append a0 a1 a2 a3)) T dst (wOps E lim k os):=propext Iff.rfl
@[simp] theorem wDrs_append {a0 a1 a2 a3} {s:Bool} {dst:Option Nat} {os:List (Bool × AOper)}:wDrs E lim k ((s,⟨dst,none,.append a0 a1 a2 a3⟩) :: os) T H=nextD s (aop (if s then lim else H.length) H T (.append a0 a1 a2 a3)) T H dst (wDrs E lim k os):=propext Iff.rfl
@[simp] theorem wDrsH_append_t {a0 a1 a2 a3} {B:List Nat} {dst:Option Nat} {os:List (Bool × AOper)}:wDrsH E lim B k ((true,⟨dst,none,.append a0 a1 a2 a3⟩) :: os) T H=nextH B (aop lim (hide B H) T (.append a0 a1 a2 a3)) T H dst (wDrsH E lim B k os):=propext Iff.rfl
@[simp] theorem wDrsH_append_f {a0 a1 a2 a3} {B:List Nat} {dst:Option Nat} {os:List (Bool × AOper)}:wDrsH E lim B k ((false,⟨dst,none,.append a0 a1 a2 a3⟩) :: os) T H=nextD false (aop H.length H T (.append a0 a1 a2 a3)) T H dst (wDrsH E lim B k os):=propext Iff.rfl
@[simp] theorem wOps_cap {a0} {dst:Option Nat} {os:List AOper}:wOps E lim k (⟨dst,none,.cap a0⟩ :: os) T H=nextP (aop lim H T (.cap a0)) T dst (wOps E lim k os):=propext Iff.rfl
@[simp] theorem wDrs_cap {a0} {s:Bool} {dst:Option Nat} {os:List (Bool × AOper)}:wDrs E lim k ((s,⟨dst,none,.cap a0⟩) :: os) T H=nextD s (aop (if s then lim else H.length) H T (.cap a0)) T H dst (wDrs E lim k os):=propext Iff.rfl
@[simp] theorem wDrsH_cap_t {a0} {B:List Nat} {dst:Option Nat} {os:List (Bool × AOper)}:wDrsH E lim B k ((true,⟨dst,none,.cap a0⟩) :: os) T H=nextH B (aop lim (hide B H) T (.cap a0)) T H dst (wDrsH E lim B k os):=propext Iff.rfl
@[simp] theorem wDrsH_cap_f {a0} {B:List Nat} {dst:Option Nat} {os:List (Bool × AOper)}:wDrsH E lim B k ((false,⟨dst,none,.cap a0⟩) :: os) T H=nextD false (aop H.length H T (.cap a0)) T H dst (wDrsH E lim B k os):=propext Iff.rfl
@[simp] theorem wOps_copy {a0 a1 a2} {dst:Option Nat} {os:List AOper}:wOps E lim k (⟨dst,none,.copy a0 a1 a2⟩ :: os) T H=nextP (aop lim H T (.copy a0 a1 a2)) T dst (wOps E lim k os):=propext Iff.rfl
@[simp] theorem wDrs_copy {a0 a1 a2} {s:Bool} {dst:Option Nat} {os:List (Bool × AOper)}:wDrs E lim k ((s,⟨dst,none,.copy a0 a1 a2⟩) :: os) T H=nextD s (aop (if s then lim else H.length) H T (.copy a0 a1 a2)) T H dst (wDrs E lim k os):=propext Iff.rfl
@[simp] theorem wDrsH_copy_t {a0 a1 a2} {B:List Nat} {dst:Option Nat} {os:List (Bool × AOper)}:wDrsH E lim B k ((true,⟨dst,none,.copy a0 a1 a2⟩) :: os) T H=nextH B (aop lim (hide B H) T (.copy a0 a1 a2)) T H dst (wDrsH E lim B k os):=propext Iff.rfl
@[simp] theorem wDrsH_copy_f {a0 a1 a2} {B:List Nat} {dst:Option Nat} {os:List (Bool × AOper)}:wDrsH E lim B k ((false,⟨dst,none,.copy a0 a1 a2⟩) :: os) T H=nextD false (aop H.length H T (.copy a0 a1 a2)) T H dst (wDrsH E lim B k os):=propext Iff.rfl
@[simp] theorem wOps_appendZ {a0 a1 a2 a3 a4} {dst:Option Nat} {os:List AOper}:wOps E lim k (⟨dst,none,.appendZ a0 a1 a2 a3 a4⟩ :: os) T H=nextP (aop lim H T (.appendZ a0 a1 a2 a3 a4)) T dst (wOps E lim k os):=propext Iff.rfl
@[simp] theorem wDrs_appendZ {a0 a1 a2 a3 a4} {s:Bool} {dst:Option Nat} {os:List (Bool × AOper)}:wDrs E lim k ((s,⟨dst,none,.appendZ a0 a1 a2 a3 a4⟩) :: os) T H=nextD s (aop (if s then lim else H.length) H T (.appendZ a0 a1 a2 a3 a4)) T H dst (wDrs E lim k os):=propext Iff.rfl
@[simp] theorem wDrsH_appendZ_t {a0 a1 a2 a3 a4} {B:List Nat} {dst:Option Nat} {os:List (Bool × AOper)}:wDrsH E lim B k ((true,⟨dst,none,.appendZ a0 a1 a2 a3 a4⟩) :: os) T H=nextH B (aop lim (hide B H) T (.appendZ a0 a1 a2 a3 a4)) T H dst (wDrsH E lim B k os):=propext Iff.rfl
@[simp] theorem wDrsH_appendZ_f {a0 a1 a2 a3 a4} {B:List Nat} {dst:Option Nat} {os:List (Bool × AOper)}:wDrsH E lim B k ((false,⟨dst,none,.appendZ a0 a1 a2 a3 a4⟩) :: os) T H=nextD false (aop H.length H T (.appendZ a0 a1 a2 a3 a4)) T H dst (wDrsH E lim B k os):=propext Iff.rfl
@[simp] theorem skipP_eq {dst:Option Nat} {n:Tmps→Heap→Prop}:skipP dst n T H=n (putT T dst .noval) H:=propext Iff.rfl
@[simp] theorem andThen_normal:andThen k K .normal T H=k T H:=propext Iff.rfl
@[simp] theorem andThen_ret:andThen k K .ret T H=K .ret T H:=propext Iff.rfl
@[simp] theorem andThen_exit {id:Nat}:andThen k K (.exit id) T H=K (.exit id) T H:=propext Iff.rfl
@[simp] theorem inBlock_normal {id:Nat}:inBlock id K .normal T H=K .normal T H:=propext Iff.rfl
@[simp] theorem inBlock_ret {id:Nat}:inBlock id K .ret T H=K .ret T H:=propext Iff.rfl
@[simp] theorem inBlock_exit {id j:Nat}:inBlock id K (.exit j) T H=if j=id then K .normal T H else K (.exit j) T H:=propext Iff.rfl
@[simp] theorem pEnd_normal {rs:List ARes} {q:AV→Prop}:pEnd rs q .normal T H=optP (resAll H T rs) fun v=>optP (own H deep v) fun p=>noTwo p.2=true∧q p.1:=propext Iff.rfl
@[simp] theorem pEnd_ret {rs:List ARes} {q:AV→Prop}:pEnd rs q .ret T H=optP (resAll H T rs) fun v=>optP (own H deep v) fun p=>noTwo p.2=true∧q p.1:=propext Iff.rfl
@[simp] theorem hEnd_normal {rs:List ARes} {q:AV→Heap→Prop}:hEnd rs q .normal T H=optP (resAll H T rs) fun v=>q v H:=propext Iff.rfl
@[simp] theorem hEnd_ret {rs:List ARes} {q:AV→Heap→Prop}:hEnd rs q .ret T H=optP (resAll H T rs) fun v=>q v H:=propext Iff.rfl
@[simp] theorem putT_some {d:Nat} {v:AV}:putT T (some d) v=T.set d v:=rfl
@[simp] theorem putT_none {v:AV}:putT T none v=T:=rfl
end
end Go.Proofs.YtgbnbgkldeifkaaGreatA
/- A frame as what was written last. No statement about the program is proved here. -/
namespace Go.Proofs.YtgbnbgkldeifkaaGreatA
open Go Go.RowKit
set_option linter.unusedVariables false
def look:List (Nat × AV)→Nat→Option AV
 | [],_=>none
 | p :: r,t=>if t=p.1 then some p.2 else look r t
def fr (n:Nat) (b:Nat→AV) (l:List (Nat × AV)):Tmps:=(List.range n).map fun i=>(look l i).getD (b i)
theorem fr_get {n t:Nat} {b:Nat→AV} {l:List (Nat × AV)} (h:t < n):(fr n b l)[t]?=some ((look l t).getD (b t)):=by
 unfold fr
 rw [List.getElem?_map,List.getElem?_range h]
 rfl
theorem fr_getD {n t:Nat} {b:Nat→AV} {l:List (Nat × AV)} (h:t < n):(fr n b l).getD t .undef=(look l t).getD (b t):=by
 rw [List.getD_eq_getElem?_getD,fr_get h]
 rfl
theorem fr_len {n:Nat} {b:Nat→AV} {l:List (Nat × AV)}:(fr n b l).length=n:=by simp [fr]
theorem fr_set {n d:Nat} {v:AV} {b:Nat→AV} {l:List (Nat × AV)}:(fr n b l).set d v=fr n b ((d,v) :: l):=by
 apply List.ext_getElem?
 intro i
 rcases Nat.lt_or_ge i n with q | q
 · rw [fr_get q,List.getElem?_set]
   by_cases e:d=i
   · subst e;simp [fr_len,q,look]
   · rw [if_neg e,fr_get q];simp [look,Ne.symm e]
 · rw [List.getElem?_eq_none (by simp [fr_len];omega),List.getElem?_eq_none (by simp [fr_len];omega)]
def enumA:Nat→List AV→List (Nat × AV)
 | _,[]=>[]
 | i,a :: as=>(i,a) :: enumA (i + 1) as
theorem look_enum:∀ (as:List AV) (k t:Nat),look (enumA k as) t=if k≤t then as[t - k]? else none
 | [],k,t=>by simp [enumA,look]
 | a :: as,k,t=>by
  simp only [enumA,look]
  by_cases e:t=k
  · subst e;simp
  · rw [if_neg e,look_enum as (k + 1) t]
    by_cases h:k≤t
    · rw [if_pos h,if_pos (by omega),show t - k=t - (k + 1) + 1 from by omega,List.getElem?_cons_succ]
    · rw [if_neg h,if_neg (by omega)]
theorem fr_init {as:List AV} {n:Nat} (h:as.length≤n):as++List.replicate (n - as.length) .noval=fr n (fun _=>.noval) (enumA 0 as):=by
 apply List.ext_getElem?
 intro i
 rcases Nat.lt_or_ge i n with q | q
 · rw [fr_get q,look_enum,if_pos (Nat.zero_le _),Nat.sub_zero]
   rcases Nat.lt_or_ge i as.length with q2 | q2
   · rw [List.getElem?_append_left q2,List.getElem?_eq_getElem q2];rfl
   · rw [List.getElem?_append_right q2,List.getElem?_replicate,if_pos (by omega),List.getElem?_eq_none q2];rfl
 · rw [List.getElem?_eq_none (by simp;omega),List.getElem?_eq_none (by simp [fr_len];omega)]
end Go.Proofs.YtgbnbgkldeifkaaGreatA
/- Functions in a tree. No statement about the program is proved here. -/
namespace Go.Proofs.YtgbnbgkldeifkaaGreatA
open Go Go.RowKit
set_option linter.unusedVariables false
inductive FT where
 | leaf
 | node (k:Nat) (x:AF) (l r:FT)
noncomputable def FT.find (t:FT):Nat→Option AF:=FT.rec (fun _=>none) (fun k x _ _ l r f=>Bool.rec (Bool.rec (r f) (l f) (Nat.ble f k)) (some x) (Nat.beq f k)) t
inductive AllT (P:Program):FT→Prop
 | leaf:AllT P .leaf
 | node {k x l r} (h:FnGood P k x) (hl:AllT P l) (hr:AllT P r):AllT P (.node k x l r)
theorem AllT.get {P:Program}:∀ {t:FT},AllT P t→∀ {f:Nat} {x:AF},t.find f=some x→FnGood P f x
 | _,.leaf,f,x,h=>by cases h
 | _,@AllT.node _ k y l r g hl hr,f,x,h=>by
  have h:Bool.rec (Bool.rec (r.find f) (l.find f) (Nat.ble f k)) (some y) (Nat.beq f k)=some x:=h
  cases q:Nat.beq f k with
  | true =>
   rw [q] at h
   cases h
   rw [Nat.eq_of_beq_eq_true q]
   exact g
  | false =>
   rw [q] at h
   simp only at h
   cases q2:Nat.ble f k with
   | true=>rw [q2] at h;exact hl.get h
   | false=>rw [q2] at h;exact hr.get h
noncomputable def envT (t:FT) (ms:List (Nat × String × Nat × Option (Option Nat))):AEnv:=⟨t.find,findM ms⟩
theorem envT_ok {P:Program} {t:FT} {ms:List (Nat × String × Nat × Option (Option Nat))} (hm:P.follows .mixedOrders=true) (h:AllT P t) (k:AllM P ms):EnvOK P (envT t ms) where
 mixed:=hm
 code:=fun f fd e=>h.get e
 prim:=fun f g e=>h.get e
 ext:=fun f g e=>h.get e
 meth0:=fun t n f e=>k.get e
 meth1:=fun t n f m e=>k.get e
end Go.Proofs.YtgbnbgkldeifkaaGreatA
/- slices.Clone, as the small machine does it. No statement about the program is proved here. -/
namespace Go.Proofs.YtgbnbgkldeifkaaGreatA
open Go Go.RowKit
set_option linter.unusedVariables false
def cloneG (es bytes:Nat):List AV→Nat→Heap→Option (AV × Heap)
 | [s],lim,H=>appendAV lim H es bytes .nilsl s
 | _,_,_=>none
section
variable {w0:World} {ro:Nat→Prop} {P:Program} {μ:Mu} {H:Heap} {w:World} {lim:Nat}
def noEnv:AEnv:=⟨fun _=>none,fun _ _=>none⟩
theorem noEnv_ok (hm:P.follows .mixedOrders=true):EnvOK P noEnv where
 mixed:=hm
 code:=fun f fd e=>by cases e
 prim:=fun f g e=>by cases e
 ext:=fun f g e=>by cases e
 meth0:=fun t n f e=>by cases e
 meth1:=fun t n f m e=>by cases e
theorem slice_of {s:AV} {v:Value} {es n:Nat} {cs:List AV} (h:elems H es s=some (n,cs)) (hv:VR w0 ro μ s v):∃ a c,v=.slice a n c∧(a=none→n=0):=by
 unfold elems at h
 split at h
 · cases h
   cases hv
   exact ⟨_,_,rfl,fun _=>rfl⟩
 · split at h
   · simp only [Option.bind_eq_some_iff,Option.map_eq_some_iff,Prod.mk.injEq] at h
     obtain ⟨_,_,_,_,rfl,_⟩:=h
     cases hv with
     | sl=>exact ⟨_,_,rfl,fun q=>by cases q⟩
     | sl0 a=>exact ⟨_,_,rfl,fun _=>rfl⟩
   · cases h
 · split at h
   · simp only [Option.bind_eq_some_iff,Option.map_eq_some_iff,Prod.mk.injEq] at h
     obtain ⟨_,_,_,_,rfl,_⟩:=h
     cases hv with
     | slc=>exact ⟨_,_,rfl,fun q=>by cases q⟩
   · cases h
 · split at h
   · cases h
     cases hv with
     | ro0 a c=>exact ⟨_,_,rfl,fun _=>rfl⟩
     | ro=>exact ⟨_,_,rfl,fun q=>by cases q⟩
   · cases h
 · cases h
theorem eqnil_run {t e:TypeId} (ht:P.underlying t=some (.slice e)) (a:Option Addr) (n c:Nat) (x y:Operand) (w:World) :
 (do eqGuard .eql t x y (.slice a n c) (.slice none 0 0);binOp .eql t (.slice a n c) (.slice none 0 0):Sem Value).run P w=.ok (.bool a.isNone) w:=by
 have h1:(eqGuard .eql t x y (.slice a n c) (.slice none 0 0)).run P w=.ok () w:=rfl
 have h2:(binOp .eql t (.slice a n c) (.slice none 0 0)).run P w=.ok (.bool a.isNone) w:=by
  have h3:(Op.equal t (.slice a n c) (.slice none 0 0)).run P w=.ok a.isNone w:=by
   unfold Op.equal Op.maxDepth Op.equalIn
   simp only [Sem.run_bind,run_underlying ht,Result.andThen_ok]
   cases a <;> rfl
  show (do pure (.bool (← Op.equal t (.slice a n c) (.slice none 0 0))):Sem Value).run P w=_
  simp only [Sem.run_bind,h3,Result.andThen_ok,Sem.run_pure]
 simp only [Sem.run_bind,h1,h2,Result.andThen_ok]
theorem clone_prim (hm:P.follows .mixedOrders=true) {f:Nat} {fn:Func} {t t' e:TypeId} {es bytes:Nat} (hent:Entered P f fn) (ht:P.underlying t=some (.slice e)) {i0 i1 i2 i3:Nat} {ops0 ops2 ops3:Array Oper} {o3 o4:Oper}
 (hbody:fn.body=some (.seq (.region i0 ops0 false) (.seq (.seq (.region i1 #[o3,o4] false) (.cond (.tmp 4) (.seq (.region i2 ops2 false) .ret) .skip)) (.seq (.region i3 ops3 false) .ret))))
 (h0:ops0.toList.map (lowOper P ops0)=[⟨some 2,none,.mv (.cst .nilsl)⟩])
 (h1:lowOper P #[o3,o4] o3=⟨some 3,none,.mv (.tmp 0)⟩) (h4:o4.op=.binOp .eql t (.tmp 3) (.const (.slice none 0 0)) t') (h4d:o4.dst=some 4) (h4g:o4.guard=none)
 (h2:ops2.toList.map (lowOper P ops2)=[⟨some 2,none,.mv (.cst .nilsl)⟩])
 (h3:ops3.toList.map (lowOper P ops3)=[⟨some 5,none,.buildSlice es 0 [] []⟩,⟨some 6,none,.mv (.tmp 0)⟩,⟨some 7,none,.append es bytes (.tmp 5) (.tmp 6)⟩,⟨some 2,none,.mv (.tmp 7)⟩])
 (hres:lowRes P fn.results.toList=some [.tmp 2]) (hn:fn.ntmps=8):PrimOK P f (cloneG es bytes):=by
 intro w0 ro μ H w lim as vs r H' hr hv h
 unfold cloneG at h
 split at h
 · rename_i s
   obtain ⟨l⟩:=vs
   cases hv with
   | @cons _ v _ vs' hs tl =>
    cases tl
    have hE:=noEnv_ok hm
    have hC:=call_sim hE 0
    have h':=h
    simp only [appendAV,Option.bind_eq_some_iff] at h'
    obtain ⟨⟨n,cs⟩,hel,_⟩:=h'
    obtain ⟨ad,c,rfl,hnone⟩:=slice_of hel hs
    refine calls_of_wp hent.1 hbody ?_
    refine wp_seq ?_
    have hAR:AR w0 ro μ (s :: List.replicate 7 .noval) ⟨#[.slice ad n c]++Array.replicate (fn.ntmps - 1) Go.undef,[]⟩:=by
     refine ⟨rfl,?_⟩
     rw [hn]
     exact .cons hs (replicate_VRs 7)
    refine region_sim (lim:=lim) hE hC hr hAR (T':=(s :: List.replicate 7 .noval).set 2 .nilsl) (H':=H) (by rw [h0];rfl) fun μ1 a1 w1 hp1 ha1=>?_
    refine wp_seq ?_
    refine wp_seq ?_
    refine wp_region ?_
    show wpOps P #[o3,o4] _ [0,1] a1 w1
    rw [wpOps_cons]
    refine step_sim (lim:=lim) hE hC (i:=0) (o:=o3) rfl hp1.hr ha1 (T':=((s :: List.replicate 7 .noval).set 2 .nilsl).set 3 s) (H':=H) (by rw [h1];rfl) fun μ2 a2 w2 hp2 ha2=>?_
    rw [wpOps_cons]
    have hp12:=hp1.trans hp2
    have hs2:VR w0 ro μ2 s (.slice ad n c):=hs.ext hp12.ext
    obtain ⟨ad2,n2,c2,he3,hnone2⟩:∃ ad2 n2 c2,a2.eval (.tmp 3)=.slice ad2 n2 c2∧(ad2=none→n=0):=by
     have:=lowX_VR (x:=.tmp 3) (ax:=.tmp 3) rfl ha2
     have e3:AX.ev (((s :: List.replicate 7 .noval).set 2 .nilsl).set 3 s) (.tmp 3)=s:=rfl
     rw [e3] at this
     obtain ⟨ad2,c2,q1,q2⟩:=slice_of hel this
     exact ⟨ad2,n,c2,q1,q2⟩
    have hbool:AR w0 ro μ2 ((((s :: List.replicate 7 .noval).set 2 .nilsl).set 3 s).set 4 (.bool ad2.isNone)) (a2.put (some 4) (.bool ad2.isNone)):=ha2.put (some 4) (.bool _)
    have fin:∀ (μ3:Mu) (a3:Act) (w3:World) (T3:Tmps) (r3:AV) (H3:Heap),T3[2]?=some r3→Post w0 ro lim μ H w μ3 H3 w3→AR w0 ro μ3 T3 a3→r3=r→H3=H'→a3.defers=[]∧∃ v,(results fn a3.tmps).run P w3=.ok v w3∧CallPost w0 ro lim μ H w r H' (.returned v) w3:=fun μ3 a3 w3 T3 r3 H3 e1 hp ha e2 e3=>by
     subst e2;subst e3
     obtain ⟨v',g1,g2⟩:=res_run hp.hr ha hres (r:=r3) (by simp [resAll,resL,resOne,e1])
     exact ⟨ha.1,v',g1,v',μ3,rfl,hp,g2⟩
    have step4:∀ (K:Act→World→Prop) (Q:Exit→Act→World→Prop),K (a2.put (some 4) (.bool ad2.isNone)) w2→wpOp P #[o3,o4] Q 1 K a2 w2:=fun K Q hK=>by
     unfold wpOp
     have e1:(#[o3,o4]:Array Oper)[1]?=some o4:=rfl
     simp only [e1]
     have e2:Region.wanted o4 (yielded #[o3,o4] a2.tmps)=true:=by simp [Region.wanted,h4g]
     rw [e2]
     simp only [if_true]
     refine .inl ?_
     unfold Oper.wp
     have e3:(execOp a2.eval o4).run P w2=.ok (.value (.bool ad2.isNone)) w2:=by
      unfold execOp
      rw [h4]
      have e4:a2.eval (.const (.slice none 0 0))=.slice none 0 0:=rfl
      simp only [he3,e4]
      rw [Sem.run_bind,eqnil_run ht]
      rfl
     rw [e3]
     show K (a2.put o4.dst (.bool ad2.isNone)) w2
     rw [h4d]
     exact hK
    refine step4 _ _ ?_
    show (Code.cond (.tmp 4) _ _).wp P _ _ _
    refine wp_cond (t:=ad2.isNone) ?_ ?_
    · have:=lowX_VR (x:=.tmp 4) (ax:=.tmp 4) rfl hbool
      have e3:AX.ev ((((s :: List.replicate 7 .noval).set 2 .nilsl).set 3 s).set 4 (.bool ad2.isNone)) (.tmp 4)=.bool ad2.isNone:=rfl
      rw [e3] at this
      exact this.bool_inv
    · cases ead:ad2 with
      | none =>
       simp only [Option.isNone_none,if_true]
       rw [ead] at hbool
       have hn0:=hnone2 ead
       subst hn0
       simp only [appendAV,hel,Option.bind_some,if_true,Option.some.injEq,Prod.mk.injEq] at h
       obtain ⟨rfl,rfl⟩:=h
       refine wp_seq ?_
       refine region_sim (lim:=lim) hE hC hp12.hr hbool (T':=((((s :: List.replicate 7 .noval).set 2 .nilsl).set 3 s).set 4 (.bool true)).set 2 .nilsl) (H':=H) (by rw [h2];rfl) fun μ3 a3 w3 hp3 ha3=>?_
       refine wp_ret ?_
       exact fin μ3 a3 w3 _ .nilsl H rfl (hp12.trans hp3) ha3 rfl rfl
      | some x =>
       simp only [Option.isNone_some,Bool.false_eq_true,if_false]
       rw [ead] at hbool
       refine wp_skip ?_
       refine wp_seq ?_
       refine region_sim (lim:=lim) hE hC hp12.hr hbool (T':=(((((((s :: List.replicate 7 .noval).set 2 .nilsl).set 3 s).set 4 (.bool false)).set 5 .nilsl).set 6 s).set 7 r).set 2 r) (H':=H') (by
        rw [h3]
        have e1:appendAV lim H es bytes .nilsl s=some (r,H'):=h
        simp [runOps,stepOp,wantedA,runOp,aop,AX.ev,putT,fillAV,e1]) fun μ3 a3 w3 hp3 ha3=>?_
       refine wp_ret ?_
       exact fin μ3 a3 w3 _ r H' rfl (hp12.trans hp3) ha3 rfl rfl
 · cases h
end
end Go.Proofs.YtgbnbgkldeifkaaGreatA
/- Walking through loops; rows of structs; what fits a shape. No statement about the program is proved here. -/
namespace Go.Proofs.YtgbnbgkldeifkaaGreatA
open Go Go.RowKit
set_option linter.unusedVariables false
universe u
theorem hard {α:Sort u} {a b:α} (h:a=b):a=b:=h
theorem afterP_eq {T:Tmps} {dst:Option Nat} {next:Tmps→Heap→Prop} {r:AV} {H1:Heap}:afterP T dst next r H1=next (putT T dst r) H1:=propext Iff.rfl
theorem fr_pick (live:List Nat) {n:Nat} {b:Nat→AV} {l:List (Nat × AV)}:fr n b l=fr n (fun t=>(look l t).getD (b t)) (live.map fun d=>(d,(look l d).getD (b d))):=by
 unfold fr
 apply List.map_congr_left
 intro i hi
 have key:∀ live:List Nat,look (live.map fun d=>(d,(look l d).getD (b d))) i=if i ∈ live then some ((look l i).getD (b i)) else none:=by
  intro live
  induction live with
  | nil=>rfl
  | cons d ds ih =>
   simp only [List.map_cons,look]
   by_cases e:i=d
   · subst e;simp
   · rw [if_neg e,ih];simp [e]
 rw [key]
 by_cases e:i ∈ live
 · rw [if_pos e];rfl
 · rw [if_neg e];rfl
def kb (b:Nat→AV) (ts:List Nat):Nat→AV:=fun t=>if ts.contains t then .undef else b t
theorem fr_kill1 {n t:Nat} {b:Nat→AV} {l:List (Nat × AV)} (h:∀ p ∈ l,p.1 ≠ t):(fr n b l).set t .undef=fr n (fun i=>if i=t then .undef else b i) l:=by
 rw [fr_set]
 unfold fr
 apply List.map_congr_left
 intro i hi
 simp only [look]
 by_cases e:i=t
 · subst e
   have:look l i=none:=by
    clear hi
    induction l with
    | nil=>rfl
    | cons p r ih =>
     simp only [look]
     rw [if_neg (fun e=>h p (.head _) e.symm),ih fun q hq=>h q (.tail _ hq)]
   rw [if_pos rfl,if_pos rfl,this]
   rfl
 · rw [if_neg e,if_neg e]
theorem fr_kill (ts:List Nat) {n:Nat} {b:Nat→AV} {l:List (Nat × AV)} (h:(l.all fun p=>!ts.contains p.1)=true):∃ b',killT (fr n b l) ts=fr n b' l:=by
 induction ts generalizing b with
 | nil=>exact ⟨b,rfl⟩
 | cons t ts ih =>
  have h1:∀ p ∈ l,p.1 ≠ t:=fun p hp e=>by
   have:=List.all_eq_true.1 h p hp
   simp [e] at this
  have h2:(l.all fun p=>!ts.contains p.1)=true:=List.all_eq_true.2 fun p hp=>by
   have:=List.all_eq_true.1 h p hp
   simp at this ⊢
   exact this.2
  simp only [killT]
  rw [fr_kill1 h1]
  exact ih h2
theorem loop_fr {E:AEnv} {lim n:Nat} {ts:List Nat} {c:AC} {K:AExit→Tmps→Heap→Prop} (live:List Nat) (hl:(live.all fun d=>!ts.contains d)=true) (I:Nat→List AV→Heap→Prop)
 (step:∀ (m:Nat) (vs:List AV) (H:Heap) (b:Nat→AV),vs.length=live.length→I m vs H→wC E lim c (andThen (fun T' H'=>∃ m' vs',m' < m∧I m' vs' H'∧vs'.length=live.length∧∃ b',T'=fr n b' (live.zip vs')) K) (fr n b (live.zip vs)) H)
 {T:Tmps} {H:Heap} (h0:∃ m vs,I m vs H∧vs.length=live.length∧∃ b,T=fr n b (live.zip vs)):Wp E (.loop (.seq (.kill ts) c)) lim T H K:=by
 obtain ⟨m,vs,h1,h2,b,rfl⟩:=h0
 refine Wp.loop (fun m T H=>∃ vs,I m vs H∧vs.length=live.length∧∃ b,T=fr n b (live.zip vs)) ?_ m _ H ⟨vs,h1,h2,b,rfl⟩
 rintro m T H ⟨vs,h1,h2,b,rfl⟩
 refine Wp.seq (Wp.kill ?_)
 show Wp E c lim (killT (fr n b (live.zip vs)) ts) H _
 obtain ⟨b',e⟩:=fr_kill ts (n:=n) (b:=b) (l:=live.zip vs) (by
  rw [List.all_eq_true]
  rintro ⟨d,v⟩ hp
  exact List.all_eq_true.1 hl d (List.of_mem_zip hp).1)
 rw [e]
 refine (wC_ok (step m vs H b' h2 h1)).mono fun x T' H' h=>?_
 cases x with
 | normal =>
  obtain ⟨m',vs',g1,g2,g3,g4⟩:=h
  exact ⟨m',g1,vs',g2,g3,g4⟩
 | ret=>exact h
 | exit id=>exact h
theorem wrap_succ {i:Nat} (h:i < 4611686018427387904):IntKind.i64.wrap ((i:Int) + 1)=((i + 1:Nat):Int):=by
 rw [wrap_i64] <;> omega
def roL {α:Type} (f:α→List AV) (l:List α):AV:=.ro l.length (l.flatMap f)
theorem flatMap_len {α:Type} {f:α→List AV} {es:Nat} (hf:∀ x,(f x).length=es) (l:List α):(l.flatMap f).length=l.length * es:=by
 induction l with
 | nil=>simp
 | cons x l ih=>rw [List.flatMap_cons,List.length_append,hf,ih,List.length_cons,Nat.succ_mul];omega
theorem flatMap_drop {α:Type} {f:α→List AV} {es:Nat} (hf:∀ x,(f x).length=es):∀ (l:List α) (i:Nat),(l.flatMap f).drop (i * es)=(l.drop i).flatMap f
 | [],i=>by simp
 | x :: l,0=>by simp
 | x :: l,i + 1=>by
  rw [List.flatMap_cons,List.drop_succ_cons,Nat.succ_mul,Nat.add_comm,← List.drop_drop,List.drop_left' (hf x),flatMap_drop hf l i]
theorem flatMap_cut {α:Type} {f:α→List AV} {es:Nat} (hf:∀ x,(f x).length=es) (l:List α) (i:Nat) (h:i < l.length):cut ((l.flatMap f).drop (i * es)) 0 es=some (f l[i]):=by
 rw [flatMap_drop hf,List.drop_eq_getElem_cons h,List.flatMap_cons]
 unfold cut
 rw [if_pos (by simp [hf])]
 simp only [List.drop_zero,Option.some.injEq]
 exact List.take_left' (hf _)
theorem flatMap_take {α:Type} {f:α→List AV} {es:Nat} (hf:∀ x,(f x).length=es):∀ (l:List α) (i:Nat),(l.flatMap f).take (i * es)=(l.take i).flatMap f
 | [],i=>by simp
 | x :: l,0=>by simp
 | x :: l,i + 1=>by
  rw [List.flatMap_cons,List.take_succ_cons,List.flatMap_cons,Nat.succ_mul,Nat.add_comm,← hf x,List.take_length_add_append,hf x,flatMap_take hf l i]
theorem frz_ro {H:Heap} {d n:Nat} {cs:List AV} (h:n=0→cs=[]):frz H (d + 1) (.ro n cs)=some (.ro n cs):=by
 unfold frz
 by_cases e:n=0
 · subst e;rw [h rfl];rfl
 · simp [e]
theorem frz_roL {H:Heap} {d:Nat} {α:Type} {f:α→List AV} {l:List α}:frz H (d + 1) (roL f l)=some (roL f l):=frz_ro fun h=>by
 rw [List.length_eq_zero_iff.1 h];rfl
theorem len_roL {α:Type} {f:α→List AV} {l:List α}:lenSlAV (roL f l)=some (.int .i64 l.length):=hard rfl
theorem idx_nat {k:IntKind} {i n:Nat} (h:i < n):idx (.int k (i:Int)) n=some i:=by
 simp only [idx,AV.isInt,Option.bind_some]
 rw [if_pos ⟨by omega,by omega⟩]
 simp
theorem idxSl_roL {α:Type} {f:α→List AV} {l:List α} {es:Nat} {k:IntKind} {i:Nat} (h:i < l.length):idxSlAV es (.int k (i:Int)) (roL f l)=some (.tp ((l.flatMap f).drop (i * es))):=by
 simp only [idxSlAV,roL,idx_nat h,Option.map_some]
theorem load_roL {α:Type} {f:α→List AV} {es:Nat} (hf:∀ x,(f x).length=es) {l:List α} {i:Nat} (h:i < l.length) {H:Heap}:loadAt H (some es) (.tp ((l.flatMap f).drop (i * es)))=some (.agg (f l[i])):=by
 simp only [loadAt,Option.getD_some,flatMap_cut hf l i h,Option.bind_some,shapeOf]
theorem load_roL1 {α:Type} {f:α→List AV} {g:α→AV} (hf:∀ x,f x=[g x]) {l:List α} {i:Nat} (h:i < l.length) {H:Heap}:loadAt H none (.tp ((l.flatMap f).drop (i * 1)))=some (g l[i]):=by
 have e:=flatMap_cut (f:=f) (es:=1) (fun x=>by rw [hf];rfl) l i h
 simp only [loadAt,Option.getD_none,e,Option.bind_some,hf,shapeOf]
theorem new_get {H X:Heap} {k:Nat}:(H++X)[H.length + k]?=X[k]?:=by
 rw [List.getElem?_append_right (Nat.le_add_right _ _),Nat.add_sub_cancel_left]
theorem new_set {H X:Heap} {k:Nat} {x:ABlk}:(H++X).set (H.length + k) x=H++X.set k x:=by
 rw [List.set_append_right _ _ (Nat.le_add_right _ _),Nat.add_sub_cancel_left]
theorem setFrom_all:∀ (vs cs:List AV),cs.length=vs.length→setFrom cs 0 vs=vs:=by
 intro vs cs h
 apply List.ext_getElem?
 intro j
 rw [setFrom_get _ _ _ _ (by omega)]
 rcases Nat.lt_or_ge j vs.length with q | q
 · rw [if_pos (by omega),Nat.sub_zero]
 · rw [if_neg (by omega),List.getElem?_eq_none (by omega),List.getElem?_eq_none q]
theorem cells_new {H X:Heap} {k:Nat}:Heap.cells? (H++X) (H.length + k)=Heap.cells? X k:=by unfold Heap.cells?;rw [new_get]
theorem cells_new0 {H X:Heap}:Heap.cells? (H++X) H.length=Heap.cells? X 0:=hard (cells_new (k:=0))
theorem cells_app {H X:Heap} {b:Nat} {cs:List AV} (h:H.cells? b=some cs):Heap.cells? (H++X) b=some cs:=by
 unfold Heap.cells? at h ⊢
 have hb:b < H.length:=by
  rcases Nat.lt_or_ge b H.length with q | q
  · exact q
  · rw [List.getElem?_eq_none q] at h;cases h
 rw [List.getElem?_append_left hb]
 exact h
theorem cells_hd {g:Bool} {cs:List AV} {X:Heap}:Heap.cells? (.cells g cs :: X) 0=some cs:=hard rfl
theorem cells_tl {x:ABlk} {X:Heap} {k:Nat}:Heap.cells? (x :: X) (k + 1)=Heap.cells? X k:=by unfold Heap.cells?;rw [List.getElem?_cons_succ]
theorem storeAt_new {lim n k o:Nat} {H X:Heap} {v:AV} (h:lim≤H.length):storeAt lim (H++X) n (.ptr (some (H.length + k,o))) v=(storeAt 0 X n (.ptr (some (k,o))) v).map (H++·):=by
 have h':lim≤H.length + k:=by omega
 unfold storeAt
 simp only [h',if_true,new_get,Nat.zero_le]
 cases X[k]? with
 | none=>rfl
 | some x =>
  cases x with
  | cells g cs =>
   simp only
   split
   · exact congrArg some new_set
   · rfl
  | _=>rfl
theorem storeAt_new0 {lim n o:Nat} {H X:Heap} {v:AV} (h:lim≤H.length):storeAt lim (H++X) n (.ptr (some (H.length,o))) v=(storeAt 0 X n (.ptr (some (0,o))) v).map (H++·):=hard (storeAt_new (k:=0) h)
theorem storeAt_hd {n o:Nat} {g:Bool} {cs:List AV} {X:Heap} {v:AV}:storeAt 0 (.cells g cs :: X) n (.ptr (some (0,o))) v=if v.cells.length=n∧o + n≤cs.length∧v.cells.all AV.one=true then some (.cells g (setFrom cs o v.cells) :: X) else none:=hard rfl
theorem storeAt_tl {n o k:Nat} {x:ABlk} {X:Heap} {v:AV}:storeAt 0 (x :: X) n (.ptr (some (k + 1,o))) v=(storeAt 0 X n (.ptr (some (k,o))) v).map (x :: ·):=by
 unfold storeAt
 simp only [Nat.zero_le,if_true,List.getElem?_cons_succ]
 cases X[k]? with
 | none=>rfl
 | some y =>
  cases y with
  | cells g cs=>simp only;split <;> simp
  | _=>rfl
theorem load_ptr {H:Heap} {n:Option Nat} {b o:Nat}:loadAt H n (.ptr (some (b,o)))=(H.cells? b).bind fun cs=>(cut cs o (n.getD 1)).bind (shapeOf n):=hard rfl
theorem load_tp {H:Heap} {n:Option Nat} {cs:List AV}:loadAt H n (.tp cs)=(cut cs 0 (n.getD 1)).bind (shapeOf n):=hard rfl
theorem len_nil:lenSlAV .nilsl=some (.int .i64 0):=hard rfl
theorem len_sl {b o n es:Nat}:lenSlAV (.sl b o n es)=some (.int .i64 n):=hard rfl
theorem len_ro {n:Nat} {cs:List AV}:lenSlAV (.ro n cs)=some (.int .i64 n):=hard rfl
theorem faddr_ptr {off b o:Nat}:fieldAddrAV off (.ptr (some (b,o)))=some (.ptr (some (b,o + off))):=hard rfl
theorem faddr_tp {off:Nat} {cs:List AV}:fieldAddrAV off (.tp cs)=some (.tp (cs.drop off)):=hard rfl
theorem shape_some {n:Nat} {cs:List AV}:shapeOf (some n) cs=some (.agg cs):=hard rfl
theorem shape_none {v:AV}:shapeOf none [v]=some v:=hard rfl
theorem nextD_pre {s:Bool} {v:AV} {H X Y:Heap} {T:Tmps} {dst:Option Nat} {next:Tmps→Heap→Prop} (h:Y.take X.length=X):nextD s (some (v,H++Y)) T (H++X) dst next=next (putT T dst v) (H++Y):=by
 have hl:X.length≤Y.length:=by
  have:=congrArg List.length h
  simp at this
  omega
 have e:H++X++(H++Y).drop (H++X).length=H++Y:=by
  conv=>rhs;rw [← List.take_append_drop X.length Y,h]
  simp
 cases s
 · simp only [nextD,Bool.false_eq_true,if_false,e]
 · have:(H++X).length≤(H++Y).length:=by simp;omega
   simp only [nextD,if_true,this,true_and]
theorem roL_one {α:Type} {f:α→List AV} {l:List α}:AV.one (roL f l)=true:=hard rfl
theorem thaw_int {k:IntKind} {n:Int} {H:Heap}:thaw (.int k n) H=(.int k n,H):=by simp [thaw]
theorem thaw_bool {b:Bool} {H:Heap}:thaw (.bool b) H=(.bool b,H):=by simp [thaw]
theorem thaw_str {s:List UInt8} {H:Heap}:thaw (.str s) H=(.str s,H):=by simp [thaw]
theorem thaw_nilsl {H:Heap}:thaw .nilsl H=(.nilsl,H):=by simp [thaw]
theorem frz_int {H:Heap} {d:Nat} {k:IntKind} {n:Int}:frz H (d + 1) (.int k n)=some (.int k n):=hard rfl
theorem frz_str {H:Heap} {d:Nat} {s:List UInt8}:frz H (d + 1) (.str s)=some (.str s):=hard rfl
theorem frz_bool {H:Heap} {d:Nat} {b:Bool}:frz H (d + 1) (.bool b)=some (.bool b):=hard rfl
theorem frz_nilsl {H:Heap} {d:Nat}:frz H (d + 1) .nilsl=some (.ro 0 []):=hard rfl
theorem mapO_app {f:AV→Option AV}:∀ {a b a' b':List AV},mapO f a=some a'→mapO f b=some b'→mapO f (a++b)=some (a'++b')
 | [],b,a',b',h,k=>by simp only [mapO,Option.some.injEq] at h;subst h;simpa using k
 | v :: vs,b,a',b',h,k=>by
  simp only [mapO,Option.bind_eq_some_iff,Option.map_eq_some_iff] at h
  obtain ⟨v',h1,vs',h2,rfl⟩:=h
  simp only [List.cons_append,mapO,h1,Option.bind_some,mapO_app h2 k,Option.map_some]
theorem fits_int {k:IntKind} {as:List AV} (h:Fits (.int k) as):∃ n,as=[.int k n]∧(Lit.int k n).wf=true:=by
 cases h with | int h=>exact ⟨_,rfl,h⟩
theorem fits_rows {α:Type} {f:α→List AV} {es:Nat} {e:Sh} (hf:∀ r,Fits e r→∃ x,r=f x):∀ {rows:List (List AV)},FitsRows es e rows→∃ l:List α,rows.length=l.length∧rows.flatten=l.flatMap f
 | _,.nil _ _=>⟨[],rfl,rfl⟩
 | _,.snoc h hl hr=>by
  obtain ⟨l,h1,h2⟩:=fits_rows hf h
  obtain ⟨x,rfl⟩:=hf _ hr
  exact ⟨l++[x],by simp [h1],by simp [h2]⟩
theorem fits_sl {α:Type} {f:α→List AV} {es bs:Nat} {e:Sh} {as:List AV} (hf:∀ r,Fits e r→∃ x,r=f x) (h:Fits (.sl es bs e) as):∃ l:List α,as=[roL f l]∧l.length≤maxLen∧l.length * bs≤reachBytes:=by
 cases h with
 | sl h hm hb =>
  obtain ⟨l,h1,h2⟩:=fits_rows hf h
  refine ⟨l,?_,by omega,by rw [← h1];exact hb⟩
  unfold roL
  rw [h1,h2]
end Go.Proofs.YtgbnbgkldeifkaaGreatA
/- The program's values, as numbers and lists. No statement about the program is proved here. -/
namespace Go.Proofs.YtgbnbgkldeifkaaGreatA
open Go Go.RowKit
set_option linter.unusedVariables false
abbrev I (n:Int):AV:=.int .i64 n
abbrev T (n:Nat):AX:=.tmp n
abbrev oO (d:Nat) (o:AOp):AOper:=⟨some d,none,o⟩
abbrev oM (d s:Nat):AOper:=⟨some d,none,.mv (T s)⟩
abbrev oF (k:Nat) (as:List AX):AOp:=.call (.fn (.cst (.fn (.func k) [] []))) as
abbrev oC (n:Int):AX:=.cst (I n)
structure Val where
 node:Int
 n:Int
 data:List UInt8
structure Bag where
 known:Nat→Int
 vals:List Val
structure Plan where
 version:Int
 by':Int
 targets:List Int
structure Ring where
 status:Nat→Int
 plan:Plan
 epoch:Nat→Int
 owner:Nat→Int
structure Deed where
 kind:Int
 n:Int
 key:List UInt8
 bag:Bag
 ring:Ring
 part:Int
def intC (n:Int):List AV:=[I n]
def strC (s:List UInt8):List AV:=[.str s]
def valC (v:Val):List AV:=[I v.node,I v.n,.str v.data]
def vecC (k:Nat→Int):List AV:=[I (k 0),I (k 1),I (k 2),I (k 3),I (k 4),I (k 5),I (k 6),I (k 7)]
def bagC (b:Bag):List AV:=[I (b.known 0),I (b.known 1),I (b.known 2),I (b.known 3),I (b.known 4),I (b.known 5),I (b.known 6),I (b.known 7),roL valC b.vals]
def planC (p:Plan):List AV:=[I p.version,I p.by',roL intC p.targets]
def ringC (r:Ring):List AV :=
 [I (r.status 0),I (r.status 1),I (r.status 2),I (r.status 3),I (r.status 4),I (r.status 5),I (r.status 6),I (r.status 7),I r.plan.version,I r.plan.by',roL intC r.plan.targets,
  I (r.epoch 0),I (r.owner 0),I (r.epoch 1),I (r.owner 1),I (r.epoch 2),I (r.owner 2),I (r.epoch 3),I (r.owner 3),I (r.epoch 4),I (r.owner 4),I (r.epoch 5),I (r.owner 5),I (r.epoch 6),I (r.owner 6),I (r.epoch 7),I (r.owner 7),
  I (r.epoch 8),I (r.owner 8),I (r.epoch 9),I (r.owner 9),I (r.epoch 10),I (r.owner 10),I (r.epoch 11),I (r.owner 11),I (r.epoch 12),I (r.owner 12),I (r.epoch 13),I (r.owner 13),I (r.epoch 14),I (r.owner 14),I (r.epoch 15),I (r.owner 15)]
def deedC (d:Deed):List AV:=[I d.kind,I d.n,.str d.key]++(bagC d.bag++(ringC d.ring++[I d.part]))
theorem valC_len (v:Val):(valC v).length=3:=hard rfl
theorem intC_len (n:Int):(intC n).length=1:=hard rfl
theorem strC_len (s:List UInt8):(strC s).length=1:=hard rfl
theorem valC_one (v:Val):(valC v).all AV.one=true:=hard rfl
def partsC (r:Ring):List AV :=
 [I (r.epoch 0),I (r.owner 0),I (r.epoch 1),I (r.owner 1),I (r.epoch 2),I (r.owner 2),I (r.epoch 3),I (r.owner 3),I (r.epoch 4),I (r.owner 4),I (r.epoch 5),I (r.owner 5),I (r.epoch 6),I (r.owner 6),I (r.epoch 7),I (r.owner 7),
  I (r.epoch 8),I (r.owner 8),I (r.epoch 9),I (r.owner 9),I (r.epoch 10),I (r.owner 10),I (r.epoch 11),I (r.owner 11),I (r.epoch 12),I (r.owner 12),I (r.epoch 13),I (r.owner 13),I (r.epoch 14),I (r.owner 14),I (r.epoch 15),I (r.owner 15)]
theorem val_f0 (v:Val):(valC v).take 1=[I v.node]:=hard rfl
theorem val_f1 (v:Val):((valC v).drop 1).take 1=[I v.n]:=hard rfl
theorem val_f2 (v:Val):((valC v).drop 2).take 1=[.str v.data]:=hard rfl
theorem val_f01 (v:Val):(valC v).take 2=[I v.node,I v.n]:=hard rfl
theorem val_all (v:Val):(valC v).take 3=valC v:=hard rfl
theorem val_t1 (v:Val):(valC v).tail.take 1=[I v.n]:=hard rfl
theorem frz_val {H:Heap} {d:Nat} (v:Val):mapO (frz H (d + 1)) (valC v)=some (valC v):=hard rfl
theorem frz_vec {H:Heap} {d:Nat} (k:Nat→Int):mapO (frz H (d + 1)) (vecC k)=some (vecC k):=hard rfl
abbrev iS:Nat × Sh:=(1,.int .i64)
abbrev shV:Sh:=.cat [(2,.cat [iS,iS]),(1,.str)]
def shVec:Sh:=.cat [iS,iS,iS,iS,iS,iS,iS,iS]
def shBag:Sh:=.cat [(8,shVec),(1,.sl 3 32 shV)]
def shPlan:Sh:=.cat [iS,iS,(1,.sl 1 8 (.int .i64))]
abbrev eS:Nat × Sh:=(2,.cat [iS,iS])
def shParts:Sh:=.cat [eS,eS,eS,eS,eS,eS,eS,eS,eS,eS,eS,eS,eS,eS,eS,eS]
def shRing:Sh:=.cat [(8,shVec),(3,shPlan),(32,shParts)]
def shDeed:Sh:=.cat [iS,iS,(1,.str),(9,shBag),(43,shRing),iS]
end Go.Proofs.YtgbnbgkldeifkaaGreatA
/- slices.Insert of one row into none, as the small machine does it. No statement about the program is proved here. -/
namespace Go.Proofs.YtgbnbgkldeifkaaGreatA
open Go Go.RowKit
set_option linter.unusedVariables false
def insertG0 (es bytes:Nat):List AV→Nat→Heap→Option (AV × Heap)
 | [.nilsl,.int .i64 i,v],lim,H =>
  (elems H es v).bind fun (m,new) =>
   match v with
   | .sl b' _ _ _=>if i=0∧m=1∧0 < es∧bytes≤most∧new.all AV.one=true then some (.sl H.length 0 1 es,H++[.cells true new]) else none
   | _=>none
 | _,_,_=>none
end Go.Proofs.YtgbnbgkldeifkaaGreatA

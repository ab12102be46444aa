/- Walking by rewriting where choices are drawn. No statement about the program is proved here. -/
import Derived.Test.YtgbnbgkldeifkaaGreatA41
namespace Go.Proofs.YtgbnbgkldeifkaaGreatA
open Go Go.RowKit
set_option linter.unusedVariables false
def nextFirst:List AOper→Bool
 | ⟨_,none,.nextM _⟩ :: _=>true
 | _=>false
def isKill:AC→Bool
 | .kill _=>true
 | _=>false
def killOf:AC→List Nat
 | .kill ts=>ts
 | _=>[]
def nReg (E:AEnv) (lim:Nat) (K:Tmps→Heap→Prop):List AOper→Tmps→Heap→Prop
 | ⟨dst,none,.nextM x⟩ :: os,T,H=>nNext lim H (x.ev T) fun r H'=>wOps E lim K os (putT T dst r) H'
 | _,_,_=>False
def nC (P:Program) (E:AEnv) (lim:Nat):AC→(AExit→Tmps→Heap→Prop)→Tmps→Heap→Prop
 | .region os,K,T,H=>if nextFirst os=true then nReg E lim (K .normal) os T H else wOps E lim (K .normal) os T H
 | .seq a b,K,T,H=>if isKill a=true then nC P E lim b K (killT T (killOf a)) H else if splitLike a b=true then wC E lim (.seq a b) K T H else nC P E lim a (andThen (nC P E lim b K) K) T H
 | .cond x t e,K,T,H=>eitherP (some (x.ev T)) true (nC P E lim t K) (nC P E lim e K) T H∧x.ev T ≠ .noval
 | .block id b,K,T,H=>nC P E lim b (inBlock id K) T H
 | .loop b,K,T,H=>NW P E (.loop b) lim T H K
 | c,K,T,H=>wC E lim c K T H
section
variable {w0:World} {ro:Nat→Prop} {P:Program} {μ:Mu} {H:Heap} {w:World} {T:Tmps} {lim:Nat} {E:AEnv} {K:AExit→Tmps→Heap→Prop}
theorem nC_region {os:List AOper}:nC P E lim (.region os) K T H=if nextFirst os=true then nReg E lim (K .normal) os T H else wOps E lim (K .normal) os T H:=by simp only [nC]
theorem nReg_next {K:Tmps→Heap→Prop} {dst:Option Nat} {x:AX} {os:List AOper}:nReg E lim K (⟨dst,none,.nextM x⟩ :: os) T H=nNext lim H (x.ev T) fun r H'=>wOps E lim K os (putT T dst r) H':=propext Iff.rfl
theorem nC_seq {a b:AC}:nC P E lim (.seq a b) K T H=if isKill a=true then nC P E lim b K (killT T (killOf a)) H else if splitLike a b=true then wC E lim (.seq a b) K T H else nC P E lim a (andThen (nC P E lim b K) K) T H:=by simp only [nC]
@[simp] theorem split_region {os:List AOper} {b:AC}:splitLike (.region os) b=false:=hard rfl
@[simp] theorem split_seq {a c b:AC}:splitLike (.seq a c) b=false:=hard rfl
@[simp] theorem split_cond {x:AX} {a c b:AC}:splitLike (.cond x a c) b=false:=hard rfl
@[simp] theorem split_block {i:Nat} {c b:AC}:splitLike (.block i c) b=false:=hard rfl
@[simp] theorem split_loop {c b:AC}:splitLike (.loop c) b=false:=hard rfl
@[simp] theorem split_draw1 {hs:List Nat} {os:List (Bool × AOper)} {o:AOper}:splitLike (.draw hs os) (.region [o])=true:=hard rfl
@[simp] theorem split_draw2 {hs:List Nat} {os:List (Bool × AOper)} {o o2:AOper} {l:List AOper}:splitLike (.draw hs os) (.region (o :: o2 :: l))=false:=hard rfl
@[simp] theorem split_draw3 {hs:List Nat} {os:List (Bool × AOper)} {a b:AC}:splitLike (.draw hs os) (.seq a b)=false:=hard rfl
@[simp] theorem split_draw4 {hs:List Nat} {os:List (Bool × AOper)} {x:AX} {a b:AC}:splitLike (.draw hs os) (.cond x a b)=false:=hard rfl
@[simp] theorem split_draw5 {hs:List Nat} {os:List (Bool × AOper)} {a:AC}:splitLike (.draw hs os) (.loop a)=false:=hard rfl
@[simp] theorem split_draw6 {hs:List Nat} {os:List (Bool × AOper)} {a:AC} {i:Nat}:splitLike (.draw hs os) (.block i a)=false:=hard rfl
@[simp] theorem split_draw7 {hs:List Nat} {os:List (Bool × AOper)}:splitLike (.draw hs os) .ret=false:=hard rfl
@[simp] theorem split_draw8 {hs:List Nat} {os:List (Bool × AOper)}:splitLike (.draw hs os) .skip=false:=hard rfl
theorem nC_cond {x:AX} {t e:AC}:nC P E lim (.cond x t e) K T H=(eitherP (some (x.ev T)) true (nC P E lim t K) (nC P E lim e K) T H∧x.ev T ≠ .noval):=by simp only [nC]
theorem nC_block {id:Nat} {b:AC}:nC P E lim (.block id b) K T H=nC P E lim b (inBlock id K) T H:=by simp only [nC]
theorem nC_loop {b:AC}:nC P E lim (.loop b) K T H=NW P E (.loop b) lim T H K:=by simp only [nC]
theorem nC_skip:nC P E lim .skip K T H=K .normal T H:=propext (by simp only [nC];exact Iff.rfl)
theorem nC_ret:nC P E lim .ret K T H=K .ret T H:=propext (by simp only [nC];exact Iff.rfl)
theorem nC_exit {id:Nat}:nC P E lim (.exit id) K T H=K (.exit id) T H:=propext (by simp only [nC];exact Iff.rfl)
theorem low_region {c:Code} {l:List AOper} (h:Low P c (.region l)):∃ id ops,c=.region id ops false∧l=ops.toList.map (lowOper P ops):=by
 cases h
 exact ⟨_,_,rfl,rfl⟩
theorem NW.region_next (hE:EnvOK P E) {dst:Option Nat} {x:AX} {os:List AOper} (h:nNext lim H (x.ev T) fun r H'=>wOps E lim (K .normal) os (putT T dst r) H'):NW P E (.region (⟨dst,none,.nextM x⟩ :: os)) lim T H K:=by
 intro w0 ro c μ w a Q hl hr har hQ
 obtain ⟨id,ops,rfl,hops⟩:=low_region hl
 refine wp_region ?_
 rw [List.range_eq_range']
 have hlen:=congrArg List.length hops
 simp only [List.length_cons,List.length_map,Array.length_toList] at hlen
 have hlt:0 < ops.size:=by omega
 have hi:ops[0]?=some ops[0]:=Array.getElem?_eq_getElem hlt
 obtain ⟨n,hn⟩:∃ n,ops.size=n + 1:=⟨os.length,by omega⟩
 have hd:ops.toList=ops[0] :: ops.toList.drop 1:=by
  have:=List.drop_eq_getElem_cons (l:=ops.toList) (i:=0) (by simpa using hlt)
  simpa using this
 rw [hd,List.map_cons,List.cons.injEq] at hops
 obtain ⟨ho,hos⟩:=hops
 rw [hn,List.range'_succ,wpOps_cons]
 obtain ⟨y,e1,e2,e3,e4⟩:=next_oper ho.symm
 have vx:=lowX_VR e2 har
 obtain ⟨r,H',h5,v',w',μ',h6,h7,h8⟩:=next_sim (P:=P) (ty:=ops[0].type) hr vx h
 obtain ⟨T2,H2,⟨m,g1⟩,g2⟩:=wOps_ok h5
 unfold wpOp
 simp only [hi]
 have hwant:Region.wanted ops[0] (yielded ops a.tmps)=true:=by
  have hgn:ops[0].guard=none:=by
   cases hgg:ops[0].guard with
   | none=>rfl
   | some p =>
    rw [hgg] at e3
    obtain ⟨j,want⟩:=p
    simp only [lowGuard,Option.map_eq_some_iff] at e3
    obtain ⟨t,_,q⟩:=e3
    cases q
  unfold Region.wanted
  rw [hgn]
 rw [hwant]
 simp only [if_true]
 refine .inl ?_
 unfold Oper.wp
 have:(execOp a.eval ops[0]).run P w=.ok (.value v') w':=by
  unfold execOp
  simp only [e1]
  simp [h6]
 rw [this]
 show wpOps P ops Q (List.range' (0 + 1) n) (a.put ops[0].dst v') w'
 rw [e4]
 rw [hos] at g1
 exact ops_sim hE (call_sim hE m) n 1 μ' H' w' _ _ T2 H2 (by omega) h7.hr ((har.ext h7.ext).put dst h8) h7 g1 fun μ2 a2 w2 hp ha=>hQ .normal T2 H2 μ2 a2 w2 g2 hp ha
theorem eitherP_cases {v:AV} {go skip:Tmps→Heap→Prop} (h:eitherP (some v) true go skip T H) (hn:v ≠ .noval):∃ b,v=.bool b∧(if b then go T H else skip T H):=by
 cases v <;> simp [eitherP,boolP] at h hn
 rename_i b
 refine ⟨b,rfl,?_⟩
 cases b
 · simpa using h
 · simpa using h
theorem nC_ok (hE:EnvOK P E):∀ {c:AC} {K:AExit→Tmps→Heap→Prop} {T:Tmps} {H:Heap},nC P E lim c K T H→NW P E c lim T H K
 | .seq a b,K,T,H,h=>by
  rw [nC_seq] at h
  by_cases hk:isKill a=true
  · rw [if_pos hk] at h
    cases a <;> first | (simp [isKill] at hk;done) | skip
    exact NW.kill (nC_ok hE h)
  · rw [if_neg hk] at h
    by_cases hs:splitLike a b=true
    · rw [if_pos hs] at h
      exact NW.ofw hE h
    rw [if_neg hs] at h
    refine NW.seq (fun ts e=>by subst e;exact hk rfl) (by simpa using hs) ((nC_ok hE h).mono fun x T' H' q=>?_)
    cases x with
    | normal=>exact nC_ok hE q
    | ret=>exact q
    | exit id=>exact q
 | .cond x t e,K,T,H,h=>by
  rw [nC_cond] at h
  obtain ⟨b,h1,h2⟩:=eitherP_cases h.1 h.2
  refine NW.cond h1 ?_
  cases b
  · exact nC_ok hE h2
  · exact nC_ok hE h2
 | .block id b,K,T,H,h=>by
  rw [nC_block] at h
  refine NW.block ((nC_ok hE h).mono fun x T' H' q=>?_)
  cases x with
  | normal=>exact q
  | ret=>exact q
  | exit j =>
   simp only [inBlock] at q
   simp only [nBlock]
   split
   · rename_i e;rw [if_pos e] at q;exact q
   · rename_i e;rw [if_neg e] at q;exact q
 | .loop b,K,T,H,h=>by rw [nC_loop] at h;exact h
 | .region os,K,T,H,h=>by
  rw [nC_region] at h
  by_cases q:nextFirst os=true
  · rw [if_pos q] at h
    cases os with
    | nil=>simp [nextFirst] at q
    | cons o os =>
     obtain ⟨dst,g,op⟩:=o
     cases g with
     | some g=>simp [nextFirst] at q
     | none =>
      cases op <;> first | (simp [nextFirst] at q;done) | skip
      rw [nReg_next] at h
      exact NW.region_next hE h
  · rw [if_neg q] at h
    exact NW.ofw hE h
 | .skip,K,T,H,h=>NW.ofw hE (by rw [nC_skip] at h;exact h)
 | .ret,K,T,H,h=>NW.ofw hE (by rw [nC_ret] at h;exact h)
 | .exit id,K,T,H,h=>NW.ofw hE (by rw [nC_exit] at h;exact h)
 | .kill ts,K,T,H,h=>NW.ofw hE (by simpa only [nC] using h)
 | .fail,K,T,H,h=>NW.ofw hE (by simpa only [nC] using h)
 | .draw hs os,K,T,H,h=>NW.ofw hE (by simpa only [nC] using h)
theorem nloop_go (hE:EnvOK P E) {n:Nat} {ts:List Nat} {c:AC} (live:List Nat) (hl:(live.all fun d=>!ts.contains d)=true) (I:Nat→List AV→Heap→Prop)
 (step:∀ (J:Nat→List AV→Heap→Prop),J=I→∀ (m:Nat) (vs:List AV) (H:Heap) (b:Nat→AV),I m vs H→nC P E lim c (andThen (Nxt live J n m) K) (fr n b (live.zip vs)) H)
 {b:Nat→AV} {l:List (Nat × AV)} (m:Nat) (h0:I m (live.map fun d=>(look l d).getD (b d)) H):NW P E (.loop (.seq (.kill ts) c)) lim (fr n b l) H K:=by
 refine NW.loop (fun m T H=>∃ vs b,I m vs H∧vs.length=live.length∧T=fr n b (live.zip vs)) ?_ m ⟨_,fun t=>(look l t).getD (b t),h0,by simp,by rw [zip_map];exact fr_pick live⟩
 rintro m T H ⟨vs,b,h1,h2,rfl⟩
 refine NW.kill ?_
 obtain ⟨b',e⟩:=fr_kill ts (n:=n) (b:=b) (l:=live.zip vs) (by
  rw [List.all_eq_true]
  rintro ⟨d,v⟩ hp
  exact List.all_eq_true.1 hl d (List.of_mem_zip hp).1)
 rw [e]
 refine (nC_ok hE (step I rfl m vs H b' h1)).mono fun x T' H' h=>?_
 cases x with
 | normal =>
  obtain ⟨m',vs',g1,g2,g3,b2,g4⟩:=h
  exact ⟨m',g1,vs',b2,g2,g3,g4⟩
 | ret=>exact h
 | exit id=>exact h
end
end Go.Proofs.YtgbnbgkldeifkaaGreatA

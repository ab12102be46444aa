/- Ranges over maps: whatever order is drawn. No statement about the program is proved here. -/
import Derived.Test.YtgbnbgkldeifkaaGreatA32
namespace Go.Proofs.YtgbnbgkldeifkaaGreatA
open Go Go.RowKit
set_option linter.unusedVariables false
def nNext (lim:Nat) (H:Heap) (v:AV) (K:AV→Heap→Prop):Prop :=
 ∃ b r since seen last es clock,v=.ptr (some (b,0))∧H[b]?=some (.iter (some r) since seen last)∧H[r]?=some (.map es clock)∧lim≤b ∧
  ¬ ((!seen.isEmpty && !es.isEmpty && es.all fun e=>decide (e.2.2 ≥ last))=true)∧(∀ e ∈ es,e.2.2 < since) ∧
  (∀ e ∈ es,e.2.2 ∉ seen→K (.tup [.bool true,e.1,e.2.1]) (H.set b (.iter (some r) since (seen++[e.2.2]) clock))) ∧
  ((∀ e ∈ es,e.2.2 ∈ seen)→K (.tup [.bool false]) H)
section
variable {w0:World} {ro:Nat→Prop} {P:Program} {μ:Mu} {H:Heap} {w:World} {T:Tmps} {lim:Nat} {E:AEnv}
theorem EntR.back:∀ {es:List (AV × AV × Nat)} {ces:List MapEntry},EntR w0 ro μ es ces→∀ (i:Nat) (e:MapEntry),ces[i]?=some e→∃ k v,es[i]?=some (k,v,e.born)∧VR w0 ro μ k e.key∧VR w0 ro μ v e.val
 | [],[],_,i,e,q=>by simp at q
 | [],_ :: _,h,_,_,_=>h.elim
 | _ :: _,[],h,_,_,_=>h.elim
 | (k,v,b) :: es,e :: ces,h,0,e2,q=>by
  simp only [List.getElem?_cons_zero,Option.some.injEq] at q
  subst q
  exact ⟨k,v,by rw [h.1];rfl,h.2.1,h.2.2.1⟩
 | (k,v,b) :: es,e :: ces,h,i + 1,e2,q=>by simpa using EntR.back h.2.2.2 i e2 (by simpa using q)
theorem next_sim {ty:TypeId} {v:AV} {it:Value} {K:AV→Heap→Prop} (hr:HR w0 ro μ H w) (hit:VR w0 ro μ v it) (h:nNext lim H v K) :
 ∃ r H',K r H'∧VS w0 ro P lim μ H w (Instr.next it false ty) r H':=by
 obtain ⟨b,rr,since,seen,last,es,clock,rfl,hb,hb2,hlim,hno,hold,hsome,hnone⟩:=h
 obtain ⟨loc,hm,rfl⟩:∃ loc:Loc,μ[b]?=some (some loc)∧it=.pointer (some ⟨loc.c,loc.k + 0,none⟩):=by
  cases hit with | ptr h=>exact ⟨_,h,rfl⟩
 have hbr:=hr.blk b loc hm
 have over:VR w0 ro μ (.tup [.bool false]) (.tuple #[.bool false]):=VR.tup (vs:=[.bool false]) (.cons (.bool _) .nil)
 rw [hb] at hbr
 obtain ⟨h0,hk,m',h1,h2⟩:=hbr
 cases m' with
 | none=>exact h2.elim
 | some c =>
  obtain ⟨l2,h3,rfl⟩:=h2
  obtain ⟨_,ces,h4,h5⟩:=map_block hr h3 hb2
  have ea:(es.all fun e=>decide (e.2.2 ≥ last))=ces.all (fun e=>decide (e.born ≥ last)):=by
   rw [← Array.all_toList]
   exact EntR.all (fun e e' q=>by rw [q]) h5
  have ee:es.isEmpty=ces.isEmpty:=by
   have:=h5.len
   rw [Bool.eq_iff_iff]
   simp only [List.isEmpty_iff,Array.isEmpty_iff]
   constructor
   · intro q;rw [q] at this;simpa using this
   · intro q;subst q;simpa using this.symm
  have hno':¬ ((!seen.toArray.isEmpty && !ces.isEmpty && ces.all fun e=>decide (e.born ≥ last))=true):=by
   rw [← ee,← ea]
   simpa using hno
  have hold':∀ e ∈ ces.toList,e.born < since:=fun e he=>by
   obtain ⟨i,hi,q⟩:=List.getElem_of_mem he
   obtain ⟨k,v,g1,_,_⟩:=h5.back i e (by rw [List.getElem?_eq_getElem hi,q])
   exact hold _ (List.mem_of_getElem? g1)
  have hrun:∀ (cand:Array (Option MapEntry)) (res:Value) (w':World),(let left:=ces.filter fun e=>!seen.toArray.contains e.born
   let old:=left.filter (·.born < since)
   let new:=left.filter (·.born ≥ since)
   (if old.isEmpty then #[none] else #[])++(old++new).map some)=cand→((do
   match cand[← choose (.mapNext cand.size)]? with
   | some (some e) =>
    setObj loc.c (.mapIter (some l2.c) since (seen.toArray.push e.born) clock)
    pure (.tuple #[.bool true,e.key,e.val])
   | some none=>pure (.tuple #[.bool false])
   | none => stuck "Next: no such candidate" : Sem Value)).run P w = .ok res w' → (Instr.next (.pointer (some ⟨loc.c, 0, none⟩)) false ty).run P w = .ok res w' := fun cand res w' hcand q => by
   subst hcand
   unfold Instr.next
   have g1:(getObj loc.c).run P w=.ok (.mapIter (some l2.c) since seen.toArray last) w:=by simp [getObj,Sem.run,h1]
   simp only [Sem.run_bind,g1,Result.andThen_ok,MapKept.run_getObj_map h4]
   rw [if_neg hno']
   exact q
  rw [hk]
  obtain ⟨L,hL⟩:∃ L,L=ces.filter fun e=>!seen.toArray.contains e.born:=⟨_,rfl⟩
  have hLold:L.filter (·.born < since)=L:=by
   apply Array.toList_inj.1
   rw [Array.toList_filter]
   refine List.filter_eq_self.2 fun e he=>?_
   rw [hL,Array.toList_filter] at he
   simpa using hold' e (List.mem_filter.1 he).1
  have hLnew:L.filter (·.born ≥ since)=#[]:=by
   apply Array.toList_inj.1
   rw [Array.toList_filter]
   refine List.filter_eq_nil_iff.2 fun e he=>?_
   rw [hL,Array.toList_filter] at he
   have:=hold' e (List.mem_filter.1 he).1
   simp;omega
  by_cases hemp:L=#[]
  · refine ⟨.tup [.bool false],H,hnone fun e he=>?_,VS.same hr (v':=.tuple #[.bool false]) (hrun #[none] _ _ ?_ ?_) over⟩
    · obtain ⟨i,hi,q⟩:=List.getElem_of_mem he
      obtain ⟨e',g1,g2,_,_⟩:=h5.get i e.1 e.2.1 e.2.2 (by rw [List.getElem?_eq_getElem hi,q])
      have hm':e' ∈ ces.toList:=List.mem_of_getElem? g1
      have:e' ∉ L.toList:=by rw [hemp];simp
      rw [hL,Array.toList_filter,List.mem_filter] at this
      simp only [not_and,Bool.not_eq_true'] at this
      have:=this hm'
      rw [g2] at this
      simpa using this
    · simp only [← hL,hemp]
      simp
    · simp [choose,Sem.run,Question.forced]
  · have hpos:0 < L.size:=Array.size_pos_iff.2 hemp
    obtain ⟨j,w1,hj,hw1,hch⟩:∃ (j:Nat) (w1:World),j < L.size∧(w1=w∨w1=w.drew)∧(choose (.mapNext L.size)).run P w=.ok j w1:=by
     rw [run_choose_drew]
     by_cases hf:(Question.mapNext L.size).forced=true
     · exact ⟨0,w,hpos,.inl rfl,by rw [if_pos hf]⟩
     · exact ⟨_,w.drew,Nat.mod_lt _ hpos,.inr rfl,by rw [if_neg hf];rfl⟩
    obtain ⟨e0,hLj⟩:∃ e0,L[j]?=some e0:=⟨_,Array.getElem?_eq_getElem hj⟩
    have hmem:e0 ∈ L.toList:=List.mem_of_getElem? (i:=j) (by rw [Array.getElem?_toList];exact hLj)
    rw [hL,Array.toList_filter,List.mem_filter] at hmem
    obtain ⟨hm1,hm2⟩:=hmem
    obtain ⟨i,hi,q⟩:=List.getElem_of_mem hm1
    obtain ⟨k,v,g1,g2,g3⟩:=h5.back i e0 (by rw [List.getElem?_eq_getElem hi,q])
    have hes:(k,v,e0.born) ∈ es:=List.mem_of_getElem? g1
    have hns:e0.born ∉ seen:=by simpa using hm2
    have heq:∀ c:Nat,w1.heap[c]?=w.heap[c]?:=fun c=>by rcases hw1 with rfl | rfl <;> rfl
    have hw1s:w1.heap.size=w.heap.size:=by rcases hw1 with rfl | rfl <;> rfl
    have h1':w1.heap[loc.c]?=some (.mapIter (some l2.c) since seen.toArray last):=(heq _).trans h1
    have hset:(setObj loc.c (.mapIter (some l2.c) since (seen.toArray.push e0.born) clock)).run P w1=.ok () { w1 with heap:=w1.heap.setIfInBounds loc.c (.mapIter (some l2.c) since (seen.toArray.push e0.born) clock) }:=by
     simp [setObj,Sem.run,h1']
    refine ⟨_,_,hsome _ hes hns,.tuple #[.bool true,e0.key,e0.val],{ w1 with heap:=w1.heap.setIfInBounds loc.c (.mapIter (some l2.c) since (seen.toArray.push e0.born) clock) },μ,hrun (L.map some) _ _ ?_ ?_,?_,VR.tup (vs:=[.bool true,e0.key,e0.val]) (.cons (.bool _) (.cons g2 (.cons g3 .nil)))⟩
    · simp only [← hL,hLold,hLnew]
      have:L.isEmpty=false:=by
       cases e:L.isEmpty
       · rfl
       · exact absurd (Array.isEmpty_iff.1 e) hemp
      simp [this]
    · have e5:(L.map some).size=L.size:=by simp
      have e6:(L.map some)[j]?=some (some e0):=by simp [hLj]
      simp only [e5,Sem.run_bind,hch,Result.andThen_ok,e6,hset,Sem.run_pure]
    · refine Post.turn hr hlim hm (.inr (.inr ⟨_,_,_,_,hb⟩)) (by simp [hw1s]) (fun c hc=>((MapKept.heap_set h1').2 c hc).trans (heq c)) ?_ ?_ ?_ ?_
      · rcases hw1 with rfl | rfl <;> rfl
      · rcases hw1 with rfl | rfl <;> rfl
      · rcases hw1 with rfl | rfl <;> rfl
      · refine ⟨h0,hk,some l2.c,?_,l2,h3,rfl⟩
        rw [(MapKept.heap_set h1').1]
        simp
def NW (P:Program) (E:AEnv) (ac:AC) (lim:Nat) (T:Tmps) (H:Heap) (K:AExit→Tmps→Heap→Prop):Prop :=
 ∀ (w0:World) (ro:Nat→Prop) (c:Code) (μ:Mu) (w:World) (a:Act) (Q:Exit→Act→World→Prop),Low P c ac→HR w0 ro μ H w→AR w0 ro μ T a →
  (∀ x T' H' μ' a' w',K x T' H'→Post w0 ro lim μ H w μ' H' w'→AR w0 ro μ' T' a'→Q (exitOf x) a' w')→c.wp P Q a w
def nOps (E:AEnv) (lim:Nat) (K:Tmps→Heap→Prop):List AOper→Tmps→Heap→Prop
 | [],T,H=>K T H
 | ⟨dst,none,.nextM x⟩ :: os,T,H=>nNext lim H (x.ev T) fun r H'=>nOps E lim K os (putT T dst r) H'
 | o :: os,T,H=>wOps E lim (nOps E lim K os) [o] T H
theorem next_oper {o:Oper} {dst:Option Nat} {g:Option (Nat × Bool)} {x:AX} {ops:Array Oper} (h:lowOper P ops o=⟨dst,g,.nextM x⟩):∃ y,o.op=.next y false∧lowX y=some x∧lowGuard ops o.guard=some g∧o.dst=dst:=by
 unfold lowOper at h
 cases hg:lowGuard ops o.guard with
 | none=>rw [hg] at h;simp at h
 | some g' =>
  rw [hg] at h
  simp only [AOper.mk.injEq] at h
  obtain ⟨h1,h2,h3⟩:=h
  subst h2
  cases ho:o.op <;> rw [ho] at h3 <;> simp only [lowOp,lowLookup,lowMapSet,lowAssert,lowCall] at h3
  case next y s =>
   split at h3
   · rename_i ax e
     cases h3
     exact ⟨y,rfl,e,rfl,h1⟩
   · cases h3
  all_goals first | (cases h3;done) | skip
  case binOp op t x' y yt =>
   split at h3
   · unfold lowBin at h3
     (repeat' split at h3) <;> cases h3
   · cases h3
  all_goals ((repeat' split at h3) <;> first | (cases h3;done) | skip)
  all_goals (unfold lowBuiltin at h3;(repeat' split at h3) <;> cases h3)
theorem nops_sim (hE:EnvOK P E) {ops:Array Oper} {Q:Exit→Act→World→Prop} {w1:World} {μ1:Mu} {H1:Heap} {K:Tmps→Heap→Prop}:∀ (n k:Nat) (μ:Mu) (H:Heap) (w:World) (T:Tmps) (a:Act),k + n=ops.size →
 HR w0 ro μ H w→AR w0 ro μ T a→Post w0 ro lim μ1 H1 w1 μ H w→nOps E lim K ((ops.toList.drop k).map (lowOper P ops)) T H →
 (∀ T' H' μ' a' w',K T' H'→Post w0 ro lim μ1 H1 w1 μ' H' w'→AR w0 ro μ' T' a'→Q .normal a' w')→wpOps P ops Q (List.range' k n) a w
 | 0,k,μ,H,w,T,a,hk,hr,har,hp,h,hQ=>by
  have:ops.toList.drop k=[]:=List.drop_eq_nil_of_le (by simp;omega)
  rw [this] at h
  exact hQ T H μ a w h hp har
 | n + 1,k,μ,H,w,T,a,hk,hr,har,hp,h,hQ=>by
  have hlt:k < ops.size:=by omega
  have hi:ops[k]?=some ops[k]:=Array.getElem?_eq_getElem hlt
  have:ops.toList.drop k=ops[k] :: ops.toList.drop (k + 1):=by
   rw [List.drop_eq_getElem_cons (by simpa using hlt)];simp
  rw [this] at h
  rw [List.range'_succ,wpOps_cons]
  simp only [List.map_cons] at h
  have plain:wOps E lim (nOps E lim K ((ops.toList.drop (k + 1)).map (lowOper P ops))) [lowOper P ops ops[k]] T H→wpOp P ops Q k (wpOps P ops Q (List.range' (k + 1) n)) a w:=fun h=>by
   obtain ⟨T2,H2,⟨m,h1⟩,h2⟩:=wOps_ok h
   simp only [runOps,Option.bind_eq_some_iff] at h1
   obtain ⟨⟨T3,H3⟩,h3,h4⟩:=h1
   simp only [Option.some.injEq,Prod.mk.injEq] at h4
   obtain ⟨rfl,rfl⟩:=h4
   exact step_sim hE (call_sim hE m) hi hr har h3 fun μ' a' w' hp' har'=>nops_sim hE n (k + 1) μ' _ w' _ a' (by omega) hp'.hr har' (hp.trans hp') h2 hQ
  cases ho:lowOper P ops ops[k] with
  | mk dst g op =>
   rw [ho] at h plain
   cases g with
   | some g=>exact plain h
   | none =>
    cases op
    case nextM x =>
     simp only [nOps] at h
     obtain ⟨y,e1,e2,e3,e4⟩:=next_oper ho
     have vx:=lowX_VR e2 har
     obtain ⟨r,H',h5,v',w',μ',h6,h7,h8⟩:=next_sim (P:=P) (ty:=ops[k].type) hr vx h
     unfold wpOp
     simp only [hi]
     have hwant:Region.wanted ops[k] (yielded ops a.tmps)=true:=by
      have hgn:ops[k].guard=none:=by
       cases hgg:ops[k].guard with
       | none=>rfl
       | some p =>
        rw [hgg] at e3
        obtain ⟨j,want⟩:=p
        simp only [lowGuard,Option.map_eq_some_iff] at e3
        obtain ⟨t,_,q⟩:=e3
        cases q
      unfold Region.wanted
      rw [hgn]
     rw [hwant]
     simp only [if_true]
     refine .inl ?_
     unfold Oper.wp
     have:(execOp a.eval ops[k]).run P w=.ok (.value v') w':=by
      unfold execOp
      simp only [e1]
      simp [h6]
     rw [this]
     show wpOps P ops Q (List.range' (k + 1) n) (a.put ops[k].dst v') w'
     rw [e4]
     exact nops_sim hE n (k + 1) μ' H' w' _ _ (by omega) h7.hr ((har.ext h7.ext).put dst h8) (hp.trans h7) h5 hQ
    all_goals exact plain h
theorem NW.of (hE:EnvOK P E) {c:AC} {K:AExit→Tmps→Heap→Prop} (h:Wp E c lim T H K):NW P E c lim T H K:=by
 obtain ⟨x,T',H',⟨n,h1⟩,h2⟩:=h
 intro w0 ro c μ w a Q hl hr har hQ
 exact (code_sim hE n).1 w0 ro lim c _ μ H w T a x T' H' Q hl hr har h1 fun μ' a' w' hp ha=>hQ x T' H' μ' a' w' h2 hp ha
theorem NW.ofw (hE:EnvOK P E) {c:AC} {K:AExit→Tmps→Heap→Prop} (h:wC E lim c K T H):NW P E c lim T H K:=NW.of hE (wC_ok h)
theorem NW.mono {c:AC} {K K':AExit→Tmps→Heap→Prop} (h:NW P E c lim T H K) (k:∀ x T' H',K x T' H'→K' x T' H'):NW P E c lim T H K' :=
 fun w0 ro c μ w a Q hl hr har hQ=>h w0 ro c μ w a Q hl hr har fun x T' H' μ' a' w' q=>hQ x T' H' μ' a' w' (k x T' H' q)
def nThen (K2:Tmps→Heap→Prop) (K:AExit→Tmps→Heap→Prop):AExit→Tmps→Heap→Prop:=fun x T H=>match x with | .normal=>K2 T H | .ret=>K .ret T H | .exit id=>K (.exit id) T H
theorem NW.region (hE:EnvOK P E) {os:List AOper} {K:AExit→Tmps→Heap→Prop} (h:nOps E lim (K .normal) os T H):NW P E (.region os) lim T H K:=by
 intro w0 ro c μ w a Q hl hr har hQ
 cases hl with
 | region id ops =>
  refine wp_region ?_
  rw [List.range_eq_range']
  exact nops_sim hE ops.size 0 μ H w T a (by omega) hr har (Post.refl hr) (by simpa using h) fun T' H' μ' a' w' q hp ha=>hQ .normal T' H' μ' a' w' q hp ha
def splitLike:AC→AC→Bool
 | .draw _ _,.region [_]=>true
 | _,_=>false
theorem NW.seq {c1 c2:AC} {K:AExit→Tmps→Heap→Prop} (hk:∀ ts,c1 ≠ .kill ts) (hs:splitLike c1 c2=false) (h:NW P E c1 lim T H (nThen (fun T1 H1=>NW P E c2 lim T1 H1 K) K)):NW P E (.seq c1 c2) lim T H K:=by
 intro w0 ro c μ w a Q hl hr har hQ
 cases hl with
 | seq k1 k2 =>
  refine wp_seq (h w0 ro _ μ w a _ k1 hr har fun x T1 H1 μ1 a1 w1 q hp ha=>?_)
  cases x with
  | normal=>exact q w0 ro _ μ1 w1 a1 Q k2 hp.hr ha fun x T' H' μ' a' w' q' hp' ha'=>hQ x T' H' μ' a' w' q' (hp.trans hp') ha'
  | ret=>exact hQ _ T1 H1 μ1 a1 w1 q hp ha
  | exit id=>exact hQ _ T1 H1 μ1 a1 w1 q hp ha
 | kill ts k=>exact absurd rfl (hk ts)
 | split=>simp [splitLike] at hs
theorem NW.kill {ts:List Nat} {c2:AC} {K:AExit→Tmps→Heap→Prop} (h:NW P E c2 lim (killT T ts) H K):NW P E (.seq (.kill ts) c2) lim T H K:=by
 intro w0 ro c μ w a Q hl hr har hQ
 cases hl with
 | seq k1 k2=>cases k1
 | kill ts k=>exact h w0 ro c μ w a Q k hr (har.kill ts) hQ
theorem NW.cond {x:AX} {t e:AC} {b:Bool} {K:AExit→Tmps→Heap→Prop} (hx:x.ev T=.bool b) (h:NW P E (if b then t else e) lim T H K):NW P E (.cond x t e) lim T H K:=by
 intro w0 ro c μ w a Q hl hr har hQ
 cases hl with
 | @cond c1 _ t' e' _ _ hc k1 k2 =>
  have hv:=lowX_VR hc har
  rw [hx] at hv
  generalize ha:a.eval c1=u at hv
  cases hv
  refine wp_cond ha ?_
  cases b with
  | true=>exact h w0 ro t' μ w a Q k1 hr har hQ
  | false=>exact h w0 ro e' μ w a Q k2 hr har hQ
def nBlock (id:Nat) (K:AExit→Tmps→Heap→Prop):AExit→Tmps→Heap→Prop:=fun x T H=>match x with | .exit j=>K (if j=id then .normal else .exit j) T H | .normal=>K .normal T H | .ret=>K .ret T H
theorem NW.block {id:Nat} {b:AC} {K:AExit→Tmps→Heap→Prop} (h:NW P E b lim T H (nBlock id K)):NW P E (.block id b) lim T H K:=by
 intro w0 ro c μ w a Q hl hr har hQ
 cases hl with
 | block _ k =>
  refine wp_block (h w0 ro _ μ w a _ k hr har fun x T1 H1 μ1 a1 w1 q hp ha=>?_)
  cases x with
  | normal=>exact hQ _ T1 H1 μ1 a1 w1 q hp ha
  | ret=>exact hQ _ T1 H1 μ1 a1 w1 q hp ha
  | exit j =>
   simp only [exitOf,Exit.inBlock]
   simp only [nBlock] at q
   by_cases e:j=id
   · rw [if_pos e] at q ⊢;exact hQ .normal T1 H1 μ1 a1 w1 q hp ha
   · rw [if_neg e] at q ⊢;exact hQ (.exit j) T1 H1 μ1 a1 w1 q hp ha
theorem NW.loop {b:AC} {K:AExit→Tmps→Heap→Prop} (I:Nat→Tmps→Heap→Prop) (step:∀ m T H,I m T H→NW P E b lim T H (nThen (fun T1 H1=>∃ m',m' < m∧I m' T1 H1) K)) (m:Nat) (h:I m T H):NW P E (.loop b) lim T H K:=by
 intro w0 ro c μ w a Q hl hr har hQ
 cases hl with
 | @loop b' _ k =>
  refine wp_loop_rounds (m + 1) ?_
  have key:∀ (n m:Nat),m < n→∀ T H μ1 w1 a1,I m T H→HR w0 ro μ1 H w1→AR w0 ro μ1 T a1→(∀ x T' H' μ' a' w',K x T' H'→Post w0 ro lim μ1 H w1 μ' H' w'→AR w0 ro μ' T' a'→Q (exitOf x) a' w')→Code.rounds P b' Q n a1 w1:=by
   intro n
   induction n with
   | zero=>intro m hm;omega
   | succ n ih =>
    intro m hm T H μ1 w1 a1 hI hr1 ha1 hQ1
    refine step m T H hI w0 ro b' μ1 w1 a1 _ k hr1 ha1 fun x T2 H2 μ2 a2 w2 q hp ha=>?_
    cases x with
    | normal =>
     obtain ⟨m',hm',hI'⟩:=q
     exact ih m' (by omega) T2 H2 μ2 w2 a2 hI' hp.hr ha fun x T' H' μ' a' w' q' hp' ha'=>hQ1 x T' H' μ' a' w' q' (hp.trans hp') ha'
    | ret=>exact hQ1 .ret T2 H2 μ2 a2 w2 q hp ha
    | exit id=>exact hQ1 (.exit id) T2 H2 μ2 a2 w2 q hp ha
  exact key (m + 1) m (by omega) T H μ w a h hr har hQ
end
end Go.Proofs.YtgbnbgkldeifkaaGreatA

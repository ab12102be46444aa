/- Calls by rewriting; rows of one's own. No statement about the program is proved here. -/
import Derived.Test.YtgbnbgkldeifkaaGreatB3
namespace Go.Proofs.YtgbnbgkldeifkaaGreatA
open Go Go.RowKit
set_option linter.unusedVariables false
universe u
section
variable {E:AEnv}
theorem cl_det {f:Nat} {as:List AV} {lim:Nat} {H H1 H2:Heap} {r1 r2:AV} (h:Cl E f as lim H r1 H1) (k:Cl E f as lim H r2 H2):r1=r2∧H1=H2:=by
 obtain ⟨n,h⟩:=h
 obtain ⟨m,k⟩:=k
 have h':=callF_mono (exec_mono (Nat.le_add_right n m)) h
 have k':=callF_mono (exec_mono (Nat.le_add_left m n)) k
 rw [h'] at k'
 cases k'
 exact ⟨rfl,rfl⟩
theorem WCl_eq {f:Nat} {as:List AV} {lim:Nat} {H H':Heap} {r:AV} {K:AV→Heap→Prop} (h:Cl E f as lim H r H'):WCl E f as lim H K=K r H':=by
 apply propext
 constructor
 · rintro ⟨r2,H2,h2,k⟩
   obtain ⟨rfl,rfl⟩:=cl_det h h2
   exact k
 · exact fun k=>⟨r,H',h,k⟩
def Pu (E:AEnv) (f:Nat) (ds:List AV) (d:AV):Prop :=
 ∃ fd n x T H v used,E.fn f=some (.code fd)∧fd.mode=.pure∧exec E n fd.body 0 (ds++List.replicate (fd.ntmps - ds.length) .noval) []=some (x,T,H)∧(x=.normal∨x=.ret)∧resAll H T fd.results=some v∧own H deep v=some (d,used)∧noTwo used=true
theorem Pu.det {f:Nat} {ds:List AV} {d1 d2:AV} (h:Pu E f ds d1) (k:Pu E f ds d2):d1=d2:=by
 obtain ⟨fd,n,x,T,H,v,u,h1,h2,h3,h4,h5,h6,h7⟩:=h
 obtain ⟨fd',n',x',T',H',v',u',k1,k2,k3,k4,k5,k6,k7⟩:=k
 rw [h1] at k1
 cases k1
 have h3':=exec_mono (Nat.le_add_right n n') _ _ _ _ _ h3
 have k3':=exec_mono (Nat.le_add_left n' n) _ _ _ _ _ k3
 rw [h3'] at k3'
 cases k3'
 rw [h5] at k5
 cases k5
 rw [h6] at k6
 cases k6
 rfl
theorem Pu.cl {f:Nat} {ds as:List AV} {d:AV} {lim:Nat} {H:Heap} (h:Pu E f ds d) (hd:mapO (frz H deep) as=some ds):Cl E f as lim H (thaw d H).1 (thaw d H).2:=by
 obtain ⟨fd,n,x,T,H',v,u,h1,h2,h3,h4,h5,h6,h7⟩:=h
 exact Cl.pure h1 h2 hd (x:=x) ⟨n,by rw [mapO_len hd];exact h3⟩ h4 h5 h6 h7
def wPu (E:AEnv) (f:Nat) (o:Option (List AV)) (H:Heap) (K:AV→Heap→Prop):Prop :=
 match o with
 | some ds=>∃ d,Pu E f ds d∧K (thaw d H).1 (thaw d H).2
 | none=>False
theorem WCl_pure {f:Nat} {fd:AFun} {as:List AV} {lim:Nat} {H:Heap} {K:AV→Heap→Prop} (hf:E.fn f=some (.code fd)) (hm:fd.mode=.pure):WCl E f as lim H K=wPu E f (mapO (frz H deep) as) H K:=by
 apply propext
 constructor
 · rintro ⟨r,H',⟨n,h⟩,k⟩
   unfold callF at h
   rw [hf] at h
   simp only [hm,Option.bind_eq_some_iff] at h
   obtain ⟨ds,h1,h2⟩:=h
   rw [h1]
   have key:∀ (x:AExit) (T:Tmps) (H2:Heap),(x=.normal∨x=.ret)→exec E n fd.body 0 (ds++List.replicate (fd.ntmps - as.length) .noval) []=some (x,T,H2)→((resAll H2 T fd.results).bind fun v=>(own H2 deep v).bind fun p=>if noTwo p.2=true then some (thaw p.1 H) else none)=some (r,H')→wPu E f (some ds) H K:=fun x T H2 hx e q=>by
    simp only [Option.bind_eq_some_iff] at q
    obtain ⟨v,q1,p,q2,q3⟩:=q
    split at q3
    · rename_i q4
      have q5:=Option.some.inj q3
      refine ⟨p.1,⟨fd,n,x,T,H2,v,p.2,hf,hm,?_,hx,q1,q2,q4⟩,by rw [q5];exact k⟩
      rw [← mapO_len h1]
      exact e
    · cases q3
   cases e:exec E n fd.body 0 (ds++List.replicate (fd.ntmps - as.length) .noval) [] with
   | none=>rw [e] at h2;cases h2
   | some y =>
    obtain ⟨x,T,H2⟩:=y
    rw [e] at h2
    cases x with
    | exit id=>cases h2
    | normal=>exact key _ _ _ (.inl rfl) e h2
    | ret=>exact key _ _ _ (.inr rfl) e h2
 · intro h
   cases e:mapO (frz H deep) as with
   | none=>rw [e] at h;exact h.elim
   | some ds =>
    rw [e] at h
    obtain ⟨d,h1,h2⟩:=h
    exact ⟨_,_,h1.cl e,h2⟩
theorem wPu_eq {f:Nat} {ds:List AV} {d:AV} {H:Heap} {K:AV→Heap→Prop} (h:Pu E f ds d):wPu E f (some ds) H K=K (thaw d H).1 (thaw d H).2:=by
 apply propext
 constructor
 · rintro ⟨d2,h2,k⟩
   cases h.det h2
   exact k
 · exact fun k=>⟨d,h,k⟩
theorem pu_is {f:Nat} {fd:AFun} {ds:List AV} {d:AV} (hf:E.fn f=some (.code fd)) (hm:fd.mode=.pure) (h:wC E 0 fd.body (pEnd fd.results (fun r=>r=d)) (ds++List.replicate (fd.ntmps - ds.length) .noval) []):Pu E f ds d:=by
 obtain ⟨x,T',H',⟨n,h1⟩,h2⟩:=(wC_ok h).mono fun _ _ _=>pEnd_ok
 cases x with
 | exit id=>exact h2.elim
 | normal=>obtain ⟨v,d,u,g1,g2,g3,rfl⟩:=h2;exact ⟨fd,n,_,T',H',v,u,hf,hm,h1,.inl rfl,g1,g2,g3⟩
 | ret=>obtain ⟨v,d,u,g1,g2,g3,rfl⟩:=h2;exact ⟨fd,n,_,T',H',v,u,hf,hm,h1,.inr rfl,g1,g2,g3⟩
theorem pu_ex {f:Nat} {fd:AFun} {ds:List AV} {Q:AV→Prop} (hf:E.fn f=some (.code fd)) (hm:fd.mode=.pure) (h:wC E 0 fd.body (pEnd fd.results Q) (ds++List.replicate (fd.ntmps - ds.length) .noval) []):∃ d,Pu E f ds d∧Q d:=by
 obtain ⟨x,T',H',⟨n,h1⟩,h2⟩:=(wC_ok h).mono fun _ _ _=>pEnd_ok
 cases x with
 | exit id=>exact h2.elim
 | normal=>obtain ⟨v,d,u,g1,g2,g3,g4⟩:=h2;exact ⟨d,⟨fd,n,_,T',H',v,u,hf,hm,h1,.inl rfl,g1,g2,g3⟩,g4⟩
 | ret=>obtain ⟨v,d,u,g1,g2,g3,g4⟩:=h2;exact ⟨d,⟨fd,n,_,T',H',v,u,hf,hm,h1,.inr rfl,g1,g2,g3⟩,g4⟩
theorem cl_is {f:Nat} {fd:AFun} {as:List AV} {lim:Nat} {H H':Heap} {r:AV} (hf:E.fn f=some (.code fd)) (hm:fd.mode=.heap) (h:wC E lim fd.body (hEnd fd.results (fun r' H2=>r'=r∧H2=H')) (as++List.replicate (fd.ntmps - as.length) .noval) H):Cl E f as lim H r H':=by
 obtain ⟨r1,H1,h1,rfl,rfl⟩:=cl_of hf hm h
 exact h1
end
def owL {α:Type} (es:Nat) (f:α→List AV) (l:List α):AV:=if l=[] then .nilsl else .ow es l.length (l.flatMap f)
def Row {α:Type} (lim:Nat) (H:Heap) (es:Nat) (f:α→List AV) (l:List α) (v:AV):Prop :=
 (l=[]∧v=.nilsl)∨(l ≠ []∧∃ b,lim≤b∧v=.sl b 0 l.length es∧H[b]?=some (.cells true (l.flatMap f)))
section
variable {α:Type} {lim:Nat} {H X:Heap} {es:Nat} {f:α→List AV} {l:List α} {v:AV}
theorem Row.nil:Row lim H es f [] .nilsl:=.inl ⟨rfl,rfl⟩
theorem get_app {b:Nat} {x:ABlk} (h:H[b]?=some x):(H++X)[b]?=some x:=by
 rw [List.getElem?_append_left (List.getElem?_eq_some_iff.1 h).1]
 exact h
theorem Row.app (h:Row lim H es f l v):Row lim (H++X) es f l v:=by
 rcases h with h | ⟨ne,b,h1,h2,h3⟩
 · exact .inl h
 · exact .inr ⟨ne,b,h1,h2,get_app h3⟩
theorem Row.mono {lim':Nat} (h:Row lim H es f l v) (hl:lim'≤lim):Row lim' H es f l v:=by
 rcases h with h | ⟨ne,b,h1,h2,h3⟩
 · exact .inl h
 · exact .inr ⟨ne,b,by omega,h2,h3⟩
theorem Row.len (h:Row lim H es f l v):lenSlAV v=some (.int .i64 l.length):=by
 rcases h with ⟨rfl,rfl⟩ | ⟨ne,b,h1,rfl,h3⟩ <;> rfl
theorem Row.one (h:Row lim H es f l v):AV.one v=true:=by
 rcases h with ⟨rfl,rfl⟩ | ⟨ne,b,h1,rfl,h3⟩ <;> rfl
theorem Row.cells (h:Row lim H es f l v):v.cells=[v]:=by
 rcases h with ⟨rfl,rfl⟩ | ⟨ne,b,h1,rfl,h3⟩ <;> rfl
theorem cut_all {cs:List AV} {n:Nat} (h:cs.length=n):cut cs 0 n=some cs:=by
 unfold cut
 rw [if_pos (by omega),List.drop_zero,List.take_of_length_le (by omega)]
theorem Row.elems (hf:∀ x,(f x).length=es) (h:Row lim H es f l v):elems H es v=some (l.length,l.flatMap f):=by
 rcases h with ⟨rfl,rfl⟩ | ⟨ne,b,h1,rfl,h3⟩
 · rfl
 · simp only [Go.Proofs.YtgbnbgkldeifkaaGreatA.elems,if_true,Heap.cells?,h3,Option.bind_some,cut_all (flatMap_len hf l),Option.map_some]
def Flat (f:α→List AV):Prop:=∀ (H:Heap) (d:Nat) (x:α),mapO (frz H (d + 1)) (f x)=some (f x)
theorem Flat.all (hf:Flat f) (H:Heap) (d:Nat) (l:List α):mapO (frz H (d + 1)) (l.flatMap f)=some (l.flatMap f):=by
 induction l with
 | nil=>rfl
 | cons x l ih=>rw [List.flatMap_cons];exact mapO_app (hf H d x) ih
theorem Row.frz {d:Nat} (hl:∀ x,(f x).length=es) (hf:Flat f) (h:Row lim H es f l v):frz H (d + 2) v=some (roL f l):=by
 rcases h with ⟨rfl,rfl⟩ | ⟨ne,b,h1,rfl,h3⟩
 · rfl
 · unfold Go.Proofs.YtgbnbgkldeifkaaGreatA.frz
   by_cases e:l.length=0
   · cases List.length_eq_zero_iff.1 e;rfl
   · simp only [e,if_false,Heap.cells?,h3,Option.bind_some,cut_all (flatMap_len hl l),hf.all H d l,Option.map_some]
     rfl
theorem cut_flat (hl:∀ x,(f x).length=es) {i:Nat} (hi:i < l.length):cut (l.flatMap f) (i * es) es=some (f l[i]):=by
 have h:=flatMap_cut hl l i hi
 unfold cut at h ⊢
 split at h
 · rename_i q
   rw [List.length_drop] at q
   by_cases e:es=0
   · subst e
     simp only [Nat.mul_zero,Nat.zero_add] at *
     simpa using h
   · rw [if_pos (by omega)]
     simpa using h
 · cases h
theorem Row.append {bytes m:Nat} {x:AV} {r:List α} (hl:∀ x,(f x).length=es) (hes:0 < es) (h1:∀ x,(f x).all AV.one=true) (h:Row lim H es f l v) (hx:Go.Proofs.YtgbnbgkldeifkaaGreatA.elems H es x=some (m,r.flatMap f)) (hm:r.length=m) (hr:r ≠ []) (hb:(l.length + m) * bytes≤most) (hb2:l.length + m≤most) :
 ∃ v' H',appendAV lim H es bytes v x=some (v',H')∧(lim≤H.length→Row lim H' es f (l++r) v')∧H.length≤H'.length∧∀ (b:Nat) (y:ABlk),H[b]?=some y→(∀ o n s,v ≠ .sl b o n s)→H'[b]?=some y:=by
 subst hm
 have hone:(r.flatMap f).all AV.one=true:=by
  rw [List.all_flatMap]
  exact List.all_eq_true.2 fun x _=>h1 x
 have hm:r.length ≠ 0:=fun e=>hr (List.length_eq_zero_iff.1 e)
 rcases h with ⟨rfl,rfl⟩ | ⟨ne,b,g1,rfl,g3⟩
 · refine ⟨.sl H.length 0 r.length es,H++[.cells true (r.flatMap f)],?_,fun hlim=>.inr ⟨by simpa using hr,H.length,hlim,by simp,by simp⟩,by simp,fun b y hb _=>get_app hb⟩
   simp only [List.length_nil,Nat.zero_add] at hb hb2
   simp only [appendAV,hx,Option.bind_some,hm,if_false]
   rw [if_pos ⟨hb,hb2,hes,hone⟩]
 · have hbl:=(List.getElem?_eq_some_iff.1 g3).1
   refine ⟨.sl H.length 0 (l.length + r.length) es,H.set b .dead++[.cells true (l.flatMap f++r.flatMap f)],?_,fun hlim=>.inr ⟨by simp [hr],H.length,hlim,by simp,?_⟩,by simp,fun c y hc hne=>?_⟩
   · simp only [appendAV,hx,Option.bind_some,hm,if_false,g3,cut_all (flatMap_len hl l),Option.map_some]
     rw [if_pos ⟨trivial,hes,g1,hb,hb2,hone⟩]
   · have e:H.length=(H.set b .dead).length:=by simp
     rw [e,List.getElem?_append_right (Nat.le_refl _)]
     simp
   · have hbc:b ≠ c:=fun e=>hne 0 l.length es (by rw [e])
     refine get_app ?_
     rw [List.getElem?_set_ne hbc]
     exact hc
def Plain (f:α→List AV):Prop:=∀ (H:Heap) (d:Nat) (x:α),ownL (own H (d + 1)) (f x)=some (f x,[])
theorem ownL_app {g:AV→Option (AV × List Nat)}:∀ {a b a' b':List AV},ownL g a=some (a',[])→ownL g b=some (b',[])→ownL g (a++b)=some (a'++b',[])
 | [],b,a',b',h,k=>by simp only [ownL,Option.some.injEq,Prod.mk.injEq] at h;obtain ⟨rfl,_⟩:=h;simpa using k
 | v :: vs,b,a',b',h,k=>by
  simp only [ownL,Option.bind_eq_some_iff,Option.map_eq_some_iff,Prod.mk.injEq] at h
  obtain ⟨⟨v',u⟩,h1,⟨vs',u'⟩,h2,rfl,h3⟩:=h
  obtain ⟨rfl,rfl⟩:=List.append_eq_nil_iff.1 h3
  simp only [List.cons_append,ownL,h1,Option.bind_some,ownL_app h2 k,Option.map_some,List.append_nil]
theorem Plain.all (hf:Plain f) (H:Heap) (d:Nat) (l:List α):ownL (own H (d + 1)) (l.flatMap f)=some (l.flatMap f,[]):=by
 induction l with
 | nil=>rfl
 | cons x l ih=>rw [List.flatMap_cons];exact ownL_app (hf H d x) ih
theorem Row.own {d:Nat} (hl:∀ x,(f x).length=es) (hes:0 < es) (hf:Plain f) (h:Row lim H es f l v):∃ u,own H (d + 2) v=some (owL es f l,u)∧noTwo u=true∧∀ b ∈ u,lim≤b∧∃ o n s,v=.sl b o n s:=by
 rcases h with ⟨rfl,rfl⟩ | ⟨ne,b,h1,rfl,h3⟩
 · exact ⟨[],rfl,rfl,by simp⟩
 · by_cases e:l=[]
   · exact absurd e ne
   · refine ⟨[b],?_,rfl,fun b2 hb2=>by rw [List.mem_singleton.1 hb2];exact ⟨h1,_,_,_,rfl⟩⟩
     unfold Go.Proofs.YtgbnbgkldeifkaaGreatA.own
     simp only [h3]
     rw [if_pos ⟨by rw [flatMap_len hl];omega,hes⟩]
     simp only [List.drop_zero,hf.all H d l,Option.map_some]
     simp [owL,e]
def Still (f:α→List AV):Prop:=∀ (H:Heap) (x:α),thaws (f x) H=(f x,H)
theorem thaws_app:∀ {a b a' b':List AV} {H H1 H2:Heap},thaws a H=(a',H1)→thaws b H1=(b',H2)→thaws (a++b) H=(a'++b',H2)
 | [],b,a',b',H,H1,H2,h,k=>by simp only [thaws,Prod.mk.injEq] at h;obtain ⟨rfl,rfl⟩:=h;simpa using k
 | v :: vs,b,a',b',H,H1,H2,h,k=>by
  simp only [thaws,Prod.mk.injEq] at h
  obtain ⟨rfl,rfl⟩:=h
  have:=thaws_app (a:=vs) (H:=(thaw v H).2) rfl k
  simp only [List.cons_append,thaws,this]
theorem Still.all (hf:Still f) (H:Heap) (l:List α):thaws (l.flatMap f) H=(l.flatMap f,H):=by
 induction l with
 | nil=>simp [thaws]
 | cons x l ih=>rw [List.flatMap_cons];exact thaws_app (hf H x) ih
theorem thaw_owL (hf:Still f) (hlim:lim≤H.length) (l:List α):∃ v X,thaw (owL es f l) H=(v,H++X)∧Row lim (H++X) es f l v:=by
 by_cases e:l=[]
 · subst e
   exact ⟨.nilsl,[],by simp [owL,thaw],.nil⟩
 · refine ⟨.sl H.length 0 l.length es,[.cells true (l.flatMap f)],?_,.inr ⟨e,_,hlim,rfl,by simp⟩⟩
   simp [owL,e,thaw,hf.all]
theorem Row.push {bytes:Nat} {P X Z:Heap} (hl:∀ x,(f x).length=es) (hes:0 < es) (h1:∀ x,(f x).all AV.one=true) (h:Row P.length (P++X) es f l v) (y:α) (hb:(l.length + 1) * bytes≤most) (hb2:l.length + 1≤most) :
 ∃ v' X',appendAV 0 (P++(X++(Z++[ABlk.cells true (f y)]))) es bytes v (.sl (X.length + Z.length + P.length) 0 1 es)=some (v',P++X')∧Row P.length (P++X') es f (l++[y]) v':=by
 have hel:Go.Proofs.YtgbnbgkldeifkaaGreatA.elems (P++(X++(Z++[ABlk.cells true (f y)]))) es (.sl (X.length + Z.length + P.length) 0 1 es)=some (1,f y):=by
  have e:(P++(X++(Z++[ABlk.cells true (f y)])))[X.length + Z.length + P.length]?=some (.cells true (f y)):=by
   rw [← List.append_assoc,← List.append_assoc,List.getElem?_append_right (by simp;omega)]
   simp
   rw [show X.length + Z.length + P.length - (P.length + (X.length + Z.length))=0 from by omega]
   rfl
  simp only [Go.Proofs.YtgbnbgkldeifkaaGreatA.elems,if_true,Heap.cells?,e,Option.bind_some,Nat.one_mul]
  rw [cut_all (hl y)]
  rfl
 have hone:=h1 y
 rcases h with ⟨rfl,rfl⟩ | ⟨ne,b,g1,rfl,g3⟩
 · simp only [List.length_nil,Nat.zero_add] at hb hb2
   refine ⟨.sl (P++(X++(Z++[ABlk.cells true (f y)]))).length 0 1 es,X++(Z++[ABlk.cells true (f y)])++[ABlk.cells true (f y)],?_,.inr ⟨by simp,_,?_,rfl,?_⟩⟩
   · simp only [appendAV,hel,Option.bind_some,Nat.one_ne_zero,if_false]
     rw [if_pos ⟨hb,hb2,hes,hone⟩,List.append_assoc]
   · simp
   · rw [← List.append_assoc P]
     simp
 · have hbl:=(List.getElem?_eq_some_iff.1 g3).1
   have g3':(P++(X++(Z++[ABlk.cells true (f y)])))[b]?=some (.cells true (l.flatMap f)):=by rw [← List.append_assoc P];exact get_app g3
   refine ⟨.sl (P++(X++(Z++[ABlk.cells true (f y)]))).length 0 (l.length + 1) es,(X++(Z++[ABlk.cells true (f y)])).set (b - P.length) .dead++[ABlk.cells true (l.flatMap f++f y)],?_,.inr ⟨by simp,(P++(X++(Z++[ABlk.cells true (f y)]))).length,?_,by simp,?_⟩⟩
   · simp only [appendAV,hel,Option.bind_some,Nat.one_ne_zero,if_false,g3',cut_all (flatMap_len hl l),Option.map_some]
     rw [if_pos ⟨trivial,hes,Nat.zero_le _,hb,hb2,hone⟩,List.set_append_right _ _ g1,List.append_assoc]
   · simp
   · rw [← List.append_assoc P]
     have e:(P++(X++(Z++[ABlk.cells true (f y)]))).length=(P++((X++(Z++[ABlk.cells true (f y)])).set (b - P.length) .dead)).length:=by simp
     rw [e,List.getElem?_append_right (Nat.le_refl _)]
     simp
def Off (v:AV) (c:Nat):Prop:=∀ o n s,v ≠ .sl c o n s
theorem Off.nil {c:Nat}:Off .nilsl c:=fun _ _ _ e=>by cases e
theorem Off.sl {b c o n s:Nat} (h:b ≠ c):Off (.sl b o n s) c:=fun _ _ _ e=>by cases e;exact h rfl
theorem Row.insert2 {bytes b':Nat} (hl:∀ x,(f x).length=es) (hes:0 < es) (h1:∀ x,(f x).all AV.one=true) (h:Row lim H es f l v) (y:α) (i:Nat) (hi:i≤l.length) (hx:Go.Proofs.YtgbnbgkldeifkaaGreatA.elems H es (.sl b' 0 1 es)=some (1,f y)) (hb':Off v b') (hb:(l.length + 1) * bytes≤most) (hb2:l.length + 1≤most) (hlim:lim≤H.length) :
 ∃ v' H',insertG es bytes [v,I i,.sl b' 0 1 es] lim H=some (v',H')∧Row lim H' es f (l.take i++y :: l.drop i) v'∧H.length≤H'.length∧(∀ (b:Nat) (z:ABlk),H[b]?=some z→Off v b→H'[b]?=some z)∧∀ c,c < H.length→Off v' c:=by
 have hone:=h1 y
 rcases h with ⟨rfl,rfl⟩ | ⟨ne,b,g1,rfl,g3⟩
 · obtain rfl:i=0:=by simpa using hi
   simp only [List.length_nil,Nat.zero_add,Nat.one_mul] at hb hb2
   refine ⟨.sl H.length 0 1 es,H++[ABlk.cells true (f y)],?_,.inr ⟨by simp,_,hlim,rfl,by simp⟩,by simp,fun b z hz _=>get_app hz,fun c hc=>Off.sl (by omega)⟩
   simp only [insertG,hx,Option.bind_some]
   rw [if_pos ⟨by simp,trivial,hes,hb,hone⟩]
 · have hbl:=(List.getElem?_eq_some_iff.1 g3).1
   have hbb:b' ≠ b:=fun e=>hb' 0 l.length es (by rw [e])
   refine ⟨.sl H.length 0 (l.length + 1) es,H.set b .dead++[ABlk.cells true ((l.flatMap f).take (i * es)++f y++(l.flatMap f).drop (i * es))],?_,.inr ⟨by simp,H.length,hlim,?_,?_⟩,by simp,fun c z hz ho=>?_,fun c hc=>Off.sl (by omega)⟩
   · simp only [insertG,hx,Option.bind_some,g3]
     rw [if_pos ⟨trivial,hes,trivial,g1,hb,hb2,hone,hbb,by omega,by omega⟩,if_pos (by rw [flatMap_len hl];omega)]
     simp
   · congr 1
     simp
     omega
   · have e:H.length=(H.set b ABlk.dead).length:=by simp
     rw [e,List.getElem?_append_right (Nat.le_refl _),flatMap_take hl,flatMap_drop hl]
     simp
   · have hbc:b ≠ c:=fun e=>ho 0 l.length es (by rw [e])
     refine get_app ?_
     rw [List.getElem?_set_ne hbc]
     exact hz
theorem Row.set {b:Nat} {z:ABlk} (h:Row lim H es f l v) (ho:Off v b):Row lim (H.set b z) es f l v:=by
 rcases h with h | ⟨ne,c,g1,rfl,g3⟩
 · exact .inl h
 · refine .inr ⟨ne,c,g1,rfl,?_⟩
   rw [List.getElem?_set_ne (fun e=>ho 0 l.length es (by rw [e]))]
   exact g3
theorem Row.off {b:Nat} (h:Row lim H es f l v) (hb:b < lim):Off v b:=by
 rcases h with ⟨rfl,rfl⟩ | ⟨ne,c,g1,rfl,g3⟩
 · exact Off.nil
 · exact Off.sl (by omega)
theorem Row.off_ge {c:Nat} (h:Row lim H es f l v) (hc:H.length≤c):Off v c:=by
 rcases h with ⟨rfl,rfl⟩ | ⟨ne,b,g1,rfl,g3⟩
 · exact Off.nil
 · have:=(List.getElem?_eq_some_iff.1 g3).1
   exact Off.sl (by omega)
theorem idxSl_sl {b o n i:Nat} {k:IntKind} (h:i < n):idxSlAV es (.int k (i:Int)) (.sl b o n es)=some (.ptr (some (b,o + i * es))):=by
 simp only [idxSlAV,if_true,idx_nat h,Option.map_some]
theorem cells_of {b:Nat} {g:Bool} {cs:List AV} (h:H[b]?=some (.cells g cs)):H.cells? b=some cs:=by simp only [Heap.cells?,h]
theorem lt_of {b:Nat} {z:ABlk} (h:H[b]?=some z):b < H.length:=(List.getElem?_eq_some_iff.1 h).1
theorem get_set {b c:Nat} {y z:ABlk} (h:H[b]?=some z) (hbc:c ≠ b):(H.set c y)[b]?=some z:=by
 rw [List.getElem?_set_ne hbc]
 exact h
theorem get_new {z:ABlk}:(H++[z])[H.length]?=some z:=by simp
theorem store_of {n o b:Nat} {g:Bool} {cs:List AV} {v:AV} (h:H[b]?=some (.cells g cs)) (hlim:lim≤b) (h1:v.cells.length=n) (h2:o + n≤cs.length) (h3:v.cells.all AV.one=true):storeAt lim H n (.ptr (some (b,o))) v=some (H.set b (.cells g (setFrom cs o v.cells))):=by
 unfold storeAt
 simp only [hlim,if_true,h]
 rw [if_pos ⟨h1,h2,h3⟩]
def ptrAt (v:AV) (i es:Nat):AV:=match v with | .sl b o _ _=>.ptr (some (b,o + i * es)) | _=>.ptr none
def subAt (v:AV) (i:Nat):AV:=match v with | .sl b o _ s=>.sl b o i s | v=>v
theorem Row.at {i:Nat} {k:IntKind} (h:Row lim H es f l v) (hi:i < l.length):idxSlAV es (.int k (i:Int)) v=some (ptrAt v i es):=by
 rcases h with ⟨rfl,rfl⟩ | ⟨ne,b,g1,rfl,g3⟩
 · exact absurd hi (by simp)
 · exact idxSl_sl hi
theorem Row.load {i:Nat} (hl:∀ x,(f x).length=es) (h:Row lim H es f l v) (hi:i < l.length):loadAt H (some es) (ptrAt v i es)=some (.agg (f l[i])):=by
 rcases h with ⟨rfl,rfl⟩ | ⟨ne,b,g1,rfl,g3⟩
 · exact absurd hi (by simp)
 · simp only [ptrAt,loadAt,cells_of g3,Option.bind_some,Option.getD_some,Nat.zero_add,cut_flat hl hi,shapeOf]
theorem Row.load1 {i:Nat} {g:α→AV} (hg:∀ x,f x=[g x]) (h:Row lim H 1 f l v) (hi:i < l.length):loadAt H none (ptrAt v i 1)=some (g l[i]):=by
 rcases h with ⟨rfl,rfl⟩ | ⟨ne,b,g1,rfl,g3⟩
 · exact absurd hi (by simp)
 · have hl:∀ x,(f x).length=1:=fun x=>by rw [hg];rfl
   have:=cut_flat hl hi
   simp only [ptrAt,loadAt,cells_of g3,Option.bind_some,Option.getD_none,Nat.zero_add,this,hg,shapeOf]
theorem Row.sub {i:Nat} {k:IntKind} (h:Row lim H es f l v) (hi:i≤l.length):cutSl es v none (some (.int k (i:Int))) none=some (subAt v i)∧lenSlAV (subAt v i)=some (.int .i64 i)∧∀ (j:Nat) (k:IntKind),j < i→idxSlAV es (.int k (j:Int)) (subAt v i)=some (ptrAt v j es):=by
 rcases h with ⟨rfl,rfl⟩ | ⟨ne,b,g1,rfl,g3⟩
 · obtain rfl:i=0:=by simpa using hi
   refine ⟨?_,rfl,fun j k hj=>by omega⟩
   simp [cutSl,bnd,AV.isInt,subAt]
 · refine ⟨?_,rfl,fun j k hj=>idxSl_sl hj⟩
   simp only [cutSl,if_true,bnd_nat hi,Option.bind_some,subAt]
   simp [bnd]
end
end Go.Proofs.YtgbnbgkldeifkaaGreatA

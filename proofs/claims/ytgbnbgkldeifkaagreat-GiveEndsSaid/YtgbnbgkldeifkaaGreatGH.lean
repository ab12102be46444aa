/- A pile of bags on their way, and the library's heap over it. No statement about the program is proved here. -/
import Derived.Test.YtgbnbgkldeifkaaGreatFO
namespace Go.Proofs.YtgbnbgkldeifkaaGreatA
open Go
set_option linter.unusedSimpArgs false
set_option linter.unusedVariables false
set_option maxRecDepth 1000000
structure OutM where
 seq:Int
 key:List UInt8
 known:Nat→Int
 vals:List Val
 when_:Int
 r:AV
def outV (n:Int) (key:List UInt8) (kn:Nat→Int) (r:AV) (t:Int):List AV:=I n :: .str key :: (bagV kn r++[I t])
def outC (o:OutM):List AV:=outV o.seq o.key o.known o.r o.when_
def outZ (o:OutM):List AV:=outV o.seq o.key o.known (roL valC o.vals) o.when_
theorem outV_len {n:Int} {key:List UInt8} {kn:Nat→Int} {r:AV} {t:Int}:(outV n key kn r t).length=12:=hard rfl
theorem outC_len (o:OutM):(outC o).length=12:=hard rfl
theorem outZ_len (o:OutM):(outZ o).length=12:=hard rfl
theorem outV_one {n:Int} {key:List UInt8} {kn:Nat→Int} {r:AV} {t:Int} (h:AV.one r=true):(outV n key kn r t).all AV.one=true:=by
 unfold outV
 simp only [List.all_cons,List.all_append,bagV_one,h,List.all_nil,Bool.and_true]
 rfl
def Rows (H:Heap) (l:List OutM):Prop:=∀ o ∈ l,Row 0 H 3 valC o.vals o.r
theorem Rows.app {H X:Heap} {l:List OutM} (h:Rows H l):Rows (H++X) l:=fun o ho=>(h o ho).app
theorem Rows.perm {H:Heap} {l l':List OutM} (h:Rows H l) (p:l'.Perm l):Rows H l':=fun o ho=>h o (p.subset ho)
theorem Rows.one {H:Heap} {l:List OutM} (h:Rows H l):(l.flatMap outC).all AV.one=true:=by
 rw [List.all_flatMap]
 exact List.all_eq_true.2 fun o ho=>outV_one (h o ho).one
theorem outC_frz {H:Heap} {d:Nat} {o:OutM} (h:Row 0 H 3 valC o.vals o.r):mapO (frz H (d + 2)) (outC o)=some (outZ o):=by
 have h1:frz H (d + 2) o.r=some (roL valC o.vals):=h.frz valC_len val_flat
 have h2:mapO (frz H (d + 2)) (bagV o.known o.r)=some (bagV o.known (roL valC o.vals)):=by rw [bagV_frz,h1];rfl
 have h3:=mapO_app (b:=[I o.when_]) (b':=[I o.when_]) h2 (by simp)
 unfold outC outZ outV
 simp only [mapO,frz_int,frz_str,Option.bind_some,h3,Option.map_some]
theorem outs_frz {H:Heap} {d:Nat}:∀ {l:List OutM},Rows H l→mapO (frz H (d + 2)) (l.flatMap outC)=some (l.flatMap outZ)
 | [],_=>rfl
 | o :: l,h=>by
  rw [List.flatMap_cons,List.flatMap_cons]
  exact mapO_app (outC_frz (h o (.head _))) (outs_frz fun x hx=>h x (.tail _ hx))
@[simp] theorem m166_Len : envE.meth 166 "Len" = some (263, some none) := by kernel_rfl
@[simp] theorem m166_Less : envE.meth 166 "Less" = some (264, some none) := by kernel_rfl
@[simp] theorem m166_Swap : envE.meth 166 "Swap" = some (265, some none) := by kernel_rfl
@[simp] theorem m166_Pop : envE.meth 166 "Pop" = some (266, none) := by kernel_rfl
@[simp] theorem m166_Push : envE.meth 166 "Push" = some (267, none) := by kernel_rfl
structure Giv where
 self:Int
 part:Int
 epoch:Int
 to:Int
 seq:Int
 now:Int
 ends:Bool
def givV (g:Giv) (cb:Nat) (v:AV):List AV:=[I g.self,I g.part,I g.epoch,I g.to,.ptr (some (cb,0)),v,I g.seq,I g.now,.bool g.ends]
def givB (g:Giv) (cb:Nat) (v:AV):ABlk:=.cells false (givV g cb v)
def outB (l:List OutM) (R:List AV):ABlk:=.cells true (l.flatMap outC++R)
def oLess (a b:OutM):Bool:=decide (a.seq < b.seq)
theorem oless_ord:Ord oLess where
 asym:=fun x y h=>by simp only [oLess,decide_eq_true_eq,decide_eq_false_iff_not] at *;omega
 tr:=fun x y z h1 h2=>by simp only [oLess,decide_eq_false_iff_not] at *;omega
def isOut:ABlk→Bool
 | .cells true (.int _ _ :: .str _ :: _)=>true
 | _=>false
theorem val_out {l:List Val}:isOut (.cells true (l.flatMap valC))=false:=by cases l <;> rfl
structure OPile (H:Heap) (gb b:Nat) (g:Giv) (cb:Nat) (l:List OutM) (R:List AV):Prop where
 box:H[gb]?=some (givB g cb (.sl b 0 l.length 12))
 row:H[b]?=some (outB l R)
 few:l.length < 1000000000000
 rows:Rows H l
 out:isOut (outB l R)=true
section
variable {H:Heap} {gb b:Nat} {g:Giv} {cb:Nat} {l:List OutM} {R:List AV}
theorem OPile.ne (h:OPile H gb b g cb l R):gb ≠ b:=by
 rintro rfl
 have h1:=h.box
 rw [h.row] at h1
 cases h1
theorem giv_load {v:AV} (h:H[gb]?=some (givB g cb v)):loadAt H none (.ptr (some (gb,5)))=some v:=by
 have hc:=cells_of h
 simp [hc,givV,shapeOf]
theorem OPile.load (h:OPile H gb b g cb l R):loadAt H none (.ptr (some (gb,5)))=some (.sl b 0 l.length 12):=giv_load h.box
theorem outs_cut {l:List OutM} {R:List AV}:cut (l.flatMap outC++R) 0 (l.length * 12)=some (l.flatMap outC):=by
 rw [cut_at (by simp [flatMap_len outC_len]),List.drop_zero,List.take_left' (flatMap_len outC_len l)]
theorem OPile.frz (h:OPile H gb b g cb l R) {d:Nat}:Go.Proofs.YtgbnbgkldeifkaaGreatA.frz H (d + 3) (.sl b 0 l.length 12)=some (roL outZ l):=by
 unfold Go.Proofs.YtgbnbgkldeifkaaGreatA.frz
 by_cases e:l.length=0
 · cases List.length_eq_zero_iff.1 e;rfl
 · simp only [e,if_false,Heap.cells?,h.row,outB,Option.bind_some,outs_cut,outs_frz h.rows,Option.map_some]
   rfl
theorem c263 (l:List OutM):Pu envE 263 [roL outZ l] (I l.length):=by
 refine pu_is e263 rfl ?_
 rw [fr_init (by simp [fd263])]
 simp [fd263,b263]
@[simp] theorem k263 {l:List OutM} {H:Heap} {K:AV→Heap→Prop}:wPu envE 263 (some [roL outZ l]) H K=K (I l.length) H:=(wPu_eq (c263 l)).trans (by simp)
theorem setFrom_cons {a:AV}:∀ {vs cs:List AV} {o:Nat},setFrom (a :: cs) (o + 1) vs=a :: setFrom cs o vs
 | [],_,_=>rfl
 | v :: vs,cs,o=>by
  simp only [setFrom,List.set_cons_succ]
  exact setFrom_cons
theorem setFrom_pre:∀ {A vs cs:List AV} {o:Nat},setFrom (A++cs) (A.length + o) vs=A++setFrom cs o vs
 | [],_,_,_=>by simp
 | a :: A,vs,cs,o=>by
  have e:(a :: A).length + o=(A.length + o) + 1:=by simp;omega
  rw [e,List.cons_append,setFrom_cons,setFrom_pre,List.cons_append]
theorem setFrom_app:∀ {vs B C:List AV},B.length=vs.length→setFrom (B++C) 0 vs=vs++C
 | [],B,C,h=>by
  rw [List.eq_nil_of_length_eq_zero h]
  rfl
 | v :: vs,[],C,h=>by simp at h
 | v :: vs,b :: B,C,h=>by
  simp only [setFrom,List.cons_append,List.set_cons_zero]
  rw [setFrom_cons,setFrom_app (by simpa using h)]
theorem setFrom_row {α:Type} {f:α→List AV} {es:Nat} (hf:∀ x,(f x).length=es) {l:List α} {R:List AV} {i:Nat} (hi:i < l.length) {x:α}:setFrom (l.flatMap f++R) (i * es) (f x)=(l.set i x).flatMap f++R:=by
 have e1:l=l.take i++l[i] :: l.drop (i + 1):=by rw [← List.drop_eq_getElem_cons hi,List.take_append_drop]
 have e2:l.set i x=l.take i++x :: l.drop (i + 1):=by
  rw [List.set_eq_take_append_cons_drop,if_pos hi]
 have e3:((l.take i).flatMap f).length=i * es:=by rw [flatMap_len hf,List.length_take,Nat.min_eq_left (by omega)]
 rw [e2]
 conv=>lhs;rw [e1]
 rw [List.flatMap_append,List.flatMap_cons,List.flatMap_append,List.flatMap_cons,List.append_assoc,List.append_assoc,List.append_assoc,List.append_assoc]
 have:=setFrom_pre (A:=(l.take i).flatMap f) (vs:=f x) (cs:=f l[i]++((l.drop (i + 1)).flatMap f++R)) (o:=0)
 rw [e3] at this
 simp only [Nat.add_zero] at this
 rw [this,setFrom_app (by rw [hf,hf])]
theorem outs_at {i:Nat} (hi:i < l.length):cut (l.flatMap outC++R) (i * 12) 12=some (outC l[i]):=by
 have h:=flatMap_len outC_len l
 have hle:i * 12 + 12≤l.length * 12:=by omega
 rw [cut_at (by rw [List.length_append,h];omega),List.drop_append_of_le_length (by rw [h];omega),flatMap_drop outC_len,List.drop_eq_getElem_cons hi,List.flatMap_cons,List.append_assoc,List.take_left' (outC_len _)]
theorem outZ_drop {i:Nat} (hi:i < l.length):∃ t,(l.flatMap outZ).drop (i * 12)=I l[i].seq :: t:=by
 rw [flatMap_drop outZ_len,List.drop_eq_getElem_cons hi,List.flatMap_cons]
 exact ⟨_,rfl⟩
theorem c264 (l:List OutM) (i k:Nat) (hi:i < l.length) (hk:k < l.length):Pu envE 264 [roL outZ l,I i,I k] (.bool (oLess l[i] l[k])):=by
 refine pu_is e264 rfl ?_
 obtain ⟨t1,h1⟩:=outZ_drop hi
 obtain ⟨t2,h2⟩:=outZ_drop hk
 rw [fr_init (by simp [fd264])]
 simp [fd264,b264,idxSl_roL hi,idxSl_roL hk,h1,h2,shapeOf,oLess]
theorem k264 {l:List OutM} {i k:Nat} (hi:i < l.length) (hk:k < l.length) {H:Heap} {K:AV→Heap→Prop}:wPu envE 264 (some [roL outZ l,I i,I k]) H K=K (.bool (oLess l[i] l[k])) H:=(wPu_eq (c264 l i k hi hk)).trans (by simp)
theorem Rows.keep {H':Heap} {l:List OutM} (h:Rows H l) (k:∀ (c:Nat) (y:List AV),H[c]?=some (.cells true y)→isOut (.cells true y)=false→H'[c]?=some (.cells true y)):Rows H' l:=fun o ho=>by
 rcases h o ho with e | ⟨ne,c,g1,g2,g3⟩
 · exact .inl e
 · exact .inr ⟨ne,c,g1,g2,k c _ g3 val_out⟩
theorem OPile.set {l':List OutM} (h:OPile H gb b g cb l R) (hp:l'.Perm l):OPile (H.set b (outB l' R)) gb b g cb l' R:=by
 have hl:=hp.length_eq
 by_cases e:l=[]
 · subst e
   have e2:l'=[]:=hp.eq_nil
   subst e2
   have hs:H.set b (outB [] R)=H:=by
    apply List.ext_getElem?
    intro j
    rw [List.getElem?_set]
    split
    · rename_i e
      subst e
      rw [if_pos (lt_of h.row),h.row]
    · rfl
   rw [hs]
   exact h
 · have ho:isOut (outB l' R)=true:=by
    cases l' with
    | nil=>exact absurd hp.symm.eq_nil e
    | cons o l'=>rfl
   refine ⟨?_,?_,by rw [hl];exact h.few,?_,ho⟩
   · rw [hl]
     exact get_set h.box h.ne.symm
   · rw [List.getElem?_set_self (lt_of h.row)]
   · refine (h.rows.perm hp).keep fun c y hz hi=>get_set hz fun q=>?_
     subst q
     rw [h.row] at hz
     cases hz
     cases l with
     | nil=>exact absurd rfl e
     | cons o l=>cases hi
theorem OPile.same (h:OPile H gb b g cb l R):H.set b (outB l R)=H:=by
 apply List.ext_getElem?
 intro j
 rw [List.getElem?_set]
 split
 · rename_i e
   subst e
   rw [if_pos (lt_of h.row),h.row]
 · rfl
theorem OPile.at (h:OPile H gb b g cb l R) {i:Nat} (hi:i < l.length):loadAt H (some 12) (.ptr (some (b,i * 12)))=some (.agg (outC l[i])):=by
 simp only [loadAt,cells_of h.row,outB,Option.bind_some,Option.getD_some,outs_at hi,shapeOf]
theorem c265 (h:OPile H gb b g cb l R) (i k:Nat) (hi:i < l.length) (hk:k < l.length):Cl envE 265 [.sl b 0 l.length 12,I i,I k] 0 H (.tup []) (H.set b (outB (swapL l i k) R)):=by
 refine cl_is e265 rfl ?_
 have one:∀ (j:Nat) (hj:j < l.length),(outC l[j]).all AV.one=true:=fun j hj=>outV_one (h.rows _ (List.getElem_mem hj)).one
 have hlen:∀ l':List OutM,l'.length=l.length→∀ j,j < l.length→j * 12 + 12≤(l'.flatMap outC++R).length:=fun l' hl' j hj=>by
  rw [List.length_append,flatMap_len outC_len,hl']
  omega
 have e1:storeAt 0 H 12 (.ptr (some (b,i * 12))) (.agg (outC l[k]))=some (H.set b (outB (l.set i l[k]) R)):=by
  have:=store_of (lim:=0) (n:=12) (o:=i * 12) (v:=.agg (outC l[k])) (H:=H) h.row (by omega) (by simp [AV.cells,outC_len]) (hlen l rfl i hi) (by simpa [AV.cells] using one k hk)
  rw [this]
  simp only [AV.cells,setFrom_row outC_len hi]
  rfl
 have h2:(H.set b (outB (l.set i l[k]) R))[b]?=some (outB (l.set i l[k]) R):=by rw [List.getElem?_set_self (lt_of h.row)]
 have e2:storeAt 0 (H.set b (outB (l.set i l[k]) R)) 12 (.ptr (some (b,k * 12))) (.agg (outC l[i]))=some (H.set b (outB (swapL l i k) R)):=by
  have:=store_of (lim:=0) (n:=12) (o:=k * 12) (v:=.agg (outC l[i])) h2 (by omega) (by simp [AV.cells,outC_len]) (hlen _ (by simp) k hk) (by simpa [AV.cells] using one i hi)
  rw [this]
  simp only [AV.cells,setFrom_row outC_len (l:=l.set i l[k]) (by simpa using hk),List.set_set,swap_at hi hk]
  rfl
 rw [fr_init (by simp [fd265])]
 simp [fd265,b265,idxSl_sl hi,idxSl_sl hk,h.at hi,h.at hk,e1,e2,-load_ptr]
theorem k265 (h:OPile H gb b g cb l R) {i k:Nat} (hi:i < l.length) (hk:k < l.length) {K:AV→Heap→Prop}:WCl envE 265 [.sl b 0 l.length 12,I i,I k] 0 H K=K (.tup []) (H.set b (outB (swapL l i k) R)):=WCl_eq (c265 h i k hi hk)
set_option maxHeartbeats 1000000 in
theorem c128o {j n:Nat} (h:OPile H gb b g cb l R) (hn:n≤l.length) (hu:HeapUp oLess l n j) (hj:j < n) :
 WCl envE 128 [.iface 166 (.ptr (some (gb,5))),I j] 0 H fun r H'=>∃ l',l'.Perm l∧HeapN oLess l' n∧H'=H.set b (outB l' R)∧∀ k,n≤k→l'[k]?=l[k]?:=by
 refine cl_of e128 rfl ?_
 rw [fr_init (by simp [fd128])]
 simp [fd128,b128]
 have few:=h.few
 refine loop_go [0,1] rfl (fun m vs H'=>∃ l' j',m=j'∧j' < n∧l'.Perm l∧HeapUp oLess l' n j'∧H'=H.set b (outB l' R)∧(∀ k,n≤k→l'[k]?=l[k]?)∧vs=[.iface 166 (.ptr (some (gb,5))),I j']) ?_ j ⟨l,j,rfl,hj,.refl _,hu,h.same.symm,fun _ _=>rfl,rfl⟩
 rintro J hJ m vs H' f ⟨l',j',rfl,hj',hp,hu',rfl,htl,rfl⟩
 have hlen:=hp.length_eq
 have h':=h.set hp
 have hl':n≤l'.length:=by omega
 by_cases h0:m=0
 · subst h0
   have e0:IntKind.i64.wrap ((IntKind.i64.wrap (-1)).tdiv 2)=0:=by decide
   simp [lp128_0,e0]
   exact ⟨l',hp,up_end hu' (.inl rfl),rfl,htl⟩
 · have hm:0 < m:=by omega
   have ep:=par_int hm (by omega)
   have hpl:=par_lt hm
   have hne:((par m:Nat):Int) ≠ (m:Int):=by omega
   have i1:m < l'.length:=by omega
   have i2:par m < l'.length:=by omega
   have hld:=h'.load
   have hfz:=h'.frz (d:=9)
   have kL:=fun H K=>k264 (l:=l') i1 i2 (H:=H) (K:=K)
   have kS:=fun K=>k265 h' i2 i1 (K:=K)
   rw [List.set_set] at kS
   by_cases hlt:oLess l'[m] l'[par m]=true
   · simp [lp128_0,ep,hne,hld,hfz,kL,kS,hlt,-load_ptr]
     have hs:=up_step oless_ord (by omega) hu' hm (by omega) (List.getElem?_eq_getElem i1) (List.getElem?_eq_getElem i2) hlt
     exact nxt hJ (par m) hpl ⟨_,par m,rfl,by omega,(swap_perm i2 i1).trans hp,hs,rfl,fun k hk=>by rw [swap_get i2 i1,if_neg (by omega),if_neg (by omega)];exact htl k hk,rfl⟩
   · have hlt':oLess l'[m] l'[par m]=false:=by simpa using hlt
     simp [lp128_0,ep,hne,hld,hfz,kL,kS,hlt',-load_ptr]
     exact ⟨l',hp,up_end hu' (.inr ((ge_of (List.getElem?_eq_getElem i1) (List.getElem?_eq_getElem i2)).2 hlt')),rfl,htl⟩
set_option maxHeartbeats 2000000 in
theorem c147o {i n:Nat} (h:OPile H gb b g cb l R) (hn:n≤l.length) (hin:i≤n) (hu:HeapBo oLess l n i) :
 WCl envE 147 [.iface 166 (.ptr (some (gb,5))),I i,I n] 0 H fun r H'=>∃ l',l'.Perm l∧(∀ k,n≤k→l'[k]?=l[k]?)∧H'=H.set b (outB l' R)∧((r=.bool false∧l'=l∧HeapUp oLess l n i)∨(r=.bool true∧HeapN oLess l' n)):=by
 refine cl_of e147 rfl ?_
 rw [fr_init (by simp [fd147])]
 simp [fd147,b147]
 have few:=h.few
 refine loop_go [0,1,2,7] rfl (fun m vs H'=>∃ l' i',m=n - i'∧i'≤n∧l'.Perm l∧(∀ k,n≤k→l'[k]?=l[k]?)∧H'=H.set b (outB l' R)∧HeapBo oLess l' n i'∧((i'=i∧l'=l)∨(i < i'∧HeapDn oLess l' n i'))∧vs=[.iface 166 (.ptr (some (gb,5))),I i,I n,I i']) ?_ (n - i) ⟨l,i,rfl,hin,.refl _,fun _ _=>rfl,h.same.symm,hu,.inl ⟨rfl,rfl⟩,rfl⟩
 rintro J hJ m vs H' f ⟨l',i',rfl,hi',hp,htl,rfl,hbo,hor,rfl⟩
 have hlen:=hp.length_eq
 have h':=h.set hp
 obtain ⟨j1,hj1⟩:∃ j1,j1=2 * i' + 1:=⟨_,rfl⟩
 obtain ⟨j2,hj2⟩:∃ j2,j2=j1 + 1:=⟨_,rfl⟩
 have hw1:IntKind.i64.wrap (IntKind.i64.wrap (2 * (i':Int)) + 1)=(j1:Int):=by
  have e:IntKind.i64.wrap (2 * (i':Int))=2 * (i':Int):=by rw [wrap_i64] <;> omega
  rw [e,wrap_i64] <;> omega
 have hw2:IntKind.i64.wrap ((j1:Int) + 1)=(j2:Int):=by rw [wrap_i64] <;> omega
 have n0:¬ (j1:Int) < 0:=by omega
 have fin:(∀ k,0 < k→k < n→par k=i'→ge oLess l' k i')→∃ l'':List OutM,l''.Perm l∧(∀ k,n≤k→l''[k]?=l[k]?)∧H.set b (outB l' R)=H.set b (outB l'' R)∧((AV.bool (decide ((i':Int) > i))=.bool false∧l''=l∧HeapUp oLess l n i)∨(AV.bool (decide ((i':Int) > i))=.bool true∧HeapN oLess l'' n)):=fun he=>by
  rcases hor with ⟨rfl,rfl⟩ | ⟨q1,q2⟩
  · exact ⟨l',hp,htl,rfl,.inl ⟨by simp,rfl,bo_end hbo he⟩⟩
  · exact ⟨l',hp,htl,rfl,.inr ⟨by simp;omega,dn_end oless_ord q2 he⟩⟩
 by_cases hA:n≤j1
 · simp [lp147_0,hw1,hA]
   have:=fin fun k k0 kn kp=>by rw [par_two k0] at kp;omega
   simpa using this
 · have i1:j1 < l'.length:=by omega
   have i0:i' < l'.length:=by omega
   have hld:=h'.load
   have hfz:=h'.frz (d:=9)
   have g0:=List.getElem?_eq_getElem i0
   have g1:=List.getElem?_eq_getElem i1
   -- the lower child
   have step:∀ j (ij:j < l'.length),j < n→0 < j→par j=i'→(∀ k,0 < k→k < n→par k=i'→ge oLess l' k j)→oLess l'[j] l'[i']=true →
    ∃ l'' i'',n - j=n - i''∧i''≤n∧l''.Perm l∧(∀ k,n≤k→l''[k]?=l[k]?)∧H.set b (outB (swapL l' i' j) R)=H.set b (outB l'' R)∧HeapBo oLess l'' n i''∧((i''=i∧l''=l)∨(i < i''∧HeapDn oLess l'' n i''))∧[AV.iface 166 (.ptr (some (gb,5))),I i,I n,I j]=[AV.iface 166 (.ptr (some (gb,5))),I i,I n,I i'']:=fun j ij jn j0 jp best hlt=>by
    have hd:=dn_step oless_ord (by omega) hbo (by omega) jn j0 jp (List.getElem?_eq_getElem ij) g0 hlt best
    refine ⟨_,j,rfl,by omega,(swap_perm i0 ij).trans hp,fun k hk=>?_,rfl,hd.bo,.inr ⟨?_,hd⟩,rfl⟩
    · rw [swap_get i0 ij,if_neg (by omega),if_neg (by omega)]
      exact htl k hk
    · have:=par_lt j0
      rcases hor with ⟨q,_⟩ | ⟨q,_⟩ <;> omega
   have kS1:=fun K=>k265 h' i0 i1 (K:=K)
   have kL1:=fun H K=>k264 (l:=l') i1 i0 (H:=H) (K:=K)
   rw [List.set_set] at kS1
   have p1:par j1=i':=by rw [par_two (by omega)];omega
   by_cases hB:j2 < n
   · have i2:j2 < l'.length:=by omega
     have g2:=List.getElem?_eq_getElem i2
     have kL21:=fun H K=>k264 (l:=l') i2 i1 (H:=H) (K:=K)
     have kL2:=fun H K=>k264 (l:=l') i2 i0 (H:=H) (K:=K)
     have kS2:=fun K=>k265 h' i0 i2 (K:=K)
     rw [List.set_set] at kS2
     have p2:par j2=i':=by rw [par_two (by omega)];omega
     by_cases hC:oLess l'[j2] l'[j1]=true
     · have best:∀ k,0 < k→k < n→par k=i'→ge oLess l' k j2:=fun k k0 kn kp=>by
        rw [par_two k0] at kp
        rcases kp with e | e
        · obtain rfl:k=j1:=by omega
          exact (ge_of g1 g2).2 (oless_ord.asym _ _ hC)
        · obtain rfl:k=j2:=by omega
          refine (ge_of g2 g2).2 ?_
          cases e3:oLess l'[k] l'[k]
          · rfl
          · rw [oless_ord.asym _ _ e3] at e3;cases e3
       by_cases hD:oLess l'[j2] l'[i']=true
       · simp [lp147_0,hw1,hA,n0,hw2,hB,hld,hfz,kL21,kL2,kS2,hC,hD,-load_ptr]
         exact nxt hJ (n - j2) (by omega) (step j2 i2 hB (by omega) p2 best hD)
       · have hD':oLess l'[j2] l'[i']=false:=by simpa using hD
         simp [lp147_0,hw1,hA,n0,hw2,hB,hld,hfz,kL21,kL2,kS2,hC,hD',-load_ptr]
         have:=fin fun k k0 kn kp=>by
          intro a c ha hc
          exact oless_ord.tr _ _ _ ((ge_of g2 g0).2 hD' _ _ g2 hc) (best k k0 kn kp a _ ha g2)
         simpa using this
     · have hC':oLess l'[j2] l'[j1]=false:=by simpa using hC
       have best:∀ k,0 < k→k < n→par k=i'→ge oLess l' k j1:=fun k k0 kn kp=>by
        rw [par_two k0] at kp
        rcases kp with e | e
        · obtain rfl:k=j1:=by omega
          refine (ge_of g1 g1).2 ?_
          cases e3:oLess l'[k] l'[k]
          · rfl
          · rw [oless_ord.asym _ _ e3] at e3;cases e3
        · obtain rfl:k=j2:=by omega
          exact (ge_of g2 g1).2 hC'
       by_cases hD:oLess l'[j1] l'[i']=true
       · simp [lp147_0,hw1,hA,n0,hw2,hB,hld,hfz,kL21,kL1,kS1,hC',hD,-load_ptr]
         exact nxt hJ (n - j1) (by omega) (step j1 i1 (by omega) (by omega) p1 best hD)
       · have hD':oLess l'[j1] l'[i']=false:=by simpa using hD
         simp [lp147_0,hw1,hA,n0,hw2,hB,hld,hfz,kL21,kL1,kS1,hC',hD',-load_ptr]
         have:=fin fun k k0 kn kp=>by
          intro a c ha hc
          exact oless_ord.tr _ _ _ ((ge_of g1 g0).2 hD' _ _ g1 hc) (best k k0 kn kp a _ ha g1)
         simpa using this
   · have best:∀ k,0 < k→k < n→par k=i'→ge oLess l' k j1:=fun k k0 kn kp=>by
      rw [par_two k0] at kp
      obtain rfl:k=j1:=by omega
      refine (ge_of g1 g1).2 ?_
      cases e3:oLess l'[k] l'[k]
      · rfl
      · rw [oless_ord.asym _ _ e3] at e3;cases e3
     by_cases hD:oLess l'[j1] l'[i']=true
     · simp [lp147_0,hw1,hA,n0,hw2,hB,hld,hfz,kL1,kS1,hD,-load_ptr]
       exact nxt hJ (n - j1) (by omega) (step j1 i1 (by omega) (by omega) p1 best hD)
     · have hD':oLess l'[j1] l'[i']=false:=by simpa using hD
       simp [lp147_0,hw1,hA,n0,hw2,hB,hld,hfz,kL1,kS1,hD',-load_ptr]
       have:=fin fun k k0 kn kp=>by
        intro a c ha hc
        exact oless_ord.tr _ _ _ ((ge_of g1 g0).2 hD' _ _ g1 hc) (best k k0 kn kp a _ ha g1)
       simpa using this
end
end Go.Proofs.YtgbnbgkldeifkaaGreatA

/- A giver's again. No statement about the program is proved here. -/
import Derived.Test.YtgbnbgkldeifkaaGreatGT
namespace Go.Proofs.YtgbnbgkldeifkaaGreatA
open Go
set_option linter.unusedSimpArgs false
set_option linter.unusedVariables false
set_option maxRecDepth 1000000
structure MsgM where
 kind:Int
 seq:Int
 key:List UInt8
 known:Nat→Int
 vals:List Val
 r:AV
def MsgM.p (m:MsgM):Int × Int × List UInt8 × (Nat→Int) × List Val:=(m.kind,m.seq,m.key,m.known,m.vals)
def OutM.p (o:OutM):Int × Int × List UInt8 × (Nat→Int) × List Val:=(5,o.seq,o.key,o.known,o.vals)
def oneR (r:AV):AV:=if AV.one r=true then r else .nilsl
theorem oneR_one (r:AV):AV.one (oneR r)=true:=by
 unfold oneR
 split
 · assumption
 · rfl
theorem oneR_of {r:AV} (h:AV.one r=true):oneR r=r:=if_pos h
def msgOf (g:Giv) (m:MsgM):List AV:=msgG m.kind g.self g.to m.seq g.part g.epoch m.key m.known (oneR m.r)
theorem msgOf_len (g:Giv) (m:MsgM):(msgOf g m).length=62:=msgG_len
theorem msgOf_one (g:Giv) (m:MsgM):(msgOf g m).all AV.one=true:=msgG_one (oneR_one _)
structure MRow (lim:Nat) (H:Heap) (g:Giv) (ms:List MsgM) (v:AV):Prop where
 row:Row lim H 62 (msgOf g) ms v
 vals:∀ m ∈ ms,Row lim H 3 valC m.vals m.r
def dueO (now:Int) (o:OutM):Bool:=decide (now - o.when_ ≥ 2)
def updO (now:Int) (o:OutM):OutM:=if dueO now o then { o with when_:=now } else o
section
variable {H:Heap} {gb b cb:Nat} {g:Giv} {v:AV} {l:List OutM} {R:List AV}
theorem MRow.nil {lim:Nat}:MRow lim H g [] .nilsl:=⟨.nil,fun m hm=>absurd hm (by simp)⟩
theorem set_pre:∀ {A cs:List AV} {o:Nat} {x:AV},(A++cs).set (A.length + o) x=A++cs.set o x
 | [],_,_,_=>by simp
 | a :: A,cs,o,x=>by
  have e:(a :: A).length + o=(A.length + o) + 1:=by simp;omega
  rw [e,List.cons_append,List.set_cons_succ,set_pre,List.cons_append]
theorem set_when {i:Nat} (hi:i < l.length) {now:Int}:(l.flatMap outC++R).set (i * 12 + 11) (I now)=(l.set i { l[i] with when_:=now }).flatMap outC++R:=by
 have e1:l=l.take i++l[i] :: l.drop (i + 1):=by rw [← List.drop_eq_getElem_cons hi,List.take_append_drop]
 have e2:l.set i { l[i] with when_:=now }=l.take i++{ l[i] with when_:=now } :: l.drop (i + 1):=by
  rw [List.set_eq_take_append_cons_drop,if_pos hi]
 have e3:((l.take i).flatMap outC).length=i * 12:=by rw [flatMap_len outC_len,List.length_take,Nat.min_eq_left (by omega)]
 have e4:∀ (o:OutM) (X:List AV),(outC o++X).set 11 (I now)=outC { o with when_:=now }++X:=fun o X=>rfl
 rw [e2]
 conv=>lhs;rw [e1]
 rw [List.flatMap_append,List.flatMap_cons,List.flatMap_append,List.flatMap_cons,List.append_assoc,List.append_assoc,List.append_assoc,List.append_assoc,← e3,set_pre,e4]
theorem OPile.setw (h:OPile H gb b g cb l R) {i:Nat} (hi:i < l.length) (now:Int):OPile (H.set b (outB (l.set i { l[i] with when_:=now }) R)) gb b g cb (l.set i { l[i] with when_:=now }) R:=by
 have ho:∀ l':List OutM,l' ≠ []→isOut (outB l' R)=true:=fun l' hl=>by
  cases l' with
  | nil=>exact absurd rfl hl
  | cons o l'=>rfl
 have hne:l ≠ []:=fun e=>by rw [e] at hi;simp at hi
 refine ⟨?_,?_,by simpa using h.few,?_,ho _ (by simpa using hne)⟩
 · rw [List.length_set]
   exact get_set h.box h.ne.symm
 · rw [List.getElem?_set_self (lt_of h.row)]
 · have hr:Rows H (l.set i { l[i] with when_:=now }):=fun o hm=>by
    rcases List.mem_or_eq_of_mem_set hm with q | q
    · exact h.rows o q
    · rw [q]
      exact h.rows l[i] (List.getElem_mem hi)
   refine hr.keep fun c y hz hi2=>get_set hz fun q=>?_
   subst q
   rw [h.row] at hz
   rw [← Option.some.inj hz,ho l hne] at hi2
   cases hi2
theorem st_when (h:OPile H gb b g cb l R) {i:Nat} (hi:i < l.length) (now:Int):storeAt 0 H 1 (.ptr (some (b,i * 12 + 11))) (I now)=some (H.set b (outB (l.set i { l[i] with when_:=now }) R)):=by
 have:=store_of (lim:=0) (n:=1) (o:=i * 12 + 11) (v:=I now) (H:=H) h.row (by omega) rfl (by rw [List.length_append,flatMap_len outC_len];omega) rfl
 rw [this]
 simp only [AV.cells,setFrom,set_when hi]
 rfl
theorem ld_when (h:OPile H gb b g cb l R) {i:Nat} (hi:i < l.length):loadAt H none (.ptr (some (b,i * 12 + 11)))=some (I l[i].when_):=by
 have hle:i * 12 + 12≤l.length * 12:=by omega
 have e:cut (l.flatMap outC++R) (i * 12 + 11) 1=some [I l[i].when_]:=by
  have h:=flatMap_len outC_len l
  rw [cut_at (by rw [List.length_append,h];omega),← List.drop_drop,List.drop_append_of_le_length (by rw [h];omega),flatMap_drop outC_len,List.drop_eq_getElem_cons hi,List.flatMap_cons]
  rfl
 simp only [loadAt,cells_of h.row,outB,Option.bind_some,Option.getD_none,e,shapeOf]
theorem append_lim {lim es bytes:Nat} {s x:AV} {y:AV × Heap} (h:appendAV lim H es bytes s x=some y):appendAV 0 H es bytes s x=some y:=by
 unfold appendAV at h ⊢
 cases e:elems H es x with
 | none=>rw [e] at h;cases h
 | some p =>
  rw [e] at h
  simp only [Option.bind_some] at h ⊢
  split at h
  · rename_i hm
    rw [if_pos hm]
    exact h
  · rename_i hm
    rw [if_neg hm]
    cases s with
    | sl b o n es' =>
     simp only at h ⊢
     split at h
     · rename_i hc
       rw [if_pos ⟨hc.1,hc.2.1,Nat.zero_le _,hc.2.2.2⟩]
       exact h
     · cases h
    | _=>exact h
theorem msgs_vals {ms:List MsgM} {vals:List Val} (h1:ms ≠ []) (h2:vals ≠ []):ms.flatMap (msgOf g) ≠ vals.flatMap valC:=by
 cases ms with
 | nil=>exact absurd rfl h1
 | cons m ms =>
  cases vals with
  | nil=>exact absurd rfl h2
  | cons w vals =>
   intro e
   rw [List.flatMap_cons,List.flatMap_cons] at e
   have:=congrArg (fun l:List AV=>l[2]?) e
   cases this
theorem Row.offM {lim lim2:Nat} {ms:List MsgM} {mv:AV} {vals:List Val} {r:AV} (hm:Row lim H 62 (msgOf g) ms mv) (h:Row lim2 H 3 valC vals r) {c:Nat} (hc:¬ Off r c):Off mv c:=by
 rcases h with ⟨_,e⟩ | ⟨n1,c1,_,e,k1⟩
 · rw [e] at hc;exact absurd Off.nil hc
 · rcases hm with ⟨_,e2⟩ | ⟨n2,c2,_,e2,k2⟩
   · rw [e2];exact Off.nil
   · rw [e2]
     refine Off.sl fun q=>?_
     subst q
     by_cases e3:c1=c2
     · subst e3
       rw [k1] at k2
       injection k2 with k2
       injection k2 with _ k3
       exact msgs_vals n2 n1 k3.symm
     · rw [e] at hc
       exact hc (Off.sl e3)
theorem MRow.push {lim:Nat} {ms:List MsgM} {mv:AV} (h:MRow lim H g ms mv) (m:MsgM) (hr:Row lim H 3 valC m.vals m.r) (hl:lim≤H.length) (few:ms.length < 1000000000) :
 ∃ v' H',appendAV 0 (H++[.cells true (msgOf g m)]) 62 552 mv (.sl H.length 0 1 62)=some (v',H')∧MRow lim H' g (ms++[m]) v'∧H.length≤H'.length∧(∀ (c:Nat) (z:ABlk),H[c]?=some z→Off mv c→H'[c]?=some z)∧∀ (lim2:Nat) (vals:List Val) (r:AV),Row lim2 H 3 valC vals r→Row lim2 H' 3 valC vals r:=by
 have hel:elems (H++[ABlk.cells true (msgOf g m)]) 62 (.sl H.length 0 1 62)=some (1,[m].flatMap (msgOf g)):=by
  have e:(H++[ABlk.cells true (msgOf g m)])[H.length]?=some (.cells true (msgOf g m)):=by simp
  have hcut:cut (msgOf g m) 0 62=some (msgOf g m):=cut_all (msgOf_len g m)
  simp only [elems,if_true,Heap.cells?,e,Option.bind_some,Nat.one_mul,hcut,Option.map_some,List.flatMap_cons,List.flatMap_nil,List.append_nil]
 obtain ⟨v',H',h1,h2,h3,h4⟩:=Row.append (bytes:=552) (msgOf_len g) (by omega) (msgOf_one g) (h.row.app (X:=[.cells true (msgOf g m)])) hel rfl (by simp) (by simp only [most];omega) (by simp only [most];omega)
 have hkeep:∀ (c:Nat) (z:ABlk),H[c]?=some z→Off mv c→H'[c]?=some z:=fun c z hz ho=>h4 c z (get_app hz) ho
 have hrows:∀ (lim2:Nat) (vals:List Val) (r:AV),Row lim2 H 3 valC vals r→Row lim2 H' 3 valC vals r:=fun lim2 vals r hrow=>hrow.keep fun c y hz hc=>hkeep c _ hz (h.row.offM hrow hc)
 refine ⟨v',H',append_lim h1,⟨h2 (by simp;omega),fun x hx=>?_⟩,by simp at h3;omega,hkeep,hrows⟩
 rcases List.mem_append.1 hx with q | q
 · exact hrows _ _ _ (h.vals x q)
 · rw [List.mem_singleton.1 q];exact hrows _ _ _ hr
def halfO (now:Int) (l:List OutM) (i:Nat):List OutM:=(l.take i).map (updO now)++l.drop i
theorem half_len {now:Int} {l:List OutM} {i:Nat}:(halfO now l i).length=l.length:=by
 simp [halfO]
 omega
theorem half_at {now:Int} {l:List OutM} {i:Nat} (hi:i < l.length):(halfO now l i)[i]?=some l[i]:=by
 unfold halfO
 rw [List.getElem?_append_right (by simp;omega)]
 simp [Nat.min_eq_left (Nat.le_of_lt hi)]
theorem half_set {now:Int} {l:List OutM} {i:Nat} (hi:i < l.length):(halfO now l i).set i (updO now l[i])=halfO now l (i + 1):=by
 unfold halfO
 rw [List.set_append_right _ _ (by simp;omega),List.take_succ_eq_append_getElem hi,List.map_append]
 simp [Nat.min_eq_left (Nat.le_of_lt hi)]
 rw [List.drop_eq_getElem_cons hi,List.set_cons_zero]
theorem half_same {now:Int} {l:List OutM} {i:Nat} (hi:i < l.length) (h:dueO now l[i]=false):halfO now l (i + 1)=halfO now l i:=by
 have e:updO now l[i]=l[i]:=by simp [updO,h]
 rw [← half_set hi,e]
 apply List.ext_getElem?
 intro k
 by_cases hk:k=i
 · subst hk
   rw [List.getElem?_set_self (by rw [half_len];exact hi),half_at hi]
 · rw [List.getElem?_set_ne (Ne.symm hk)]
structure OutOk (l:List OutM):Prop where
 seq:SeqOk l
 when_:∀ o ∈ l,0≤o.when_∧o.when_ < 1000000000000
 vals:∀ o ∈ l,o.vals.length≤4398046511104
set_option maxHeartbeats 1000000 in
theorem c98 (h:OPile H gb b g cb l R) (few:l.length≤12) (ok:OutOk l) (hn:0≤g.now∧g.now < 1000000000000) :
 WCl envE 98 [.ptr (some (gb,0))] 0 H fun r H'=>∃ l1 ms,l1.Perm l∧SrtTo l1 l.length∧OPile H' gb b g cb (l1.map (updO g.now)) R∧MRow H.length H' g ms r∧ms.map MsgM.p=(l1.filter (dueO g.now)).map OutM.p∧H.length≤H'.length∧∀ (c:Nat) (z:ABlk),H[c]?=some z→c ≠ b→H'[c]?=some z:=by
 refine cl_of e98 rfl ?_
 have hld:=giv_load h.box
 have hbx:=cells_of h.box
 rw [fr_init (by simp [fd98])]
 simp [fd98,b98,hld,-load_ptr]
 refine WCl.mono (c144 h few ok.seq) ?_
 rintro _ _ ⟨rfl,l1,hperm,hsrt,X,rfl⟩
 have hl1:=hperm.length_eq
 have h1:OPile (H.set b (outB l1 R)++X) gb b g cb l1 R:=(h.set hperm).app
 have hld1:=giv_load h1.box
 obtain ⟨H1,hH1⟩:∃ H1,H1=H.set b (outB l1 R)++X:=⟨_,rfl⟩
 rw [← hH1] at h1 hld1 ⊢
 have len1:H.length≤H1.length:=by rw [hH1];simp
 have keep1:∀ (c:Nat) (z:ABlk),H[c]?=some z→c ≠ b→H1[c]?=some z:=fun c z hz hc=>by rw [hH1];exact get_app (get_set hz (Ne.symm hc))
 simp [hld1,-load_ptr]
 refine loop_go [0,3,4,18,19] rfl (fun m vs H'=>∃ i ms mv,m + i=l1.length∧OPile H' gb b g cb (halfO g.now l1 i) R∧MRow H.length H' g ms mv∧ms.map MsgM.p=((l1.take i).filter (dueO g.now)).map OutM.p∧H.length≤H'.length∧(∀ (c:Nat) (z:ABlk),H[c]?=some z→c ≠ b→H'[c]?=some z)∧vs=[.ptr (some (gb,0)),mv,.fn (.func 99) [.ptr (some (gb,0))] [],I l1.length,I i]) ?_ l1.length ⟨0,[],.nilsl,rfl,by simpa [halfO] using h1,MRow.nil,rfl,len1,keep1,rfl⟩
 rintro J hJ m vs H' f ⟨i,ms,mv,hm,hP,hM,hms,hlen,hkeep,rfl⟩
 by_cases hi:i < l1.length
 · have hw:=wrap_succ (i:=i) (by omega)
   have hi2:i < (halfO g.now l1 i).length:=by rw [half_len];exact hi
   have hat:(halfO g.now l1 i)[i]=l1[i]:=by
    have:=half_at (now:=g.now) hi
    rw [List.getElem?_eq_getElem hi2] at this
    exact Option.some.inj this
   have hldP:=giv_load hP.box
   have hidx:=idxSl_sl (k:=.i64) (b:=b) (o:=0) (es:=12) hi2
   have hwn:=ld_when hP hi2
   rw [hat] at hwn
   have hbP:=cells_of hP.box
   have mem:=hperm.subset (List.getElem_mem hi)
   have wok:=ok.when_ _ mem
   have hsub:IntKind.i64.wrap (g.now - l1[i].when_)=g.now - l1[i].when_:=by rw [wrap_i64] <;> omega
   have hnow:loadAt H' none (.ptr (some (gb,7)))=some (I g.now):=by
    simp only [loadAt,hbP,Option.bind_some,Option.getD_none]
    rfl
   have hms1:ms.length≤l1.length:=by
    have:=congrArg List.length hms
    simp only [List.length_map] at this
    rw [this]
    exact Nat.le_trans (List.length_filter_le _ _) (by rw [List.length_take];omega)
   by_cases hd:dueO g.now l1[i]=true
   · have hd2:(2:Int)≤g.now - l1[i].when_:=by simpa [dueO] using hd
     have hst:=st_when hP hi2 g.now
     rw [hat] at hst
     have hup:updO g.now l1[i]={ l1[i] with when_:=g.now }:=by simp [updO,hd]
     have hP2:=hP.setw hi2 g.now
     rw [hat,← hup,half_set hi] at hP2
     rw [← hup,half_set hi] at hst
     obtain ⟨H2,hH2⟩:∃ H2,H2=H'.set b (outB (halfO g.now l1 (i + 1)) R):=⟨_,rfl⟩
     rw [← hH2] at hP2 hst
     have hi3:i < (halfO g.now l1 (i + 1)).length:=by rw [half_len];exact hi
     have hat2:(halfO g.now l1 (i + 1))[i]=updO g.now l1[i]:=by
      have e:=half_set (now:=g.now) hi
      have e2:(halfO g.now l1 (i + 1))[i]?=some (updO g.now l1[i]):=by
       rw [← e,List.getElem?_set_self hi2]
      rw [List.getElem?_eq_getElem hi3] at e2
      exact Option.some.inj e2
     have hld2:=hP2.at hi3
     have hrow:=hP2.rows _ (List.getElem_mem hi3)
     rw [hat2] at hld2 hrow
     have hM2:MRow H.length H2 g ms mv:=by
      have hb:=lt_of h.row
      rw [hH2]
      exact ⟨hM.row.set (hM.row.off hb),fun x hx=>(hM.vals x hx).set ((hM.vals x hx).off hb)⟩
     have ev:(updO g.now l1[i]).vals=l1[i].vals:=by rw [hup]
     simp [lp98_0,hi,hldP,hidx,hwn,hnow,hsub,hd2,hst,hld2,-load_ptr]
     refine WCl.mono (c99 hP2.box (updO g.now l1[i]) hrow (by rw [ev];exact ok.vals _ mem)) ?_
     rintro _ H3 ⟨q,rfl,hq,X3,hX3⟩
     rw [hup] at hq ⊢
     obtain ⟨m1,hm1⟩:∃ m:MsgM,m=⟨5,l1[i].seq,l1[i].key,l1[i].known,l1[i].vals,q⟩:=⟨_,rfl⟩
     have hz:msgG 5 g.self g.to l1[i].seq g.part g.epoch l1[i].key l1[i].known q=msgOf g m1:=by
      rw [hm1]
      unfold msgOf
      rw [oneR_of hq.one]
     have hl2:H2.length=H'.length:=by rw [hH2,List.length_set]
     have hl3:H2.length≤H3.length:=by rw [hX3];simp
     have hM3:MRow H.length H3 g ms mv:=by
      rw [hX3]
      exact ⟨hM2.row.app,fun x hx=>(hM2.vals x hx).app⟩
     have hq2:Row H.length H3 3 valC m1.vals m1.r:=by
      rw [hm1]
      exact hq.mono (by omega)
     obtain ⟨v',H4,ha,hM4,hl4,hk4,hr4⟩:=hM3.push m1 hq2 (by omega) (by omega)
     have zl:(msgOf g m1).length=62:=msgOf_len g m1
     have zo:(∀ x:AV,x ∈ msgOf g m1→x.one=true)=True:=eq_true (List.all_eq_true.1 (msgOf_one g m1))
     have zs:setFrom (msgG 0 0 0 0 0 0 [] zeroV .nilsl) 0 (msgOf g m1)=msgOf g m1:=setFrom_all _ _ (by rw [zl,msgG_len])
     have hmv:=hM3.row.one
     simp [msg_zero,msgG_len,hz,zl,zo,zs,ha,hw,hmv,-load_ptr]
     have hP3:OPile H3 gb b g cb (halfO g.now l1 (i + 1)) R:=by rw [hX3];exact hP2.app
     have og:∀ c,c < H.length→Off mv c:=fun c hc=>hM3.row.off hc
     have hP4:OPile H4 gb b g cb (halfO g.now l1 (i + 1)) R:=⟨hk4 _ _ hP3.box (og _ (lt_of h.box)),hk4 _ _ hP3.row (og _ (lt_of h.row)),hP3.few,fun o ho=>hr4 _ _ _ (hP3.rows o ho),hP3.out⟩
     refine nxt hJ (m - 1) (by omega) ⟨i + 1,ms++[m1],v',by omega,hP4,hM4,?_,by omega,fun c z hz2 hc=>hk4 c z ?_ (og _ (lt_of hz2)),rfl⟩
     · rw [List.map_append,hms,List.take_succ_eq_append_getElem hi,List.filter_append,List.map_append]
       have hd0:dueO g.now l1[i]=true:=hd
       simp [hd0,hm1,MsgM.p,OutM.p]
     · rw [hX3]
       refine get_app ?_
       rw [hH2]
       exact get_set (hkeep c z hz2 hc) (Ne.symm hc)
   · have hd':dueO g.now l1[i]=false:=by simpa using hd
     have hd2:¬ (2:Int)≤g.now - l1[i].when_:=by simpa [dueO] using hd
     simp [lp98_0,hi,hldP,hidx,hwn,hnow,hsub,hd2,hw,-load_ptr]
     refine nxt hJ (m - 1) (by omega) ⟨i + 1,ms,mv,by omega,by rw [half_same hi hd'];exact hP,hM,?_,hlen,hkeep,rfl⟩
     rw [hms,List.take_succ_eq_append_getElem hi,List.filter_append]
     simp [hd']
 · simp [lp98_0,hi]
   have e1:l1.take i=l1:=List.take_of_length_le (by omega)
   have e2:halfO g.now l1 i=l1.map (updO g.now):=by simp [halfO,e1];omega
   rw [e1] at hms
   rw [e2] at hP
   exact ⟨l1,hperm,hsrt,hP,ms,hM,hms,hlen,fun c z hz hc=>hkeep c z hz hc⟩
end
end Go.Proofs.YtgbnbgkldeifkaaGreatA

/- A giver's Wrote; a giver beside its cursor. A cursor beside its giver's pile. What stays beside a cursor and a giver. A giver's Tick, its plain side. What a giver tells in one tick; a push of a message keeps the rest. A giver's Tick. No statement about the program is proved here. -/
import Derived.Test.YtgbnbgkldeifkaaGreatGW
namespace Go.Proofs.YtgbnbgkldeifkaaGreatA
open Go
set_option linter.unusedSimpArgs false
set_option linter.unusedVariables false
set_option maxRecDepth 1000000
section
variable {H H':Heap} {gb b cb:Nat} {g:Giv} {v:AV} {l:List OutM} {R:List AV} {due:List (List UInt8)} {last:List UInt8} {cv:AV} {part:Int}
theorem giv_cur:isCur (givB g cb v)=false:=hard rfl
theorem out_cur {z:ABlk} (h:isOut z=true):isCur z=false:=by
 unfold isOut at h
 split at h
 · rfl
 · cases h
theorem OPileV.keepC (h:OPileV H gb g cb l v) (k:∀ (c:Nat) (z:ABlk),H[c]?=some z→isCur z=false→H'[c]?=some z):OPileV H' gb g cb l v:=by
 cases h with
 | nil h=>exact .nil (k _ _ h giv_cur)
 | sl h=>exact .sl ⟨k _ _ h.box giv_cur,k _ _ h.row (out_cur h.out),h.few,fun o ho=>(h.rows o ho).keepC val_cur k,h.out⟩
theorem OPileV.setg (h:OPileV H gb g cb l v) (g':Giv):OPileV (H.set gb (givB g' cb v)) gb g' cb l v:=by
 have hb:=h.box
 cases h with
 | nil h=>exact .nil (by rw [List.getElem?_set_self (lt_of hb)])
 | sl h=>exact .sl ⟨by rw [List.getElem?_set_self (lt_of hb)],get_set h.row h.ne,h.few,fun o ho=>(h.rows o ho).setF hb,h.out⟩
theorem giv_ends (h:H[gb]?=some (givB g cb v)) (e:Bool):storeAt 0 H 1 (.ptr (some (gb,8))) (.bool e)=some (H.set gb (givB { g with ends:=e } cb v)):=by
 have:=store_of (lim:=0) (n:=1) (o:=8) (v:=.bool e) h (by omega) rfl (by rw [givV_len];omega) rfl
 rw [this]
 rfl
theorem giv_seq (h:H[gb]?=some (givB g cb v)) (n:Int):storeAt 0 H 1 (.ptr (some (gb,6))) (I n)=some (H.set gb (givB { g with seq:=n } cb v)):=by
 have:=store_of (lim:=0) (n:=1) (o:=6) (v:=I n) h (by omega) rfl (by rw [givV_len];omega) rfl
 rw [this]
 rfl
theorem giv_now (h:H[gb]?=some (givB g cb v)) (n:Int):storeAt 0 H 1 (.ptr (some (gb,7))) (I n)=some (H.set gb (givB { g with now:=n } cb v)):=by
 have:=store_of (lim:=0) (n:=1) (o:=7) (v:=I n) h (by omega) rfl (by rw [givV_len];omega) rfl
 rw [this]
 rfl
def wroteG (g:Giv) (key:List UInt8):Giv:=if spotF key=g.part then { g with ends:=false } else g
theorem c52 (h:OPileV H gb g cb l v) (hc:CurM H cb g.part due last cv) (key:List UInt8) (few:due.length < 100000000) :
 WCl envE 52 [.ptr (some (gb,0)),.str key] 0 H fun r H'=>r=.bool (backOk g.part last key)∧∃ cv',CurM H' cb g.part (backF g.part due last key) last cv'∧OPileV H' gb (wroteG g key) cb l v∧H.length≤H'.length∧∀ (c:Nat) (z:ABlk),H[c]?=some z→c ≠ gb→isCur z=false→H'[c]?=some z:=by
 refine cl_of e52 rfl ?_
 have hb:=cells_of h.box
 have hp:loadAt H none (.ptr (some (gb,1)))=some (I g.part):=by
  simp only [loadAt,hb,Option.bind_some,Option.getD_none]
  rfl
 have hcb:∀ {G:Heap} {g':Giv},G[gb]?=some (givB g' cb v)→loadAt G none (.ptr (some (gb,4)))=some (.ptr (some (cb,0))):=fun hq=>by
  simp only [loadAt,cells_of hq,Option.bind_some,Option.getD_none]
  rfl
 have hne:=hc.ne h.box giv_cur
 rw [fr_init (by simp [fd52])]
 by_cases hs:spotF key=g.part
 · have hst:=giv_ends h.box false
   have h2:=h.setg { g with ends:=false }
   have hcb2:=hcb h2.box
   have hc2:CurM (H.set gb (givB { g with ends:=false } cb v)) cb g.part due last cv:=hc.setF h.box hne
   have hw:wroteG g key={ g with ends:=false }:=if_pos hs
   rw [hw]
   obtain ⟨H1,hH1⟩:∃ H1,H1=H.set gb (givB { g with ends:=false } cb v):=⟨_,rfl⟩
   rw [← hH1] at hst h2 hcb2 hc2
   simp [fd52,b52,hp,hs,hst,hcb2,-load_ptr]
   refine WCl.mono (c30 hc2 key few) ?_
   rintro _ H2 ⟨rfl,cv',hcur,hfr⟩
   simp
   refine ⟨⟨cv',hcur⟩,h2.keepC fun c z hz hi=>hfr.still hc2 hz hi,?_,fun c z hz hn hi=>hfr.still hc2 (by rw [hH1];exact get_set hz (Ne.symm hn)) hi⟩
   have:=hfr.len
   rw [hH1] at this
   simpa using this
 · have hcb2:=hcb h.box
   have hw:wroteG g key=g:=if_neg hs
   rw [hw]
   simp [fd52,b52,hp,hs,hcb2,-load_ptr]
   refine WCl.mono (c30 hc key few) ?_
   rintro _ H2 ⟨rfl,cv',hcur,hfr⟩
   simp
   exact ⟨⟨cv',hcur⟩,h.keepC fun c z hz hi=>hfr.still hc hz hi,hfr.len,fun c z hz hn hi=>hfr.still hc hz hi⟩
end
end Go.Proofs.YtgbnbgkldeifkaaGreatA
namespace Go.Proofs.YtgbnbgkldeifkaaGreatA
open Go
set_option linter.unusedSimpArgs false
set_option linter.unusedVariables false
set_option maxRecDepth 1000000
def isGiv:ABlk→Bool
 | .cells false [_,_,_,_,_,_,_,_,.bool _]=>true
 | _=>false
section
variable {H H':Heap} {gb b cb:Nat} {g:Giv} {v:AV} {l:List OutM} {R:List AV} {due:List (List UInt8)} {last:List UInt8} {cv:AV} {part:Int}
theorem giv_is:isGiv (givB g cb v)=true:=hard rfl
theorem OPileV.ne {c:Nat} {z:ABlk} (h:OPileV H gb g cb l v) (hz:H[c]?=some z) (hi:isGiv z=false):c ≠ gb:=by
 rintro rfl
 rw [h.box] at hz
 rw [← Option.some.inj hz,giv_is] at hi
 cases hi
theorem OPileV.off {c:Nat} {z:ABlk} (h:OPileV H gb g cb l v) (hz:H[c]?=some z) (hi:isOut z=false):Off v c:=by
 cases h with
 | nil _=>exact Off.nil
 | @sl b _ R h =>
  refine Off.sl fun e=>?_
  subst e
  rw [h.row] at hz
  rw [← Option.some.inj hz,h.out] at hi
  cases hi
def FrG (H H':Heap):Prop:=H.length≤H'.length∧∀ (c:Nat) (z:ABlk),H[c]?=some z→isGiv z=false→isOut z=false→H'[c]?=some z
theorem FrG.refl:FrG H H:=⟨Nat.le_refl _,fun _ _ h _ _=>h⟩
theorem FrG.trans {H2:Heap} (h:FrG H H') (k:FrG H' H2):FrG H H2:=⟨Nat.le_trans h.1 k.1,fun c z hz a d=>k.2 c z (h.2 c z hz a d) a d⟩
theorem FrG.app {X:Heap}:FrG H (H++X):=⟨by simp,fun _ _ h _ _=>get_app h⟩
theorem FrG.of_fr (h:OPileV H gb g cb l v) (f:Fr H H' gb v):FrG H H':=⟨f.1,fun c z hz a d=>f.2 c z hz (h.ne hz a) (h.off hz d)⟩
theorem FrG.set (h:OPileV H gb g cb l v) (z:ABlk):FrG H (H.set gb z):=⟨by simp,fun c y hy a _=>get_set hy (Ne.symm (h.ne hy a))⟩
theorem Row.keepG {lim:Nat} {vals:List Val} {r:AV} (h:Row lim H 3 valC vals r) (f:FrG H H'):Row lim H' 3 valC vals r:=by
 rcases h with h | ⟨ne,c,g1,g2,g3⟩
 · exact .inl h
 · exact .inr ⟨ne,c,g1,g2,f.2 _ _ g3 rfl val_out⟩
theorem CurM.keepG (hc:CurM H cb part due last cv) (f:FrG H H'):CurM H' cb part due last cv:=by
 refine ⟨hc.strict,hc.few,?_⟩
 rcases hc.pile with ⟨a,d,c⟩ | ⟨b,l,Rs,h1,h2,h3,h4,h5⟩
 · exact .inl ⟨a,d,f.2 _ _ c rfl rfl⟩
 · refine .inr ⟨b,l,Rs,h1,h2,h3,⟨f.2 _ _ h4.box rfl rfl,f.2 _ _ h4.row rfl ?_,h4.few⟩,h5⟩
   cases l with
   | cons x l=>rfl
   | nil =>
    cases Rs with
    | cons x l=>rfl
    | nil=>exact absurd rfl h5
theorem msg_out {ms:List MsgM}:isOut (.cells true (ms.flatMap (msgOf g)))=false:=by
 cases ms <;> rfl
theorem msg_cur {ms:List MsgM}:isCur (.cells true (ms.flatMap (msgOf g)))=false:=by
 cases ms <;> rfl
theorem MRow.keepG {lim:Nat} {ms:List MsgM} {mv:AV} (h:MRow lim H g ms mv) (f:FrG H H'):MRow lim H' g ms mv:=by
 refine ⟨?_,fun m hm=>(h.vals m hm).keepG f⟩
 rcases h.row with h | ⟨ne,c,g1,g2,g3⟩
 · exact .inl h
 · exact .inr ⟨ne,c,g1,g2,f.2 _ _ g3 rfl msg_out⟩
theorem MRow.keepC {lim:Nat} {ms:List MsgM} {mv:AV} (h:MRow lim H g ms mv) (k:∀ (c:Nat) (z:ABlk),H[c]?=some z→isCur z=false→H'[c]?=some z):MRow lim H' g ms mv:=by
 refine ⟨?_,fun m hm=>(h.vals m hm).keepC val_cur k⟩
 rcases h.row with h | ⟨ne,c,g1,g2,g3⟩
 · exact .inl h
 · exact .inr ⟨ne,c,g1,g2,k _ _ g3 msg_cur⟩
theorem MRow.giv {lim:Nat} {g':Giv} {ms:List MsgM} {mv:AV} (h:MRow lim H g ms mv) (h1:g'.self=g.self) (h2:g'.to=g.to) (h3:g'.part=g.part) (h4:g'.epoch=g.epoch):MRow lim H g' ms mv:=by
 have e:msgOf g'=msgOf g:=by
  funext m
  unfold msgOf
  rw [h1,h2,h3,h4]
 exact ⟨by rw [e];exact h.row,h.vals⟩
theorem int_out {l:List Int}:isOut (.cells true (l.flatMap intC))=false:=by
 rcases l with _ | ⟨a,_ | ⟨c,l⟩⟩ <;> rfl
theorem Row.keepI {lim:Nat} {xs:List Int} {r:AV} (h:Row lim H 1 intC xs r) (f:FrG H H'):Row lim H' 1 intC xs r:=by
 rcases h with h | ⟨ne,c,g1,g2,g3⟩
 · exact .inl h
 · exact .inr ⟨ne,c,g1,g2,f.2 _ _ g3 rfl int_out⟩
theorem Ents.keepG:∀ {l:List (List UInt8 × Bag)} {es:List (AV × AV × Nat)},Ents H l es→FrG H H'→Ents H' l es
 | [],[],_,_=>trivial
 | (k,b) :: l,e :: es,h,f=>by
  obtain ⟨⟨r,n,h1,h2⟩,h3⟩:=h
  exact ⟨⟨r,n,h1,h2.keepG f⟩,h3.keepG f⟩
 | [],_ :: _,h,_=>h.elim
 | _ :: _,[],h,_=>h.elim
theorem DRow.keepG {lim:Nat} {ds:List Deed} {v:AV} (h:DRow lim H ds v) (hv:ds=[]→v=.nilsl) (f:FrG H H'):DRow lim H' ds v:=by
 rcases h with h | ⟨c,cs,h0,h1,h2,h3,h4⟩
 · exact .inl h
 · have ne:ds ≠ []:=fun e=>by rw [hv e] at h1;cases h1
   have hl:=List.length_pos_iff.2 ne
   have hcs:isOut (.cells true cs)=false:=by
    obtain ⟨v1,v2,e,_⟩:=h4 0 hl
    rw [Nat.zero_mul,List.drop_zero] at e
    cases cs with
    | nil=>rfl
    | cons x cs =>
     cases cs with
     | nil=>cases x <;> rfl
     | cons y cs =>
      rw [List.take_succ_cons,List.take_succ_cons] at e
      have:y=I (ds[0]'hl).n:=by
       have:=congrArg (fun l:List AV=>l[1]?) e
       simpa [deedM,deedV] using this
      subst this
      cases x <;> rfl
   refine .inr ⟨c,cs,h0,h1,f.2 _ _ h2 rfl hcs,h3,fun i hi=>?_⟩
   obtain ⟨v1,v2,e,r1,r2,o1,o2⟩:=h4 i hi
   exact ⟨v1,v2,e,r1.keepG f,r2.keepI f,o1,o2⟩
theorem vlt_giv {lb mi:Nat} {s:VSt} {q:AV}:isGiv (.cells false (vltC lb mi s q))=false:=by kernel_rfl
theorem vlt_out {lb mi:Nat} {s:VSt} {q:AV}:isOut (.cells false (vltC lb mi s q))=false:=by kernel_rfl
theorem Vlt.keepG {p lb mi:Nat} {s:VSt} {w q:AV} {es:List (AV × AV × Nat)} {ck:Nat} (h:Vlt H p lb mi s w q es ck) (f:FrG H H'):Vlt H' p lb mi s w q es ck :=
 ⟨f.2 _ _ h.box vlt_giv vlt_out,⟨f.2 _ _ h.led.at' rfl rfl,h.led.row.keepG h.vn f,h.led.few⟩,h.tgt.keepI f,f.2 _ _ h.map rfl rfl,⟨h.ents.ents.keepG f,h.ents.lt,h.ents.nd,h.ents.uniq⟩,h.vn⟩
end
end Go.Proofs.YtgbnbgkldeifkaaGreatA
namespace Go.Proofs.YtgbnbgkldeifkaaGreatA
open Go
set_option linter.unusedSimpArgs false
set_option linter.unusedVariables false
set_option maxRecDepth 1000000
section
variable {H H':Heap}
def FrT (H H':Heap):Prop:=H.length≤H'.length∧∀ (c:Nat) (z:ABlk),H[c]?=some z→isCur z=false→isGiv z=false→isOut z=false→H'[c]?=some z
theorem FrT.refl:FrT H H:=⟨Nat.le_refl _,fun _ _ h _ _ _=>h⟩
theorem FrT.trans {H2:Heap} (h:FrT H H') (k:FrT H' H2):FrT H H2:=⟨Nat.le_trans h.1 k.1,fun c z hz a d e=>k.2 c z (h.2 c z hz a d e) a d e⟩
theorem FrG.t (h:FrG H H'):FrT H H':=⟨h.1,fun c z hz _ d e=>h.2 c z hz d e⟩
theorem Row.keepT {lim:Nat} {vals:List Val} {r:AV} (h:Row lim H 3 valC vals r) (f:FrT H H'):Row lim H' 3 valC vals r:=by
 rcases h with h | ⟨ne,c,g1,g2,g3⟩
 · exact .inl h
 · exact .inr ⟨ne,c,g1,g2,f.2 _ _ g3 val_cur rfl val_out⟩
theorem Row.keepTI {lim:Nat} {xs:List Int} {r:AV} (h:Row lim H 1 intC xs r) (f:FrT H H'):Row lim H' 1 intC xs r:=by
 rcases h with h | ⟨ne,c,g1,g2,g3⟩
 · exact .inl h
 · exact .inr ⟨ne,c,g1,g2,f.2 _ _ g3 int_cur rfl int_out⟩
theorem Ents.keepT:∀ {l:List (List UInt8 × Bag)} {es:List (AV × AV × Nat)},Ents H l es→FrT H H'→Ents H' l es
 | [],[],_,_=>trivial
 | (k,b) :: l,e :: es,h,f=>by
  obtain ⟨⟨r,n,h1,h2⟩,h3⟩:=h
  exact ⟨⟨r,n,h1,h2.keepT f⟩,h3.keepT f⟩
 | [],_ :: _,h,_=>h.elim
 | _ :: _,[],h,_=>h.elim
theorem DRow.keepT {lim:Nat} {ds:List Deed} {v:AV} (h:DRow lim H ds v) (hv:ds=[]→v=.nilsl) (f:FrT H H'):DRow lim H' ds v:=by
 rcases h with h | ⟨c,cs,h0,h1,h2,h3,h4⟩
 · exact .inl h
 · have ne:ds ≠ []:=fun e=>by rw [hv e] at h1;cases h1
   have hl:=List.length_pos_iff.2 ne
   have hcs:isOut (.cells true cs)=false:=by
    obtain ⟨v1,v2,e,_⟩:=h4 0 hl
    rw [Nat.zero_mul,List.drop_zero] at e
    cases cs with
    | nil=>rfl
    | cons x cs =>
     cases cs with
     | nil=>cases x <;> rfl
     | cons y cs =>
      rw [List.take_succ_cons,List.take_succ_cons] at e
      have:y=I (ds[0]'hl).n:=by
       have:=congrArg (fun l:List AV=>l[1]?) e
       simpa [deedM,deedV] using this
      subst this
      cases x <;> rfl
   have hcc:isCur (.cells true cs)=false:=by
    obtain ⟨v1,v2,e,_⟩:=h4 0 hl
    rw [Nat.zero_mul,List.drop_zero] at e
    cases cs with
    | nil=>rfl
    | cons x cs =>
     rw [List.take_succ_cons] at e
     have:x=I (ds[0]'hl).kind:=by
      have:=congrArg List.head? e
      simpa [deedM,deedV] using this
     subst this
     rfl
   refine .inr ⟨c,cs,h0,h1,f.2 _ _ h2 hcc rfl hcs,h3,fun i hi=>?_⟩
   obtain ⟨v1,v2,e,r1,r2,o1,o2⟩:=h4 i hi
   exact ⟨v1,v2,e,r1.keepT f,r2.keepTI f,o1,o2⟩
theorem Vlt.keepT {p lb mi:Nat} {s:VSt} {w q:AV} {es:List (AV × AV × Nat)} {ck:Nat} (h:Vlt H p lb mi s w q es ck) (f:FrT H H'):Vlt H' p lb mi s w q es ck :=
 ⟨f.2 _ _ h.box vlt_cur vlt_giv vlt_out,⟨f.2 _ _ h.led.at' rfl rfl rfl,h.led.row.keepT h.vn f,h.led.few⟩,h.tgt.keepTI f,f.2 _ _ h.map rfl rfl rfl,⟨h.ents.ents.keepT f,h.ents.lt,h.ents.nd,h.ents.uniq⟩,h.vn⟩
end
end Go.Proofs.YtgbnbgkldeifkaaGreatA
namespace Go.Proofs.YtgbnbgkldeifkaaGreatA
open Go
set_option linter.unusedSimpArgs false
set_option linter.unusedVariables false
set_option maxRecDepth 1000000
section
variable {l l':List OutM} {now:Int}
theorem upd_seq {o:OutM}:(updO now o).seq=o.seq:=by
 unfold updO
 split <;> rfl
theorem upd_vals {o:OutM}:(updO now o).vals=o.vals:=by
 unfold updO
 split <;> rfl
theorem srt_heap {n:Nat} (h:SrtTo l n):HeapN oLess l n:=fun k k0 kn a c ha hc=>h (par k) k c a (par_lt k0) kn hc ha
theorem srt_map {n:Nat} (h:SrtTo l n):SrtTo (l.map (updO now)) n:=by
 intro p q x y hpq hq hx hy
 rw [List.getElem?_map] at hx hy
 cases e1:l[p]? with
 | none=>rw [e1] at hx;cases hx
 | some x0 =>
  cases e2:l[q]? with
  | none=>rw [e2] at hy;cases hy
  | some y0 =>
   rw [e1] at hx
   rw [e2] at hy
   cases hx
   cases hy
   have:=h p q x0 y0 hpq hq e1 e2
   simp only [oLess,upd_seq] at this ⊢
   exact this
theorem OutOk.perm (h:OutOk l) (p:l'.Perm l):OutOk l':=⟨fun o ho=>h.seq o (p.subset ho),fun o ho=>h.when_ o (p.subset ho),fun o ho=>h.vals o (p.subset ho)⟩
theorem OutOk.nil:OutOk []:=⟨fun o ho=>absurd ho (by simp),fun o ho=>absurd ho (by simp),fun o ho=>absurd ho (by simp)⟩
theorem OutOk.upd (h:OutOk l) (hn:0≤now∧now < 1000000000000):OutOk (l.map (updO now)):=by
 refine ⟨fun o ho=>?_,fun o ho=>?_,fun o ho=>?_⟩ <;> obtain ⟨x,hx,rfl⟩:=List.mem_map.1 ho
 · rw [upd_seq];exact h.seq x hx
 · unfold updO
   split
   · exact hn
   · exact h.when_ x hx
 · rw [upd_vals];exact h.vals x hx
theorem OutOk.snoc {o:OutM} (h:OutOk l) (h1:0≤o.seq∧o.seq < 1000000000000) (h2:0≤o.when_∧o.when_ < 1000000000000) (h3:o.vals.length≤4398046511104):OutOk (l++[o]):=by
 refine ⟨fun x hx=>?_,fun x hx=>?_,fun x hx=>?_⟩ <;> rcases List.mem_append.1 hx with q | q
 · exact h.seq x q
 · rw [List.mem_singleton.1 q];exact h1
 · exact h.when_ x q
 · rw [List.mem_singleton.1 q];exact h2
 · exact h.vals x q
 · rw [List.mem_singleton.1 q];exact h3
end
section
variable {H H':Heap} {gb cb:Nat} {g:Giv} {v:AV} {l:List OutM}
theorem c98g (h:OPileV H gb g cb l v) (few:l.length≤12) (ok:OutOk l) (hn:0≤g.now∧g.now < 1000000000000) :
 WCl envE 98 [.ptr (some (gb,0))] 0 H fun r H'=>∃ l1 l2 ms,l1.Perm l∧SrtTo l1 l.length∧l2=l1.map (updO g.now)∧OPileV H' gb g cb l2 v∧HeapN oLess l2 l2.length∧OutOk l2∧l2.length=l.length∧MRow H.length H' g ms r∧ms.map MsgM.p=(l1.filter (dueO g.now)).map OutM.p∧FrG H H':=by
 have hv:=h
 cases h with
 | nil h =>
  refine WCl.mono (c98n h) ?_
  rintro _ H2 ⟨rfl,e⟩
  obtain rfl:=e.symm
  exact ⟨[],[],[],.refl _,fun p q x y a b=>by simp at b,rfl,hv,fun k k0 kn=>by simp at kn,OutOk.nil,rfl,MRow.nil,rfl,FrG.refl⟩
 | @sl b _ R h =>
  refine WCl.mono (c98 h few ok hn) ?_
  rintro r H2 ⟨l1,ms,hp,hs,hP,hM,hms,hlen,hk⟩
  have hl:(l1.map (updO g.now)).length=l.length:=by rw [List.length_map,hp.length_eq]
  have hP2:=OPileV.sl hP
  rw [hl] at hP2
  refine ⟨l1,_,ms,hp,hs,rfl,hP2,by rw [hl];exact srt_heap (srt_map hs),(ok.perm hp).upd hn,hl,hM,hms,hlen,fun c z hz a d=>hk c z hz fun e=>?_⟩
  subst e
  rw [h.row] at hz
  rw [← Option.some.inj hz,h.out] at d
  cases d
end
end Go.Proofs.YtgbnbgkldeifkaaGreatA
namespace Go.Proofs.YtgbnbgkldeifkaaGreatA
open Go
set_option linter.unusedSimpArgs false
set_option linter.unusedVariables false
set_option maxRecDepth 1000000
def tellsF (K:List (List UInt8)):Nat→List (List UInt8)→List UInt8→List (List UInt8) × List (List UInt8) × List UInt8
 | 0,d,l=>([],d,l)
 | n + 1,d,l=>match (nextF K d l).1 with
  | none=>([],(nextF K d l).2)
  | some k=>(k :: (tellsF K n (nextF K d l).2.1 (nextF K d l).2.2).1,(tellsF K n (nextF K d l).2.1 (nextF K d l).2.2).2)
abbrev MsgP:=Int × Int × List UInt8 × (Nat→Int) × List Val
def toldP (s:VSt):Int→List (List UInt8)→List MsgP
 | _,[]=>[]
 | n,k :: ks=>(5,n + 1,k,(bagOf s k).known,(bagOf s k).vals) :: toldP s (n + 1) ks
theorem toldP_app {s:VSt}:∀ {ks ks':List (List UInt8)} {n:Int},toldP s n (ks++ks')=toldP s n ks++toldP s (n + ks.length) ks'
 | [],ks',n=>by simp [toldP]
 | k :: ks,ks',n=>by
  simp only [List.cons_append,toldP,toldP_app (ks:=ks),List.length_cons]
  rw [show n + 1 + (ks.length:Int)=n + ((ks.length + 1:Nat):Int) by omega]
theorem toldP_len {s:VSt}:∀ {ks:List (List UInt8)} {n:Int},(toldP s n ks).length=ks.length
 | [],_=>rfl
 | k :: ks,n=>by simp [toldP,toldP_len (ks:=ks)]
def endP:MsgP:=(7,0,[],zeroV,[])
section
variable {H H':Heap} {gb b cb:Nat} {g g0:Giv} {v:AV} {l:List OutM} {part:Int} {due:List (List UInt8)} {last:List UInt8} {cv:AV}
theorem MRow.offz {lim:Nat} {ms:List MsgM} {mv:AV} (hM:MRow lim H g ms mv) {c:Nat} {z:ABlk} (hz:H[c]?=some z) (hne:∀ ms:List MsgM,z ≠ .cells true (ms.flatMap (msgOf g))):Off mv c:=by
 rcases hM.row with ⟨_,e⟩ | ⟨n2,c2,_,e2,k2⟩
 · rw [e];exact Off.nil
 · rw [e2]
   refine Off.sl fun q=>?_
   subst q
   rw [hz] at k2
   exact hne ms (Option.some.inj k2)
theorem OPileV.keepM {lim:Nat} {ms:List MsgM} {mv:AV} (h:OPileV H gb g cb l v) (hM:MRow lim H g0 ms mv) (hgb:gb < lim) (k:∀ (c:Nat) (z:ABlk),H[c]?=some z→Off mv c→H'[c]?=some z) (r:∀ (lim2:Nat) (vals:List Val) (r:AV),Row lim2 H 3 valC vals r→Row lim2 H' 3 valC vals r):OPileV H' gb g cb l v:=by
 cases h with
 | nil h=>exact .nil (k _ _ h (hM.row.off hgb))
 | sl h=>exact .sl ⟨k _ _ h.box (hM.row.off hgb),k _ _ h.row (hM.offz h.row fun ms e=>by
  have:=h.out
  rw [e,msg_out] at this
  cases this),h.few,fun o ho=>r _ _ _ (h.rows o ho),h.out⟩
theorem CurM.keepM {lim:Nat} {ms:List MsgM} {mv:AV} (h:CurM H cb part due last cv) (hM:MRow lim H g0 ms mv) (hcb:cb < lim) (k:∀ (c:Nat) (z:ABlk),H[c]?=some z→Off mv c→H'[c]?=some z):CurM H' cb part due last cv:=by
 refine ⟨h.strict,h.few,?_⟩
 rcases h.pile with ⟨a,d,c⟩ | ⟨b,l,Rs,h1,h2,h3,h4,h5⟩
 · exact .inl ⟨a,d,k _ _ c (hM.row.off hcb)⟩
 · exact .inr ⟨b,l,Rs,h1,h2,h3,⟨k _ _ h4.box (hM.row.off hcb),k _ _ h4.row (hM.offz h4.row fun ms e=>by
    have:=pile_cur h5
    rw [e,msg_cur] at this
    cases this),h4.few⟩,h5⟩
theorem FrT.pushM {H2:Heap} {lim:Nat} {ms:List MsgM} {mv:AV} (f:FrT H H') (hM:MRow lim H' g0 ms mv) (hl:H.length≤lim) (len:H'.length≤H2.length) (k:∀ (c:Nat) (z:ABlk),H'[c]?=some z→Off mv c→H2[c]?=some z):FrT H H2 :=
 ⟨Nat.le_trans f.1 len,fun c z hz a d e=>k c z (f.2 c z hz a d e) (hM.row.off (Nat.lt_of_lt_of_le (lt_of hz) hl))⟩
theorem FrT.of_cur (hc:CurM H cb part due last cv) {cv':AV} (f:FrV H H' cb cv cv'):FrT H H':=⟨f.len,fun c z hz a _ _=>f.still hc hz a⟩
theorem FrT.app {X:Heap}:FrT H (H++X):=⟨by simp,fun _ _ h _ _ _=>get_app h⟩
end
end Go.Proofs.YtgbnbgkldeifkaaGreatA
namespace Go.Proofs.YtgbnbgkldeifkaaGreatA
open Go
set_option linter.unusedSimpArgs false
set_option linter.unusedVariables false
set_option maxRecDepth 1000000
def gAt (g:Giv) (k:Int) (e:Bool):Giv:={ g with seq:=k,now:=g.now + 1,ends:=e }
def tickG (g:Giv) (n:Nat) (done:Bool):Giv:=gAt g (g.seq + n) (g.ends || done)
def endL (done:Bool):List MsgP:=if done then [endP] else []
structure Ticked (H H':Heap) (gb cb:Nat) (g:Giv) (l:List OutM) (s:VSt) (K:List (List UInt8)) (T:List (List UInt8) × List (List UInt8) × List UInt8) (r:AV) (l1 told l':List OutM) (ms:List MsgM) (cv' v':AV):Prop where
 p1:l1.Perm l
 srt:SrtTo l1 l.length
 tolds:told.map OutM.p=toldP s g.seq T.1
 nows:∀ o ∈ told,o.when_=g.now + 1
 p2:l'.Perm (l1.map (updO (g.now + 1))++told)
 few:l'.length≤4
 ok:OutOk l'
 heap:HeapN oLess l' l'.length
 pile:OPileV H' gb (tickG g T.1.length (doneB l' K T.2.1 T.2.2)) cb l' v'
 cur:CurM H' cb g.part T.2.1 T.2.2 cv'
 row:MRow H.length H' g ms r
 msgs:ms.map MsgM.p=(l1.filter (dueO (g.now + 1))).map OutM.p++toldP s g.seq T.1++endL (doneB l' K T.2.1 T.2.2)
 fr:FrT H H'
structure TkEnd (H H':Heap) (gb cb:Nat) (g:Giv) (l1 l2:List OutM) (s:VSt) (T:List (List UInt8) × List (List UInt8) × List UInt8) (ks:List (List UInt8)) (v':AV) (l' told:List OutM) (cv':AV) (ms:List MsgM) (mv:AV):Prop where
 few:l'.length≤4
 len:((l1.filter (dueO (g.now + 1))).map OutM.p).length + ks.length≤l'.length
 pile:OPileV H' gb (gAt g (g.seq + ks.length) g.ends) cb l' v'
 ok:OutOk l'
 heap:HeapN oLess l' l'.length
 cur:CurM H' cb g.part T.2.1 T.2.2 cv'
 row:MRow H.length H' g ms mv
 fr:FrT H H'
 p2:l'.Perm (l2++told)
 tolds:told.map OutM.p=toldP s g.seq ks
 nows:∀ o ∈ told,o.when_=g.now + 1
 msgs:ms.map MsgM.p=(l1.filter (dueO (g.now + 1))).map OutM.p++toldP s g.seq ks
 hks:T.1=ks
section
variable {H:Heap} {gb cb:Nat} {g:Giv} {v:AV} {l:List OutM} {due:List (List UInt8)} {last:List UInt8} {cv:AV}
variable {p lb mi:Nat} {s:VSt} {w q:AV} {es:List (AV × AV × Nat)} {ck:Nat}
set_option maxHeartbeats 2000000 in
theorem c46 (h:OPileV H gb g cb l v) (few:l.length≤4) (ok:OutOk l) (hn:0≤g.now∧g.now < 100000000000) (hq:0≤g.seq∧g.seq < 100000000000) (h0:0≤g.part)
 (hv:Vlt H p lb mi s w q es ck) (vok:VOk s) (bfew:s.bags.length < 1000000000) (hc:CurM H cb g.part due last cv)
 {K:List (List UInt8)} (hK:K=keysS s g.part) {T:List (List UInt8) × List (List UInt8) × List UInt8} (hT:T=tellsF K (4 - l.length) due last) :
 WCl envE 46 [.ptr (some (gb,0)),.ptr (some (p,0))] 0 H fun r H'=>Vlt H' p lb mi s w q es ck∧∃ l1 told l' ms cv' v',Ticked H H' gb cb g l s K T r l1 told l' ms cv' v':=by
 refine cl_of e46 rfl ?_
 have hb:=cells_of h.box
 have hnow:loadAt H none (.ptr (some (gb,7)))=some (I g.now):=by
  simp only [loadAt,hb,Option.bind_some,Option.getD_none]
  rfl
 have hw:IntKind.i64.wrap (g.now + 1)=g.now + 1:=by rw [wrap_i64] <;> omega
 have hst:=giv_now h.box (g.now + 1)
 obtain ⟨H1,hH1⟩:∃ H1,H1=H.set gb (givB (gAt g g.seq g.ends) cb v):=⟨_,rfl⟩
 have hst:storeAt 0 H 1 (.ptr (some (gb,7))) (I (g.now + 1))=some H1:=by rw [hH1];exact hst
 have h1:OPileV H1 gb (gAt g g.seq g.ends) cb l v:=by rw [hH1];exact h.setg _
 have f1:FrG H H1:=by rw [hH1];exact FrG.set h _
 have e1:H1.length=H.length:=by rw [hH1,List.length_set]
 have hgbH:=lt_of h.box
 have hcbH:=lt_of hc.box
 rw [fr_init (by simp [fd46])]
 simp [fd46,b46,hnow,hw,hst,-load_ptr]
 refine WCl.mono (c98g h1 (by omega) ok (show 0≤g.now + 1∧g.now + 1 < 1000000000000 by omega)) ?_
 rintro r H2 ⟨l1,l2,ms,hp1,hs1,hl2,h2,heap2,ok2,len2,hM,hms,f2⟩
 simp [-load_ptr]
 have hc2:CurM H2 cb g.part due last cv:=hc.keepG (f1.trans f2)
 have hM:MRow H.length H2 g ms r:=by
  rw [e1] at hM
  exact hM.giv rfl rfl rfl rfl
 have hms:ms.map MsgM.p=(l1.filter (dueO (g.now + 1))).map OutM.p:=hms
 have hl2:l2=l1.map (updO (g.now + 1)):=hl2
 have hresent:((l1.filter (dueO (g.now + 1))).map OutM.p).length≤l.length:=by
  rw [List.length_map,← hp1.length_eq]
  exact List.length_filter_le _ _
 have fin:∀ (H':Heap) (ks:List (List UInt8)) (v':AV) (l' told:List OutM) (cv':AV) (ms:List MsgM) (mv:AV),TkEnd H H' gb cb g l1 l2 s T ks v' l' told cv' ms mv →
  (∀ X,doneB l' K T.2.1 T.2.2=false→Vlt (H'++X) p lb mi s w q es ck∧∃ l1 told l' ms cv' v',Ticked H (H'++X) gb cb g l s K T mv l1 told l' ms cv' v') ∧
  (∀ X,doneB l' K T.2.1 T.2.2=true→∃ H1 B H8 v9 H9,storeAt 0 (H'++X) 1 (.ptr (some (gb,8))) (.bool true)=some H1∧H1[gb]?=some (givB (gAt g (g.seq + ks.length) true) cb v')∧B=msgG 7 g.self g.to 0 g.part g.epoch [] zeroV .nilsl∧H8=H1++[ABlk.cells false B]∧appendAV 0 (H8++[.cells true B]) 62 552 mv (.sl H8.length 0 1 62)=some (v9,H9)∧H8.length≤H9.length∧Vlt H9 p lb mi s w q es ck∧∃ l1 told l' ms cv' v',Ticked H H9 gb cb g l s K T v9 l1 told l' ms cv' v'):=by
  intro H' ks v' l' told cv' ms mv e
  have hvl:Vlt H' p lb mi s w q es ck:=hv.keepT e.fr
  have hfew:ms.length≤8:=by
   have:=congrArg List.length e.msgs
   rw [List.length_map,List.length_append,toldP_len] at this
   have:=e.len
   have:=e.few
   omega
  refine ⟨fun X hd=>⟨hvl.app,l1,told,l',ms,cv',v',⟨hp1,hs1,by rw [e.hks];exact e.tolds,e.nows,by rw [← hl2];exact e.p2,e.few,e.ok,e.heap,?_,e.cur.app,⟨e.row.row.app,fun m hm=>(e.row.vals m hm).app⟩,?_,e.fr.trans FrT.app⟩⟩,fun X hd=>?_⟩
  · rw [hd,tickG,Bool.or_false,e.hks];exact e.pile.app
  · rw [hd,e.msgs,e.hks];simp [endL]
  · have hP:=e.pile.app (X:=X)
    have hst:=giv_ends hP.box true
    have hP1:=hP.setg { (gAt g (g.seq + ks.length) g.ends) with ends:=true }
    have fr1:FrG H' ((H'++X).set gb (givB { (gAt g (g.seq + ks.length) g.ends) with ends:=true } cb v')):=FrG.app.trans (FrG.set hP _)
    obtain ⟨H1,hH1⟩:∃ H1,H1=(H'++X).set gb (givB { (gAt g (g.seq + ks.length) g.ends) with ends:=true } cb v'):=⟨_,rfl⟩
    rw [← hH1] at hst hP1 fr1
    obtain ⟨m1,hm1⟩:∃ m:MsgM,m=⟨7,0,[],zeroV,[],.nilsl⟩:=⟨_,rfl⟩
    obtain ⟨B,hB⟩:∃ B,B=msgG 7 g.self g.to 0 g.part g.epoch [] zeroV .nilsl:=⟨_,rfl⟩
    have hBm:B=msgOf g m1:=by rw [hB,hm1];rfl
    obtain ⟨H8,hH8⟩:∃ H8,H8=H1++[ABlk.cells false B]:=⟨_,rfl⟩
    have fr8:FrG H' H8:=by rw [hH8];exact fr1.trans FrG.app
    have hM8:=e.row.keepG fr8
    have l8:=fr8.1
    have l0:=e.fr.1
    obtain ⟨v9,H9,ha,hM9,hl9,hk9,hr9⟩:=hM8.push m1 (by rw [hm1];exact Row.nil) (by omega) (by omega)
    have frT9:FrT H H9:=(e.fr.trans fr8.t).pushM hM8 (Nat.le_refl _) hl9 hk9
    have hP8:OPileV H8 gb (gAt g (g.seq + ks.length) true) cb l' v':=by rw [hH8];exact hP1.app
    rw [← hBm] at ha
    refine ⟨H1,B,H8,v9,H9,hst,hP1.box,hB,hH8,ha,hl9,hv.keepT frT9,l1,told,l',ms++[m1],cv',v',⟨hp1,hs1,by rw [e.hks];exact e.tolds,e.nows,by rw [← hl2];exact e.p2,e.few,e.ok,e.heap,?_,(e.cur.keepG fr8).keepM hM8 hcbH hk9,hM9,?_,frT9⟩⟩
    · rw [hd,tickG,Bool.or_true,e.hks];exact hP8.keepM hM8 hgbH hk9 hr9
    · rw [hd,List.map_append,e.msgs,e.hks,hm1];simp [endL,endP,MsgM.p]
 refine loop_go [0,1,5] rfl (fun m vs H'=>∃ (k:Int) (ks:List (List UInt8)) (v':AV) (l' told:List OutM) (due':List (List UInt8)) (last':List UInt8) (cv':AV) (ms:List MsgM) (mv:AV),m=4 - l'.length∧l'.length≤4∧l'.length=l.length + ks.length∧k=g.seq + ks.length∧OPileV H' gb (gAt g k g.ends) cb l' v'∧OutOk l'∧HeapN oLess l' l'.length∧CurM H' cb g.part due' last' cv'∧MRow H.length H' g ms mv∧FrT H H'∧l'.Perm (l2++told)∧told.map OutM.p=toldP s g.seq ks∧(∀ o ∈ told,o.when_=g.now + 1)∧ms.map MsgM.p=(l1.filter (dueO (g.now + 1))).map OutM.p++toldP s g.seq ks∧ks++(tellsF K m due' last').1=T.1∧(tellsF K m due' last').2=T.2∧vs=[.ptr (some (gb,0)),.ptr (some (p,0)),mv]) ?_ (4 - l.length) ⟨g.seq,[],v,l2,[],due,last,cv,ms,r,by rw [len2],by omega,by rw [len2];rfl,by simp,h2,ok2,heap2,hc2,hM,(f1.trans f2).t,by simp,rfl,fun o ho=>absurd ho (by simp),by rw [hms];simp [toldP],by rw [hT];rfl,by rw [hT],rfl⟩
 rintro J hJ m vs H' f ⟨k,ks,v',l',told,due',last',cv',ms',mv,hm,few',hlk,hk,hP,ok',heap',hcur,hM',frT,hpt,htold,hnowt,hms',hT1,hT2,rfl⟩
 have hvl:Vlt H' p lb mi s w q es ck:=hv.keepT frT
 have hldP:=giv_load hP.box
 have hlenP:=giv_len hP
 have hcb:loadAt H' none (.ptr (some (gb,4)))=some (.ptr (some (cb,0))):=by
  simp only [loadAt,cells_of hP.box,Option.bind_some,Option.getD_none]
  rfl
 have msfew:ms'.length≤8:=by
  have:=congrArg List.length hms'
  rw [List.length_map,List.length_append,toldP_len] at this
  omega
 by_cases hlt:l'.length < 4
 · have hlt2:(l'.length:Int) < 4:=by omega
   obtain ⟨m',hm'⟩:∃ m',m=m' + 1:=⟨m - 1,by omega⟩
   simp [lp46_0,hldP,hlenP,hlt,hlt2,hcb,-load_ptr]
   refine WCl.mono (c28 hvl vok bfew h0 hcur) ?_
   rintro _ H3 ⟨hres,cv3,hcur3,fr3⟩
   rw [← hK] at hres hcur3
   have st3:∀ (c:Nat) (z:ABlk),H'[c]?=some z→isCur z=false→H3[c]?=some z:=fun c z hz hi=>fr3.still hcur hz hi
   have hP3:=hP.keepC st3
   have hM3:=hM'.keepC st3
   have len3:=fr3.len
   have frT3:FrT H H3:=frT.trans (FrT.of_cur hcur fr3)
   rcases hres with ⟨hnone,rfl⟩ | ⟨key,q',hsome,rfl,hrow⟩
   · have pl:pairZ.all AV.one=true:=pairZ_one
     have pone:(∀ x:AV,x ∈ pairZ→x.one=true)=True:=eq_true (List.all_eq_true.1 pl)
     simp [pair_zero,pairZ_len,pone,-load_ptr]
     rw [hm'] at hT1 hT2
     simp only [tellsF,hnone,List.append_nil] at hT1 hT2
     rw [hT2] at hcur3
     have hE:TkEnd H (H3++[ABlk.cells false pairZ]) gb cb g l1 l2 s T ks v' l' told cv3 ms' mv:=⟨few',by omega,by rw [← hk];exact hP3.app,ok',heap',hcur3.app,⟨hM3.row.app,fun m hm=>(hM3.vals m hm).app⟩,frT3.trans FrT.app,hpt,htold,hnowt,hms',hT1.symm⟩
     obtain ⟨finF,finT⟩:=fin _ _ _ _ _ _ _ _ hE
     obtain ⟨G,hG⟩:∃ G,G=H3++[ABlk.cells false pairZ]:=⟨_,rfl⟩
     rw [← hG] at finF finT hE ⊢
     refine WCl.mono (c100 hE.pile (hv.keepT hE.fr) bfew h0 hE.cur 0 (Nat.zero_le _)) ?_
     rintro _ _ ⟨rfl,X,rfl⟩
     have hKe:keysS s (gAt g (g.seq + ks.length) g.ends).part=K:=hK.symm
     rw [hKe]
     cases hd:doneB l' K T.2.1 T.2.2 with
     | false =>
      simp [-load_ptr]
      exact finF X hd
     | true =>
      obtain ⟨H1,B,H8,v9,H9,hst1,hbx1,hB,hH8,ha,hl9,hfin⟩:=finT X hd
      have k101:=fun K'=>WCl_eq (K:=K') (c101 hbx1 7 0 (Nat.zero_le _))
      have hBe:msgG 7 (gAt g (g.seq + ks.length) true).self (gAt g (g.seq + ks.length) true).to 0 (gAt g (g.seq + ks.length) true).part (gAt g (g.seq + ks.length) true).epoch [] zeroV .nilsl=B:=hB.symm
      rw [hBe,← hH8] at k101
      have zl:B.length=62:=by rw [hB];exact msgG_len
      have zo:(∀ x:AV,x ∈ B→x.one=true)=True:=eq_true (List.all_eq_true.1 (by rw [hB];exact msgG_one rfl))
      have zs:setFrom (msgG 0 0 0 0 0 0 [] zeroV .nilsl) 0 B=B:=setFrom_all _ _ (by rw [zl,msgG_len])
      have hmv:=hE.row.row.one
      simp [hst1,k101,msg_zero,msgG_len,zl,zo,zs,ha,hmv,-load_ptr]
      exact hfin
   · rw [hm'] at hT1 hT2
     simp only [tellsF,hsome] at hT1 hT2
     have pl:=pairC_one (k:=key) (kn:=(bagOf s key).known) (q:=q') hrow.one
     have pone:(∀ x:AV,x ∈ pairC key (bagOf s key).known q'→x.one=true)=True:=eq_true (List.all_eq_true.1 pl)
     have pset:setFrom pairZ 0 (pairC key (bagOf s key).known q')=pairC key (bagOf s key).known q':=setFrom_all _ _ (by rw [pairZ_len,pairC_len])
     obtain ⟨H4,hH4⟩:∃ H4,H4=H3++[ABlk.cells false (pairC key (bagOf s key).known q')]:=⟨_,rfl⟩
     have hP4:OPileV H4 gb (gAt g k g.ends) cb l' v':=by rw [hH4];exact hP3.app
     have hseq:loadAt H4 none (.ptr (some (gb,6)))=some (I k):=by
      simp only [loadAt,cells_of hP4.box,Option.bind_some,Option.getD_none]
      rfl
     have hwk:IntKind.i64.wrap (k + 1)=k + 1:=by rw [wrap_i64] <;> omega
     have hst4:=giv_seq hP4.box (k + 1)
     obtain ⟨H5,hH5⟩:∃ H5,H5=H4.set gb (givB (gAt g (k + 1) g.ends) cb v'):=⟨_,rfl⟩
     have hP5:OPileV H5 gb (gAt g (k + 1) g.ends) cb l' v':=by rw [hH5];exact hP4.setg _
     have hst5:storeAt 0 H4 1 (.ptr (some (gb,6))) (I (k + 1))=some H5:=by rw [hH5];exact hst4
     have hseq5:loadAt H5 none (.ptr (some (gb,6)))=some (I (k + 1)):=by
      simp only [loadAt,cells_of hP5.box,Option.bind_some,Option.getD_none]
      rfl
     have hnow5:loadAt H5 none (.ptr (some (gb,7)))=some (I (g.now + 1)):=by
      simp only [loadAt,cells_of hP5.box,Option.bind_some,Option.getD_none]
      rfl
     have hgb3:gb < H3.length:=lt_of hP3.box
     have b5:H5[H3.length]?=some (.cells false (pairC key (bagOf s key).known q')):=by
      rw [hH5]
      exact get_set (by rw [hH4];simp) (by omega)
     have hpair5:loadAt H5 (some 10) (.ptr (some (H3.length,0)))=some (.agg (pairC key (bagOf s key).known q')):=by
      have:cut (pairC key (bagOf s key).known q') 0 10=some (pairC key (bagOf s key).known q'):=cut_all pairC_len
      simp only [loadAt,cells_of b5,Option.bind_some,Option.getD_some,this,shapeOf]
     have bs1:setFrom [I (k + 1),.str [],I 0,I 0,I 0,I 0,I 0,I 0,I 0,I 0,.nilsl,I 0] 1 (pairC key (bagOf s key).known q')=outV (k + 1) key (bagOf s key).known q' 0:=hard rfl
     have bs2:(outV (k + 1) key (bagOf s key).known q' 0).set 11 (I (g.now + 1))=outV (k + 1) key (bagOf s key).known q' (g.now + 1):=hard rfl
     obtain ⟨o,ho⟩:∃ o:OutM,o=⟨k + 1,key,(bagOf s key).known,(bagOf s key).vals,g.now + 1,q'⟩:=⟨_,rfl⟩
     have hoc:outV (k + 1) key (bagOf s key).known q' (g.now + 1)=outC o:=by rw [ho];rfl
     have oone:(∀ x:AV,x ∈ outC o→x.one=true)=True:=eq_true (List.all_eq_true.1 (by rw [ho];exact outV_one hrow.one))
     obtain ⟨H6,hH6⟩:∃ H6,H6=H5++[ABlk.cells false (outC o)]:=⟨_,rfl⟩
     have hP6:OPileV H6 gb (gAt g (k + 1) g.ends) cb l' v':=by rw [hH6];exact hP5.app
     have l6:H6.length=H5.length + 1:=by rw [hH6];simp
     have b6:H6[H5.length]?=some (.cells false (outC o)):=by rw [hH6];simp
     have hout6:loadAt H6 (some 12) (.ptr (some (H5.length,0)))=some (.agg (outC o)):=by
      have:cut (outC o) 0 12=some (outC o):=cut_all (outC_len o)
      simp only [loadAt,cells_of b6,Option.bind_some,Option.getD_some,this,shapeOf]
     have hle6:H5.length≤H6.length:=by omega
     simp [pair_zero,pairC_len,pairZ_len,pset,pone,← hH4,hseq,hwk,hst5,hseq5,hnow5,hpair5,bs1,bs2,outV_len,hoc,outC_len,oone,← hH6,l6,hle6,hout6,-load_ptr]
     have hrow6:Row 0 H6 3 valC o.vals o.r:=by
      have r3:Row H'.length H4 3 valC (bagOf s key).vals q':=by rw [hH4];exact hrow.app
      have r5:Row H'.length H5 3 valC (bagOf s key).vals q':=by rw [hH5];exact r3.setF hP4.box
      rw [hH6,ho]
      exact (r5.app).mono (Nat.zero_le _)
     refine WCl.mono (c80o hP6 heap' o hrow6 (by omega)) ?_
     rintro _ H7 ⟨rfl,l7,hp7,heap7,hP7,fr7⟩
     have f7:FrG H6 H7:=FrG.of_fr hP6 fr7
     have b7:H7[H5.length]?=some (.cells false (outC o)):=f7.2 _ _ b6 rfl rfl
     have hout7:loadAt H7 (some 12) (.ptr (some (H5.length,0)))=some (.agg (outC o)):=by
      have:cut (outC o) 0 12=some (outC o):=cut_all (outC_len o)
      simp only [loadAt,cells_of b7,Option.bind_some,Option.getD_some,this,shapeOf]
     have l7':H5.length + 1≤H7.length:=by have:=f7.1;omega
     simp [l7',hout7,-load_ptr]
     have mem7:o ∈ l7:=hp7.symm.subset (by simp)
     have hfv:o.vals.length≤4398046511104:=by
      rw [ho]
      have:=bag_fit vok (key:=key)
      unfold reachBytes at this
      show (bagOf s key).vals.length≤4398046511104
      omega
     refine WCl.mono (c99 hP7.box o (hP7.rows o mem7) hfv) ?_
     rintro _ H8 ⟨q8,rfl,hq8,X8,hX8⟩
     have f38:FrG H3 H8:=by
      have e34:FrG H3 H4:=by rw [hH4];exact FrG.app
      have e45:FrG H4 H5:=by rw [hH5];exact FrG.set hP4 _
      have e56:FrG H5 H6:=by rw [hH6];exact FrG.app
      have e78:FrG H7 H8:=by rw [hX8];exact FrG.app
      exact (((e34.trans e45).trans e56).trans f7).trans e78
     obtain ⟨m1,hm1⟩:∃ m:MsgM,m=⟨5,o.seq,o.key,o.known,o.vals,q8⟩:=⟨_,rfl⟩
     have hz:msgG 5 (gAt g (k + 1) g.ends).self (gAt g (k + 1) g.ends).to o.seq (gAt g (k + 1) g.ends).part (gAt g (k + 1) g.ends).epoch o.key o.known q8=msgOf g m1:=by
      rw [hm1]
      unfold msgOf
      rw [oneR_of hq8.one]
      rfl
     have hM8:=hM3.keepG f38
     have l78:H7.length≤H8.length:=by rw [hX8];simp
     have l67:=f7.1
     have l5:H5.length=H3.length + 1:=by rw [hH5,List.length_set,hH4];simp
     have hlen:=frT.1
     have hq9:Row H.length H8 3 valC m1.vals m1.r:=by
      rw [hm1]
      exact hq8.mono (by omega)
     obtain ⟨v9,H9,ha,hM9,hl9,hk9,hr9⟩:=hM8.push m1 hq9 (by omega) (by omega)
     have zl:(msgOf g m1).length=62:=msgOf_len g m1
     have zo:(∀ x:AV,x ∈ msgOf g m1→x.one=true)=True:=eq_true (List.all_eq_true.1 (msgOf_one g m1))
     have zs:setFrom (msgG 0 0 0 0 0 0 [] zeroV .nilsl) 0 (msgOf g m1)=msgOf g m1:=setFrom_all _ _ (by rw [zl,msgG_len])
     have hmv:=hM8.row.one
     simp [msg_zero,msgG_len,hz,zl,zo,zs,ha,hmv,-load_ptr]
     have hlen7:=hp7.length_eq
     simp only [List.length_append,List.length_cons,List.length_nil,Nat.zero_add] at hlen7
     have hcur8:=hcur3.keepG f38
     have hP8:OPileV H8 gb (gAt g (k + 1) g.ends) cb l7 (.sl (H6.length + 2) 0 l7.length 12):=by rw [hX8];exact (OPileV.sl hP7).app
     refine nxt hJ m' (by omega) ⟨k + 1,ks++[key],_,l7,told++[o],_,_,cv3,ms'++[m1],v9,by omega,by omega,by simp;omega,by simp;omega,hP8.keepM hM8 hgbH hk9 hr9,?_,heap7,hcur8.keepM hM8 hcbH hk9,hM9,(frT3.trans f38.t).pushM hM8 (Nat.le_refl _) hl9 hk9,?_,?_,?_,?_,?_,hT2,rfl⟩
     · exact (ok'.snoc (o:=o) (by rw [ho];show 0≤k + 1∧k + 1 < _;omega) (by rw [ho];show 0≤g.now + 1∧g.now + 1 < _;omega) hfv).perm hp7
     · refine hp7.trans ?_
       rw [← List.append_assoc]
       exact List.Perm.append_right _ hpt
     · rw [List.map_append,htold,toldP_app,ho,hk]
       rfl
     · intro x hx
       rcases List.mem_append.1 hx with q | q
       · exact hnowt x q
       · rw [List.mem_singleton.1 q,ho]
     · rw [List.map_append,hms',toldP_app,hm1,ho,hk]
       simp [toldP,MsgM.p]
     · rw [← hT1]
       simp
 · have hlt2:¬ (l'.length:Int) < 4:=by omega
   simp [lp46_0,hldP,hlenP,hlt,hlt2,-load_ptr]
   have hm0:m=0:=by omega
   rw [hm0] at hT1 hT2
   simp only [tellsF,List.append_nil] at hT1 hT2
   have hE:TkEnd H H' gb cb g l1 l2 s T ks v' l' told cv' ms' mv:=⟨few',by omega,by rw [← hk];exact hP,ok',heap',by rw [← hT2];exact hcur,hM',frT,hpt,htold,hnowt,hms',hT1.symm⟩
   obtain ⟨finF,finT⟩:=fin _ _ _ _ _ _ _ _ hE
   obtain ⟨G,hG⟩:∃ G,G=H':=⟨_,rfl⟩
   rw [← hG] at finF finT hE ⊢
   refine WCl.mono (c100 hE.pile (hv.keepT hE.fr) bfew h0 hE.cur 0 (Nat.zero_le _)) ?_
   rintro _ _ ⟨rfl,X,rfl⟩
   have hKe:keysS s (gAt g (g.seq + ks.length) g.ends).part=K:=hK.symm
   rw [hKe]
   cases hd:doneB l' K T.2.1 T.2.2 with
   | false =>
    simp [-load_ptr]
    exact finF X hd
   | true =>
    obtain ⟨H1,B,H8,v9,H9,hst1,hbx1,hB,hH8,ha,hl9,hfin⟩:=finT X hd
    have k101:=fun K'=>WCl_eq (K:=K') (c101 hbx1 7 0 (Nat.zero_le _))
    have hBe:msgG 7 (gAt g (g.seq + ks.length) true).self (gAt g (g.seq + ks.length) true).to 0 (gAt g (g.seq + ks.length) true).part (gAt g (g.seq + ks.length) true).epoch [] zeroV .nilsl=B:=hB.symm
    rw [hBe,← hH8] at k101
    have zl:B.length=62:=by rw [hB];exact msgG_len
    have zo:(∀ x:AV,x ∈ B→x.one=true)=True:=eq_true (List.all_eq_true.1 (by rw [hB];exact msgG_one rfl))
    have zs:setFrom (msgG 0 0 0 0 0 0 [] zeroV .nilsl) 0 B=B:=setFrom_all _ _ (by rw [zl,msgG_len])
    have hmv:=hE.row.row.one
    simp [hst1,k101,msg_zero,msgG_len,zl,zo,zs,ha,hmv,-load_ptr]
    exact hfin
end
end Go.Proofs.YtgbnbgkldeifkaaGreatA

/- A giver's sends and again. No statement about the program is proved here. -/
import Derived.Test.YtgbnbgkldeifkaaGreatGS
namespace Go.Proofs.YtgbnbgkldeifkaaGreatA
open Go
set_option linter.unusedSimpArgs false
set_option linter.unusedVariables false
set_option maxRecDepth 1000000
theorem clone_row {α:Type} {es bytes lim lim':Nat} {f:α→List AV} {H:Heap} {l:List α} {v:AV} (hl:∀ x,(f x).length=es) (hes:0 < es) (h1:∀ x,(f x).all AV.one=true) (h:Row lim' H es f l v) (hb:l.length * bytes≤most) (hb2:l.length≤most) :
 ∃ v' X,cloneG es bytes [v] lim H=some (v',H++X)∧Row H.length (H++X) es f l v':=by
 have hel:=h.elems hl
 by_cases e:l=[]
 · subst e
   refine ⟨.nilsl,[],?_,.inl ⟨rfl,rfl⟩⟩
   simp only [cloneG,appendAV,hel,Option.bind_some,List.length_nil,if_true,List.append_nil]
 · have hm:l.length ≠ 0:=fun q=>e (List.length_eq_zero_iff.1 q)
   have hone:(l.flatMap f).all AV.one=true:=by
    rw [List.all_flatMap]
    exact List.all_eq_true.2 fun x _=>h1 x
   refine ⟨.sl H.length 0 l.length es,[.cells true (l.flatMap f)],?_,.inr ⟨e,_,Nat.le_refl _,rfl,by simp⟩⟩
   simp only [cloneG,appendAV,hel,Option.bind_some,hm,if_false]
   rw [if_pos ⟨hb,hb2,hes,hone⟩]
theorem store_hid {b k n o:Nat} {G:Heap} {g:Bool} {z:List AV} {v:AV} (hk:k ≠ b) (h:G[k]?=some (.cells g z)) (h1:v.cells.length=n) (h2:o + n≤z.length) (h3:v.cells.all AV.one=true) :
 storeAt 0 (Go.Proofs.YtgbnbgkldeifkaaGreatA.hide [b] G) n (.ptr (some (k,o))) v=some ((Go.Proofs.YtgbnbgkldeifkaaGreatA.hide [b] G).set k (.cells g (setFrom z o v.cells))) :=
 store_of (by rw [hide_get,if_neg (by simpa using hk)];exact h) (Nat.zero_le _) h1 h2 h3
theorem unhid_set {b k:Nat} {G:Heap} {x:ABlk} (hb:b < G.length) (hk:k ≠ b):unhide [b] G ((Go.Proofs.YtgbnbgkldeifkaaGreatA.hide [b] G).set k x)=G.set k x:=by
 apply List.ext_getElem?
 intro j
 rw [unhide_get (by simpa using hb) (by rw [List.length_set,hide_len];exact Nat.le_refl _),List.getElem?_set,List.getElem?_set,hide_get,hide_len]
 by_cases hj:j=b
 · subst hj
   rw [if_pos (by simp),if_neg hk]
 · simp [hj]
theorem store_over {G:Heap} {i:Nat} {z y:List AV} (h:G[i]?=some (.cells false z)) (hz:z.length=62) (hy:y.length=62) (ho:y.all AV.one=true):storeAt 0 G 62 (.ptr (some (i,0))) (.agg y)=some (G.set i (.cells false y)):=by
 have:=store_of (lim:=0) (n:=62) (o:=0) (v:=.agg y) h (Nat.zero_le _) (by simpa [AV.cells] using hy) (by simp [hz]) (by simpa [AV.cells] using ho)
 rw [this]
 simp only [AV.cells]
 rw [setFrom_all _ _ (by rw [hz,hy])]
@[simp] theorem nextH_some {B:List Nat} {v:AV} {H1 H:Heap} {T:Tmps} {dst:Option Nat} {next:Tmps→Heap→Prop}:nextH B (some (v,H1)) T H dst next=(H.length≤H1.length∧next (putT T dst v) (unhide B H H1)):=by rw [nextH]
section
variable {H:Heap} {gb b cb:Nat} {g:Giv} {v:AV}
set_option maxHeartbeats 1000000 in
theorem c99 (h:H[gb]?=some (givB g cb v)) (o:OutM) (ho:Row 0 H 3 valC o.vals o.r) (few:o.vals.length≤4398046511104) :
 WCl envE 99 [.ptr (some (gb,0)),.agg (outC o)] 0 H fun r H'=>∃ q,r=.agg (msgG 5 g.self g.to o.seq g.part g.epoch o.key o.known q)∧Row H.length H' 3 valC o.vals q∧∃ X,H'=H++X:=by
 refine cl_of e99 rfl ?_
 have oone:(∀ x:AV,x ∈ outC o→x.one=true)=True:=eq_true (List.all_eq_true.1 (outV_one ho.one))
 obtain ⟨z0,hz0⟩:∃ z,z=msgG 0 0 0 0 0 0 [] zeroV .nilsl:=⟨_,rfl⟩
 obtain ⟨z1,hz1⟩:∃ z,z=msgG 5 g.self g.to 0 g.part g.epoch [] zeroV .nilsl:=⟨_,rfl⟩
 obtain ⟨z2,hz2⟩:∃ z,z=msgG 5 g.self g.to o.seq g.part g.epoch [] zeroV .nilsl:=⟨_,rfl⟩
 obtain ⟨z3,hz3⟩:∃ z,z=msgG 5 g.self g.to o.seq g.part g.epoch o.key zeroV .nilsl:=⟨_,rfl⟩
 obtain ⟨z4,hz4⟩:∃ z,z=msgG 5 g.self g.to o.seq g.part g.epoch o.key o.known o.r:=⟨_,rfl⟩
 obtain ⟨H1,hH1⟩:∃ H1,H1=H++[ABlk.cells false (outC o),ABlk.cells false z0]:=⟨_,rfl⟩
 have h1:H1[gb]?=some (givB g cb v):=by rw [hH1];exact get_app h
 have k101:=fun K=>WCl_eq (K:=K) (c101 h1 5 0 (Nat.zero_le _))
 rw [← hz1] at k101
 have zl0:z0.length=62:=by rw [hz0];exact msgG_len
 have zl1:z1.length=62:=by rw [hz1];exact msgG_len
 have one1:(∀ x:AV,x ∈ z1→x.one=true)=True:=eq_true (List.all_eq_true.1 (by rw [hz1];exact msgG_one rfl))
 have ov:setFrom z0 0 z1=z1:=setFrom_all _ _ (by rw [zl0,zl1])
 obtain ⟨H2,hH2⟩:∃ H2,H2=H1++[ABlk.cells false z1,ABlk.cells false z1]:=⟨_,rfl⟩
 have l1:H1.length=H.length + 2:=by rw [hH1];simp
 have l2:H2.length=H.length + 4:=by rw [hH2];simp [l1]
 obtain ⟨i5,hi5⟩:∃ i,i=H.length + 3:=⟨_,rfl⟩
 have ne:i5 ≠ H.length:=by omega
 have t2:H2[i5]?=some (.cells false z1):=by rw [hH2,hi5,List.getElem?_append_right (by omega)];simp [l1]
 have b2:H2[H.length]?=some (.cells false (outC o)):=by rw [hH2,hH1];simp
 have y2:H2[H.length + 1]?=some (.cells false z0):=by rw [hH2,hH1];simp
 have st1:storeAt 0 (H1++[ABlk.cells false z1,ABlk.cells false z0]) 62 (.ptr (some (i5,0))) (.agg z1)=some H2:=by
  have hz:(H1++[ABlk.cells false z1,ABlk.cells false z0])[i5]?=some (.cells false z0):=by rw [hi5,List.getElem?_append_right (by omega)];simp [l1]
  rw [store_over hz zl0 zl1 (by rw [hz1];exact msgG_one rfl),hH2,List.set_append_right _ _ (by omega)]
  simp [hi5,l1]
 have e0:cut (outC o) 0 1=some [I o.seq]:=hard rfl
 have e1:cut (outC o) 1 1=some [.str o.key]:=hard rfl
 have e2:cut (outC o) 2 9=some (bagV o.known o.r):=hard rfl
 obtain ⟨B,hB⟩:∃ B,B=[H.length]:=⟨_,rfl⟩
 have oB:H.length ∈ B:=by rw [hB];simp
 obtain ⟨G3,hG3⟩:∃ G,G=H2.set i5 (.cells false z2):=⟨_,rfl⟩
 obtain ⟨G4,hG4⟩:∃ G,G=H2.set i5 (.cells false z3):=⟨_,rfl⟩
 obtain ⟨G5,hG5⟩:∃ G,G=H2.set i5 (.cells false z4):=⟨_,rfl⟩
 have t3:G3[i5]?=some (.cells false z2):=by rw [hG3,List.getElem?_set_self (lt_of t2)]
 have t4:G4[i5]?=some (.cells false z3):=by rw [hG4,List.getElem?_set_self (lt_of t2)]
 have t5:G5[i5]?=some (.cells false z4):=by rw [hG5,List.getElem?_set_self (lt_of t2)]
 have b3:G3[H.length]?=some (.cells false (outC o)):=by rw [hG3];exact get_set b2 ne
 have b4:G4[H.length]?=some (.cells false (outC o)):=by rw [hG4];exact get_set b2 ne
 have y5:G5[H.length + 1]?=some (.cells false z0):=by rw [hG5];exact get_set y2 (by omega)
 have m3:G3.length=H2.length:=by rw [hG3,List.length_set]
 have m4:G4.length=H2.length:=by rw [hG4,List.length_set]
 have m5:G5.length=H2.length:=by rw [hG5,List.length_set]
 obtain ⟨h2',hh2⟩:∃ h,h=Go.Proofs.YtgbnbgkldeifkaaGreatA.hide B H2:=⟨_,rfl⟩
 obtain ⟨h3',hh3⟩:∃ h,h=Go.Proofs.YtgbnbgkldeifkaaGreatA.hide B G3:=⟨_,rfl⟩
 obtain ⟨h4',hh4⟩:∃ h,h=Go.Proofs.YtgbnbgkldeifkaaGreatA.hide B G4:=⟨_,rfl⟩
 have n2:h2'.length=H2.length:=by rw [hh2];exact hide_len
 have n3:h3'.length=H2.length:=by rw [hh3,hide_len,m3]
 have n4:h4'.length=H2.length:=by rw [hh4,hide_len,m4]
 have s2:storeAt 0 h2' 1 (.ptr (some (i5,3))) (I o.seq)=some (h2'.set i5 (.cells false z2)):=by
  rw [hh2,hB,hz2]
  rw [hz1] at t2
  exact store_hid (n:=1) (o:=3) (v:=I o.seq) ne t2 rfl (by rw [msgG_len];omega) rfl
 have s3:storeAt 0 h3' 1 (.ptr (some (i5,8))) (.str o.key)=some (h3'.set i5 (.cells false z3)):=by
  rw [hh3,hB,hz3]
  rw [hz2] at t3
  exact store_hid (n:=1) (o:=8) (v:=.str o.key) ne t3 rfl (by rw [msgG_len];omega) rfl
 have s4:storeAt 0 h4' 9 (.ptr (some (i5,9))) (.agg (bagV o.known o.r))=some (h4'.set i5 (.cells false z4)):=by
  rw [hh4,hB,hz4]
  rw [hz3] at t4
  exact store_hid (n:=9) (o:=9) (v:=.agg (bagV o.known o.r)) ne t4 rfl (by rw [msgG_len];omega) (by simp [AV.cells,ho.one])
 have u2:unhide B H2 (h2'.set i5 (.cells false z2))=G3:=by rw [hh2,hB,unhid_set (lt_of b2) ne,hG3]
 have u3:unhide B G3 (h3'.set i5 (.cells false z3))=G4:=by rw [hh3,hB,unhid_set (lt_of b3) ne,hG3,hG4,List.set_set]
 have u4:unhide B G4 (h4'.set i5 (.cells false z4))=G5:=by rw [hh4,hB,unhid_set (lt_of b4) ne,hG4,hG5,List.set_set]
 have ro5:Row 0 G5 3 valC o.vals o.r:=by
  rw [hG5]
  exact Row.setF (by rw [hH2,hH1];exact ho.app.app) t2
 obtain ⟨q,X5,hcl,hrow⟩:=clone_row (lim:=0) (bytes:=32) valC_len (by omega) valC_one ro5 (by simp only [most];omega) (by simp only [most];omega)
 have k123:∀ K,WCl envE 123 [o.r] 0 G5 K=K q (G5++X5):=fun K=>WCl_eq (cl_prim e123 hcl)
 have oq:=hrow.one
 obtain ⟨G6,hG6⟩:∃ G,G=G5++X5:=⟨_,rfl⟩
 have t6:G6[i5]?=some (.cells false z4):=by rw [hG6];exact get_app t5
 have y6:G6[H.length + 1]?=some (.cells false z0):=by rw [hG6];exact get_app y5
 obtain ⟨z5,hz5⟩:∃ z,z=msgG 5 g.self g.to o.seq g.part g.epoch o.key o.known q:=⟨_,rfl⟩
 have s6:storeAt 0 G6 1 (.ptr (some (i5,17))) q=some (G6.set i5 (.cells false z5)):=by
  have hc:=hrow.cells
  have:=store_of (lim:=0) (n:=1) (o:=17) (v:=q) t6 (Nat.zero_le _) (by rw [hc];rfl) (by rw [hz4,msgG_len];omega) (by rw [hc];simp [oq])
  rw [this,hc,hz4,hz5]
  rfl
 obtain ⟨G7,hG7⟩:∃ G,G=G6.set i5 (.cells false z5):=⟨_,rfl⟩
 rw [← hG7] at s6
 have t7:G7[i5]?=some (.cells false z5):=by rw [hG7,List.getElem?_set_self (lt_of t6)]
 have y7:G7[H.length + 1]?=some (.cells false z0):=by rw [hG7];exact get_set y6 (by omega)
 have zl5:z5.length=62:=by rw [hz5];exact msgG_len
 have zo5:z5.all AV.one=true:=by rw [hz5];exact msgG_one oq
 have st:=store_over (y:=z5) y7 zl0 zl5 zo5
 have zt5:cut z5 0 62=some z5:=cut_all zl5
 have a17:cut z4 17 1=some [o.r]:=by rw [hz4];exact hard rfl
 have ha:∀ k,amongP B (.ptr (some (H.length,k))):=fun o=>by rw [hB];simp [amongP]
 have lb2:H.length < H2.length:=by omega
 rw [fr_init (by simp [fd99])]
 simp [fd99,b99,msg_zero,oone,← hz0,← hH1,k101,zl0,zl1,st1,l1,← hi5,hidB,ha,lb2,← hB,cells_of b2,e0,e1,e2,oB,← hh2,s2,u2,n2,m3,cells_of b3,← hh3,s3,u3,n3,m4,cells_of b4,← hh4,s4,u4,n4,m5,cells_of t5,a17,k123,← hG6,oq,s6,cells_of t7,zt5,st,shapeOf,cells_of (List.getElem?_set_self (lt_of y7))]
 refine ⟨q,hz5,?_,?_⟩
 · have r1:Row H.length G6 3 valC o.vals q:=by rw [hG6];exact hrow.mono (by omega)
   have r2:Row H.length G7 3 valC o.vals q:=by rw [hG7];exact r1.setF t6
   exact r2.setF y7
 · have hs:∀ (X:Heap) (i:Nat) (z:ABlk),H.length≤i→∃ X',(H++X).set i z=H++X':=fun X i z hi=>⟨_,List.set_append_right _ _ hi⟩
   obtain ⟨Y2,e2'⟩:∃ Y,H2=H++Y:=⟨_,by rw [hH2,hH1,List.append_assoc]⟩
   rw [e2'] at hG5
   obtain ⟨Y5,e5⟩:=hs Y2 i5 (.cells false z4) (by omega)
   rw [e5] at hG5
   rw [hG5,List.append_assoc] at hG6
   obtain ⟨Y7,e7⟩:=hs (Y5++X5) i5 (.cells false z5) (by omega)
   rw [hG6,e7] at hG7
   rw [hG7]
   exact hs _ _ _ (by omega)
end
end Go.Proofs.YtgbnbgkldeifkaaGreatA

/- A function whose run hangs on drawn choices, but whose answer does not. No statement about the program is proved here. -/
import Derived.Test.YtgbnbgkldeifkaaGreatA40
namespace Go.Proofs.YtgbnbgkldeifkaaGreatA
open Go Go.RowKit
set_option linter.unusedVariables false
def die (n:Nat) (H:Heap):Heap:=List.replicate n .dead++H.drop n
theorem die_get {n:Nat} {H:Heap} {b:Nat} (h:n≤b):(die n H)[b]?=H[b]?:=by
 unfold die
 rw [List.getElem?_append_right (by simp;exact h),List.getElem?_drop]
 simp
 congr 1
 omega
theorem die_low {n:Nat} {H:Heap} {b:Nat} (h:b < n):(die n H)[b]?=some .dead:=by
 unfold die
 rw [List.getElem?_append_left (by simp;exact h)]
 simp [h]
theorem die_len {n:Nat} {H:Heap} (h:n≤H.length):(die n H).length=H.length:=by simp [die];omega
def Dies (lim:Nat) (H1 H':Heap):Prop:=H'.length=H1.length∧(∀ b:Nat,b < H1.length→H'[b]?=H1[b]?∨H'[b]?=some .dead)∧∀ b:Nat,b < lim→H'[b]?=H1[b]?
theorem Dies.refl {lim:Nat} {H:Heap}:Dies lim H H:=⟨rfl,fun _ _=>.inl rfl,fun _ _=>rfl⟩
section
variable {w0:World} {ro:Nat→Prop} {P:Program} {μ:Mu} {H:Heap} {w:World} {lim:Nat} {E:AEnv}
theorem HR.dies {H':Heap} (h:HR w0 ro μ H w) (hd:Dies lim H H'):HR w0 ro μ H' w:=by
 obtain ⟨d1,d2,_⟩:=hd
 have back:∀ b,alive H' b→alive H b:=fun b ha=>by
  have hlt:b < H.length:=by
   rw [← d1]
   rcases ha with ⟨g,cs,e⟩ | ⟨es,c,e⟩ | ⟨m,s,l,k,e⟩ <;> exact (List.getElem?_eq_some_iff.1 e).1
  rcases d2 b hlt with q | q
  · unfold alive at ha ⊢
    rw [q] at ha
    exact ha
  · unfold alive at ha
    rw [q] at ha
    rcases ha with ⟨g,cs,e⟩ | ⟨es,c,e⟩ | ⟨m,s,l,k,e⟩ <;> cases e
 refine ⟨by rw [h.len,d1],h.grow,h.old,fun b loc hm=>?_,fun b b' l l' ha ha' hm hm' e=>h.inj b b' l l' (back b ha) (back b' ha') hm hm' e⟩
 have hb:=h.blk b loc hm
 rcases d2 b (h.get hm) with q | q
 · rw [q];exact hb
 · rw [q];trivial
theorem alive_dies {H':Heap} (hd:Dies lim H H') {b:Nat} (ha:alive H' b):alive H b:=by
 obtain ⟨d1,d2,_⟩:=hd
 have hlt:b < H.length:=by
  rw [← d1]
  rcases ha with ⟨g,cs,e⟩ | ⟨es,c,e⟩ | ⟨m,s,l,k,e⟩ <;> exact (List.getElem?_eq_some_iff.1 e).1
 rcases d2 b hlt with q | q
 · unfold alive at ha ⊢
   rw [q] at ha
   exact ha
 · unfold alive at ha
   rw [q] at ha
   rcases ha with ⟨g,cs,e⟩ | ⟨es,c,e⟩ | ⟨m,s,l,k,e⟩ <;> cases e
theorem Post.dies {μ':Mu} {H1 H':Heap} {w':World} (h:Post w0 ro lim μ H w μ' H1 w') (hd:Dies lim H1 H'):Post w0 ro lim μ H w μ' H' w' where
 app:=h.app
 hr:=h.hr.dies hd
 os:=h.os
 tape:=h.tape
 output:=h.output
 size:=h.size
 frame:=h.frame
 sub:=fun c hc ⟨b,l,h1,h2,h3,h4⟩=>h.sub c hc ⟨b,l,h1,alive_dies hd h2,h3,h4⟩
 low:=fun b hb hl=>(hd.2.2 b hb).trans (h.low b hb hl)
 more:=by rw [hd.1];exact h.more
theorem start_AR {as:List AV} {vs:Array Value} {nt:Nat} (hv:VRs w0 ro μ as vs.toList):AR w0 ro μ (as++List.replicate (nt - as.length) .noval) ⟨vs++Array.replicate (nt - vs.size) Go.undef,[]⟩:=by
 have hlen:as.length=vs.size:=by rw [hv.len];simp
 refine ⟨rfl,?_⟩
 simp only [Array.toList_append,Array.toList_replicate]
 rw [hlen]
 exact hv.app (replicate_VRs _)
theorem prim_dies {f:Nat} {fd:AFun} {g:List AV→Nat→Heap→Option (AV × Heap)} (hf:FnGood P f (.code fd))
 (h:∀ (as:List AV) (lim:Nat) (H:Heap) (r:AV) (H':Heap),g as lim H=some (r,H')→NW P E fd.body lim (as++List.replicate (fd.ntmps - as.length) .noval) H fun x T1 H1=>(x=.normal∨x=.ret)∧resAll H1 T1 fd.results=some r∧Dies lim H1 H'):FnGood P f (.prim g):=by
 obtain ⟨fn,c,hh,hent,hbody,hlow,hnt,hres⟩:=hf
 refine ⟨⟨fn,hent⟩,?_⟩
 intro w0 ro μ H w lim as vs r H' hr hv hg
 have hL:Low P c fd.body:=by rw [hlow];exact lowC_Low c hh
 have har:=start_AR (nt:=fn.ntmps) hv
 rw [← hnt] at har
 refine calls_of_wp hent.1 hbody ?_
 rw [← hnt]
 refine h as lim H r H' hg w0 ro c μ w _ _ hL hr har fun x T1 H1 μ1 a1 w1 q hp ha=>?_
 obtain ⟨hx,h3,hd⟩:=q
 obtain ⟨v',g1,g2⟩:=res_run hp.hr ha hres h3
 rcases hx with rfl | rfl
 · exact ⟨ha.1,v',g1,v',μ1,rfl,hp.dies hd,g2⟩
 · exact ⟨ha.1,v',g1,v',μ1,rfl,hp.dies hd,g2⟩
theorem prim_own {f:Nat} {fd:AFun} {g:List AV→Nat→Heap→Option (AV × Heap)} (hf:FnGood P f (.code fd))
 (h:∀ (as:List AV) (lim:Nat) (H:Heap) (r:AV) (H':Heap),g as lim H=some (r,H')→∃ D,thaw D H=(r,H')∧NW P E fd.body H.length (as++List.replicate (fd.ntmps - as.length) .noval) H fun x T1 H1=>(x=.normal∨x=.ret)∧∃ v used,resAll H1 T1 fd.results=some v∧own (die H.length H1) deep v=some (D,used)∧noTwo used=true):FnGood P f (.prim g):=by
 obtain ⟨fn,c,hh,hent,hbody,hlow,hnt,hres⟩:=hf
 refine ⟨⟨fn,hent⟩,?_⟩
 intro w0 ro μ H w lim as vs r H' hr hv hg
 obtain ⟨D,hD,hnw⟩:=h as lim H r H' hg
 have hL:Low P c fd.body:=by rw [hlow];exact lowC_Low c hh
 have har:=start_AR (nt:=fn.ntmps) hv
 rw [← hnt] at har
 refine calls_of_wp hent.1 hbody ?_
 rw [← hnt]
 refine hnw w0 ro c μ w _ _ hL hr har fun x T1 H1 μ1 a1 w1 q hp ha=>?_
 obtain ⟨hx,v,used,h3,h4,hu⟩:=q
 obtain ⟨v',g1,g2⟩:=res_run hp.hr ha hres h3
 have noO:∀ c,¬ Owned μ H H.length c:=fun c ⟨b,l,b1,b2,_⟩=>by
  have:b < H.length:=by rcases b2 with ⟨g,cs,e⟩ | ⟨es,c,e⟩ | ⟨m,s,l,k,e⟩ <;> exact (List.getElem?_eq_some_iff.1 e).1
  omega
 have fr:∀ c,c < w.heap.size→w1.heap[c]?=w.heap[c]?:=fun c hc=>hp.frame c hc (noO c)
 have hr1:=hr.later hp.size fr
 have hdie:Dies 0 H1 (die H.length H1):=⟨die_len hp.more,fun b hb=>by
  rcases Nat.lt_or_ge b H.length with q | q
  · exact .inr (die_low q)
  · exact .inl (die_get q),fun b hb=>by omega⟩
 have hrd:=hp.hr.dies hdie
 have own1:=own_thaw (w0:=w0) (ro:=ro) (N:=w.heap.size) (L:=H.length) hrd (fun b l ha' hm'=>by
  rcases Nat.lt_or_ge b H.length with q | q
  · exfalso
    unfold alive at ha'
    rw [die_low q] at ha'
    rcases ha' with ⟨g,cs,e⟩ | ⟨es,c,e⟩ | ⟨m,s,l,k,e⟩ <;> cases e
  · rcases Nat.lt_or_ge l.c w.heap.size with q1 | q1
    · exact absurd (hp.sub l.c q1 ⟨b,l,q,alive_dies hdie ha',hm',rfl⟩) (noO _)
    · exact q1) (fun c hc=>Nat.lt_of_lt_of_le (hr.old c hc).1 hr.grow) deep v D used h4 v' g2 [] μ H hr1
  ⟨fun b l hb ha' hm'=>by have:=BR.lt hb (hr.blk b l ha');omega,fun b l hb ha' _=>by have:=alive_lt ha';omega⟩ hu (by simp)
 obtain ⟨ν,K,k1,k2,k3,k4⟩:=own1
 rw [hD] at k1 k2 k3 k4
 simp only at k1 k2 k3 k4
 have hpost:Post w0 ro lim μ H w (μ++ν) H' w1:=by
  refine ⟨⟨ν,rfl⟩,k2,hp.os,hp.tape,hp.output,hp.size,fun c hc _=>fr c hc,?_,?_,by rw [k1];simp⟩
  · rintro c hc ⟨b,l,b1,b2,b3,b4⟩
    rcases Nat.lt_or_ge b H.length with q | q
    · rw [k1] at b2
      rw [List.getElem?_append_left (by rw [hr.len];exact q)] at b3
      exact ⟨b,l,b1,alive_cut q b2,b3,b4⟩
    · have:=k4.2 b l q b2 b3;omega
  · intro b _ hb;rw [k1,List.getElem?_append_left hb]
 rcases hx with rfl | rfl
 · exact ⟨ha.1,v',g1,v',μ++ν,rfl,hpost,k3⟩
 · exact ⟨ha.1,v',g1,v',μ++ν,rfl,hpost,k3⟩
end
end Go.Proofs.YtgbnbgkldeifkaaGreatA

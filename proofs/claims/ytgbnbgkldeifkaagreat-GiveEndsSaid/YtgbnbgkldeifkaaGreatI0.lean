/- slices.Insert of rows of 3 cells: a walk through its code, on each of its four roads. No statement about the program is proved here. -/
import Derived.Test.YtgbnbgkldeifkaaGreatFI
import Derived.Test.YtgbnbgkldeifkaaGreatA32
import Derived.KernelRfl
namespace Go.Proofs.YtgbnbgkldeifkaaGreatA
open Go
set_option linter.unusedSimpArgs false
set_option maxRecDepth 1000000

def envI122:AEnv:=mkEnv [(122,.code fd122),(157,.ext overlapsG)] []
theorem fnI122:envI122.fn 122=some (.code fd122):=rfl
theorem fnV122:envI122.fn 157=some (.ext overlapsG):=rfl
theorem elems_one122 {H:Heap} {v:AV} {m:Nat} {new:List AV} {b o n es:Nat} (hv:v=.sl b o n es) (hel:elems H 3 v=some (m,new)):n=m∧es=3∧new.length=m * 3:=by
  subst hv
  simp only [elems] at hel
  split at hel
  · rename_i e
    simp only [Option.bind_eq_some_iff,Option.map_eq_some_iff,Prod.mk.injEq] at hel
    obtain ⟨cs,_,c,h2,e1,e2⟩:=hel
    subst e1;subst e2
    exact ⟨rfl,e,cut_len h2⟩
  · cases hel

theorem ins_nil122 (lim:Nat) (H:Heap) (v r:AV) (H':Heap) (h:insertG 3 32 [.nilsl,.int .i64 0,v] lim H=some (r,H')):Cl envI122 122 [.nilsl,.int .i64 0,v] lim H r H':=by
  simp only [insertG,Option.bind_eq_some_iff] at h
  obtain ⟨⟨m,new⟩,hel,h⟩:=h
  simp only at h
  split at h
  · rename_i b' o' n' es' e
    split at h
    · rename_i q
      obtain ⟨_,rfl,q1,q2,q3⟩:=q
      cases h
      obtain ⟨rfl,rfl,_⟩:=elems_one122 rfl hel
      have happ:appendAV lim H 3 32 .nilsl (.sl b' o' 1 3)=some (.sl H.length 0 1 3,H++[.cells true new]):=by
        simp only [appendAV,hel,Option.bind_some,most]
        simp at q3
        simp [q3]
        exact q3
      refine cl_is fnI122 rfl ?_
      rw [fr_init (by simp [fd122])]
      simp [fd122,b122,happ]
    · cases h
  · rename_i e;cases e
  · cases h
theorem ins_last122 (lim:Nat) (H:Heap) (b o n:Nat) (v r:AV) (H':Heap) (h:insertG 3 32 [.sl b o n 3,.int .i64 n,v] lim H=some (r,H')):Cl envI122 122 [.sl b o n 3,.int .i64 n,v] lim H r H':=by
  simp only [insertG,Option.bind_eq_some_iff] at h
  obtain ⟨⟨m,new⟩,hel,h⟩:=h
  simp only at h
  split at h
  · rename_i e;cases e
  · rename_i b' o' n' es' b2 o2 n2 es2 e
    cases e
    split at h
    · rename_i q
      obtain ⟨_,_,rfl,q1,q2,q3,q4,q5,_,_⟩:=q
      split at h
      · rename_i cs hb
        split at h
        · rename_i hlen
          cases h
          obtain ⟨rfl,rfl,_⟩:=elems_one122 rfl hel
          have hcut:cut cs o (n * 3)=some (cs.drop o):=by unfold cut;rw [if_pos (by omega),List.take_of_length_le (by simp;omega)]
          have happ:appendAV lim H 3 32 (.sl b o n 3) (.sl b' o' 1 3)=some (.sl H.length 0 (n + 1) 3,H.set b .dead++[.cells true (cs.drop o++new)]):=by
            simp only [appendAV,hel,Option.bind_some,hb,hcut,Option.map_some]
            simp at q4
            simp [q1,q2,q3]
            simpa using q4
          refine cl_is fnI122 rfl ?_
          rw [fr_init (by simp [fd122])]
          have e1:(cs.drop o).take (n * 3)=cs.drop o:=List.take_of_length_le (by simp;omega)
          have e2:cs.drop (o + n * 3)=[]:=List.drop_of_length_le (by omega)
          simp [fd122,b122,happ,e1,e2]
        · cases h
      · cases h
    · cases h
  · cases h
theorem ins_grow122 (lim:Nat) (H:Heap) (b o n c i b' o':Nat) (cs new:List AV) (hb:H[b]?=some (.cells true cs)) (hel:elems H 3 (.sl b' o' 1 3)=some (1,new)) (_h0:0 < 3) (hlen:o + n * 3=cs.length) (hi:i < n) (hc:c < n + 1) (hlim:lim≤H.length) (_hbb:b' ≠ b) (hm1:(n + 1) * 32≤most) (hm2:n + 1≤most) (hnew:new.all AV.one=true) (hcs:cs.all AV.one=true) (hnc:n≤c) :
    Cl envI122 122 [.slc b o n c 3,.int .i64 i,.sl b' o' 1 3] lim H (.sl H.length 0 (n + 1) 3) (H++[.cells true ((cs.drop o).take (i * 3)++new++cs.drop (o + i * 3))]):=by
  obtain rfl:c=n:=by omega
  obtain ⟨_,_,hnl⟩:=elems_one122 rfl hel
  refine cl_is fnI122 rfl ?_
  rw [fr_init (by simp [fd122])]
  obtain ⟨r,rfl⟩:∃ r,c=i + r:=⟨c - i,by omega⟩
  obtain ⟨p,hp⟩:∃ p,p=i + r + 1:=⟨_,rfl⟩
  obtain ⟨j,hj⟩:∃ j,j=i + 1:=⟨_,rfl⟩
  obtain ⟨q,hq⟩:∃ q,q=r + 1:=⟨_,rfl⟩
  have hr:0 < r:=by omega
  have hc1:((i:Int) == (i:Int) + r)=false:=by simp;omega
  have hw:IntKind.i64.wrap ((i:Int) + r + 1)=(p:Int):=by rw [wrap_i64] <;> simp [most] at * <;> omega
  have hw2:IntKind.i64.wrap ((p:Int) - i)=(q:Int):=by rw [wrap_i64] <;> simp [most] at * <;> omega
  have hw3:IntKind.i64.wrap ((i:Int) + 1)=(j:Int):=by rw [wrap_i64] <;> simp [most] at * <;> omega
  have g1:(i:Int) + r < p:=by omega
  have g0:¬ r=0:=by omega
  have g4:0 < q:=by omega
  have g5:r < q:=by omega
  have g6:(i:Int) + q≤most:=by omega
  have g7:((i:Int) + q) * 32≤most:=by omega
  have g9:j≤i + q:=by omega
  have g10:i + q - j=r:=by omega
  have g11:0 < i + r:=by omega
  have k1:H.cells? b=some cs:=by simp [Heap.cells?,hb]
  have k2:o + i * 3≤cs.length:=by omega
  have k3:(H++[.cells true ((cs.drop o).take (i * 3)++(List.replicate q [I 0,I 0,.str []]).flatten)])[H.length]?=some (.cells true ((cs.drop o).take (i * 3)++(List.replicate q [I 0,I 0,.str []]).flatten)):=by simp
  have k4:i * 3≤((cs.drop o).take (i * 3)++(List.replicate q [I 0,I 0,.str []]).flatten).length:=by simp;omega
  have k5:new.take 3=new:=List.take_of_length_le (by omega)
  have k6:Nat.min 1 q=1:=by simp [Nat.min_def];omega
  simp [fd122,b122,hi,hw,hw2,hw3,hr,hc1,g0,g1,g4,g5,g6,g7,g9,g10,g11,k1,k2,elems_app hel,copyTo_at k3 hlim g4 hnew k4,k5,k6]
  refine ⟨by omega,?_⟩
  rw [elems_slc (get_app hb) (by omega)]
  have hone:((cs.drop (o + i * 3)).take (r * 3)).all AV.one=true:=by
    rw [List.all_eq_true] at hcs ⊢
    exact fun x hx=>hcs x (List.mem_of_mem_drop (List.mem_of_mem_take hx))
  simp only [Option.bind_some]
  rw [copyTo_at (g:=true) (List.getElem?_concat_length ..) hlim hr hone (by simp;omega)]
  have e1:Nat.min r r=r:=by simp
  simp [e1]
  refine ⟨by omega,?_⟩
  have e2:(List.take (r * 3) (List.drop (o + i * 3) cs))=List.drop (o + i * 3) cs:=List.take_of_length_le (by simp;omega)
  have e3:j * 3=i * 3 + 3:=by omega
  rw [e2,e2,e3]
  exact ins_cells (by simp;omega) (by omega) (by simp;omega) (by simp;omega)
theorem ins_room122 (lim:Nat) (H:Heap) (b o n c i b' o':Nat) (cs new:List AV) (hb:H[b]?=some (.cells true cs)) (hel:elems H 3 (.sl b' o' 1 3)=some (1,new)) (h0:0 < 3) (hlen:o + n * 3=cs.length) (hi:i < n) (hc:n + 1≤c) (hlim:lim≤b) (hbb:b' ≠ b) (hm2:n + 1≤most) (hnew:new.all AV.one=true) (hcs:cs.all AV.one=true) :
    Cl envI122 122 [.slc b o n c 3,.int .i64 i,.sl b' o' 1 3] lim H (.slc b o (n + 1) c 3) (H.set b (.cells true (cs.take (o + i * 3)++new++cs.drop (o + i * 3)))):=by
  obtain ⟨_,_,hnl⟩:=elems_one122 rfl hel
  refine cl_is fnI122 rfl ?_
  rw [fr_init (by simp [fd122])]
  obtain ⟨r,rfl⟩:∃ r,n=i + r:=⟨n - i,by omega⟩
  obtain ⟨p,hp⟩:∃ p,p=i + r + 1:=⟨_,rfl⟩
  obtain ⟨j,hj⟩:∃ j,j=i + 1:=⟨_,rfl⟩
  have hr:0 < r:=by omega
  have hc1:((i:Int) == (i:Int) + r)=false:=by simp;omega
  have hw:IntKind.i64.wrap ((i:Int) + r + 1)=(p:Int):=by rw [wrap_i64] <;> simp [most] at * <;> omega
  have hw3:IntKind.i64.wrap ((i:Int) + 1)=(j:Int):=by rw [wrap_i64] <;> simp [most] at * <;> omega
  have g1:¬ c < p:=by omega
  have g2:p≤c:=by omega
  have g3:i < c:=by omega
  have g4:0 < c:=by omega
  have g5:j≤p:=by omega
  have g6:j < c:=by omega
  have g7:p - j=r:=by omega
  have g8:Nat.min (p - i) r=r:=by simp [Nat.min_def];omega
  have g9:i≤p:=by omega
  have g10:0 < p - i:=by omega
  simp [fd122,b122,hi,hw,hw3,hr,hc1,g1,g2,g3,g4,g5,g6,g7,g8,g9,g10,callee]
  have ho:overlapsG [.sl b' o' 1 3,.slc b (o + j * 3) r (c - j) 3] H=some (.bool false):=by
    have r1:=row1_of hel (by omega)
    have r2:=row1 hb (by omega)
    simp [overlapsG,rowAt,hbb,hr,r1,r2]
  refine WCl.of (cl_ext fnV122 ho) ?_
  have q1:b < H.length:=(List.getElem?_eq_some_iff.1 hb).1
  have q2:lim≤H.length:=by omega
  have hone:((cs.drop (o + i * 3)).take (r * 3)).all AV.one=true:=by
    rw [List.all_eq_true] at hcs ⊢
    exact fun x hx=>hcs x (List.mem_of_mem_drop (List.mem_of_mem_take hx))
  have q3:o + j * 3≤cs.length:=by omega
  have q4:o + i * 3 + r * 3≤cs.length:=by omega
  have q5:Nat.min r r=r:=by simp
  have q6:=elems_slc (n:=r) (c:=c - i) hb q4
  simp [hw3,g6,g5,g9,g3,g7,g8,q2,q5,q6,copyTo_at hb hlim hr hone q3]
  have s1:(cs.drop (o + i * 3)).take (r * 3)=cs.drop (o + i * 3):=List.take_of_length_le (by simp;omega)
  rw [elems_set hbb,hel]
  simp only [Option.bind_some]
  have s2:Nat.min 1 (p - i)=1:=by simp [Nat.min_def];omega
  rw [copyTo_at (List.getElem?_set_self q1) hlim g10 hnew (by simp;omega)]
  have s3:new.take 3=new:=List.take_of_length_le (by omega)
  have s4:o + j * 3=o + i * 3 + 3:=by omega
  simp [s2,s3,s1,s4]
  refine ⟨by omega,?_⟩
  exact congrArg _ (congrArg _ (ins_cells2 (cs:=cs) (new:=new) (src:=cs.drop (o + i * 3)) (a:=o + i * 3) (e:=3) (k:=r * 3) (by omega) (by simp;omega) (by omega) rfl (by omega)))

theorem ins_walk122:InsertWalk envI122 122 3 32:=⟨ins_nil122,ins_last122,ins_grow122,ins_room122⟩
theorem mixed122:Tryz.prog.follows .mixedOrders=true:=by kernel_rfl
theorem over157:ExtOK Tryz.prog 157 overlapsG:=overlaps_ok (fn:=Tryz.f157) (tS:=41) (tR:=4) (e:=117) (size:=3) Tryz.func157 (by kernel_rfl) (by kernel_rfl) (by kernel_rfl) (by kernel_rfl) (by kernel_rfl) (by kernel_rfl)
theorem envI_ok122:EnvOK Tryz.prog envI122:=env_ok mixed122 (.code ok122 (.ext over157 .nil)) .nil
theorem ins_good122:FnGood Tryz.prog 122 (.prim (insertG 3 32)):=⟨⟨Tryz.f122,Tryz.func122,by kernel_rfl,by kernel_rfl⟩,insert_prim envI122 envI_ok122 fnI122 ins_walk122⟩
end Go.Proofs.YtgbnbgkldeifkaaGreatA

/- The rules of a walk, gathered. No statement about the program is proved here. -/
import Derived.Test.YtgbnbgkldeifkaaGreatA31
namespace Go.Proofs.YtgbnbgkldeifkaaGreatA
open Go Go.RowKit
set_option linter.unusedVariables false
attribute [simp] fr_set fr_get fr_getD look enumA aop AX.ev nextP_some optP_some callP_some eitherP_tt eitherP_tf eitherP_ft eitherP_ff eitherP_no resAll resL resOne noTwo len_roL len_nil len_sl len_ro binAV binInt unAV cells_new cells_new0 cells_hd storeAt_new storeAt_new0 storeAt_hd load_ptr load_tp setFrom_all shape_some shape_none faddr_ptr faddr_tp roL_one callee afterP_eq nextD_same nextD_set nextD_new thaw_int thaw_bool thaw_str thaw_nilsl nextD_pre fillAV setFrom valC_len valC_one intC_len val_f0 val_f1 val_f2 val_f01 val_all val_t1 mapO frz_int frz_str frz_bool frz_nilsl frz_roL frz_val frz_vec eqAV eqCell isKey bytesOf maxAll max2 AV.isInt fieldAddrAV idx_nat bnd_nat
@[simp] theorem one_undef:AV.one (.undef)=false:=hard rfl
@[simp] theorem cells_undef:AV.cells (.undef)=[.undef]:=hard rfl
@[simp] theorem one_noval:AV.one (.noval)=false:=hard rfl
@[simp] theorem cells_noval:AV.cells (.noval)=[.noval]:=hard rfl
@[simp] theorem one_bool {b:Bool}:AV.one (.bool b)=true:=hard rfl
@[simp] theorem cells_bool {b:Bool}:AV.cells (.bool b)=[.bool b]:=hard rfl
@[simp] theorem one_int {k:IntKind} {n:Int}:AV.one (.int k n)=true:=hard rfl
@[simp] theorem cells_int {k:IntKind} {n:Int}:AV.cells (.int k n)=[.int k n]:=hard rfl
@[simp] theorem one_str {s:List UInt8}:AV.one (.str s)=true:=hard rfl
@[simp] theorem cells_str {s:List UInt8}:AV.cells (.str s)=[.str s]:=hard rfl
@[simp] theorem one_ptr {p:Option (Nat × Nat)}:AV.one (.ptr p)=true:=hard rfl
@[simp] theorem cells_ptr {p:Option (Nat × Nat)}:AV.cells (.ptr p)=[.ptr p]:=hard rfl
@[simp] theorem one_tp {cs:List AV}:AV.one (.tp cs)=false:=hard rfl
@[simp] theorem cells_tp {cs:List AV}:AV.cells (.tp cs)=[.tp cs]:=hard rfl
@[simp] theorem one_nilsl:AV.one (.nilsl)=true:=hard rfl
@[simp] theorem cells_nilsl:AV.cells (.nilsl)=[.nilsl]:=hard rfl
@[simp] theorem one_sl {b o n es:Nat}:AV.one (.sl b o n es)=true:=hard rfl
@[simp] theorem cells_sl {b o n es:Nat}:AV.cells (.sl b o n es)=[.sl b o n es]:=hard rfl
@[simp] theorem one_slc {b o n c es:Nat}:AV.one (.slc b o n c es)=true:=hard rfl
@[simp] theorem cells_slc {b o n c es:Nat}:AV.cells (.slc b o n c es)=[.slc b o n c es]:=hard rfl
@[simp] theorem one_ro {n:Nat} {cs:List AV}:AV.one (.ro n cs)=true:=hard rfl
@[simp] theorem cells_ro {n:Nat} {cs:List AV}:AV.cells (.ro n cs)=[.ro n cs]:=hard rfl
@[simp] theorem one_ow {es n:Nat} {cs:List AV}:AV.one (.ow es n cs)=false:=hard rfl
@[simp] theorem cells_ow {es n:Nat} {cs:List AV}:AV.cells (.ow es n cs)=[.ow es n cs]:=hard rfl
@[simp] theorem one_mapv {r:Option Nat}:AV.one (.mapv r)=true:=hard rfl
@[simp] theorem cells_mapv {r:Option Nat}:AV.cells (.mapv r)=[.mapv r]:=hard rfl
@[simp] theorem one_fn {f:Fn} {a c:List AV}:AV.one (.fn f a c)=true:=hard rfl
@[simp] theorem cells_fn {f:Fn} {a c:List AV}:AV.cells (.fn f a c)=[.fn f a c]:=hard rfl
@[simp] theorem one_nilfn:AV.one (.nilfn)=true:=hard rfl
@[simp] theorem cells_nilfn:AV.cells (.nilfn)=[.nilfn]:=hard rfl
@[simp] theorem one_iface {t:Nat} {v:AV}:AV.one (.iface t v)=true:=hard rfl
@[simp] theorem cells_iface {t:Nat} {v:AV}:AV.cells (.iface t v)=[.iface t v]:=hard rfl
@[simp] theorem one_niliface:AV.one (.niliface)=true:=hard rfl
@[simp] theorem cells_niliface:AV.cells (.niliface)=[.niliface]:=hard rfl
@[simp] theorem one_agg {cs:List AV}:AV.one (.agg cs)=false:=hard rfl
@[simp] theorem cells_agg {cs:List AV}:AV.cells (.agg cs)=cs:=hard rfl
@[simp] theorem one_tup {vs:List AV}:AV.one (.tup vs)=false:=hard rfl
@[simp] theorem cells_tup {vs:List AV}:AV.cells (.tup vs)=[.tup vs]:=hard rfl
theorem bnd_int {k:IntKind} {x:Int} {d m:Nat} (h1:0≤x) (h2:x≤(m:Int)):bnd (some (.int k x)) d m=some x.toNat:=by
 simp only [bnd,AV.isInt,Option.bind_some]
 rw [if_pos ⟨h1,h2⟩]
theorem idx_int {k:IntKind} {x:Int} {n:Nat} (h1:0≤x) (h2:x < (n:Int)):idx (.int k x) n=some x.toNat:=by
 simp only [idx,AV.isInt,Option.bind_some]
 rw [if_pos ⟨h1,h2⟩]
attribute [simp 10] bnd_int idx_int
@[simp] theorem cutSl_sl {es b o n s:Nat} {l h:Option AV}:cutSl es (.sl b o n s) l h none=if s=es then (bnd h n n).bind fun h=>(bnd l 0 h).bind fun l=>some (.sl b (o + l * es) (h - l) es) else none:=hard rfl
@[simp] theorem cutSl_ro {es n:Nat} {cs:List AV} {l h:Option AV}:cutSl es (.ro n cs) l h none=(bnd h n n).bind fun h=>(bnd l 0 h).bind fun l=>some (.ro (h - l) ((cs.drop (l * es)).take ((h - l) * es))):=hard rfl
@[simp] theorem cutSl_slc {es b o n c s:Nat} {l h:Option AV}:cutSl es (.slc b o n c s) l h none=if s=es then (bnd h n c).bind fun h=>(bnd l 0 h).bind fun l=>if l < c then some (.slc b (o + l * es) (h - l) (c - l) es) else none else none:=hard rfl
@[simp] theorem cutSl_nilsl {es:Nat} {l h:Option AV}:cutSl es .nilsl l h none=(bnd h 0 0).bind fun h=>(bnd l 0 h).bind fun l=>some .nilsl:=hard rfl
@[simp] theorem bnd_none {d m:Nat}:bnd none d m=some d:=hard rfl
@[simp] theorem one_roL {α:Type} {f:α→List AV} {l:List α}:AV.cells (roL f l)=[roL f l]:=hard rfl
@[simp] theorem cut_at {cs:List AV} {o n:Nat} (h:o + n≤cs.length):cut cs o n=some ((cs.drop o).take n):=by
 unfold Go.Proofs.YtgbnbgkldeifkaaGreatA.cut
 rw [if_pos h]
@[simp] theorem str_beq {a b:List UInt8} (h:¬ a=b):(a == b)=false:=by simp [h]
attribute [simp] binStr
@[simp] theorem int_bne {a b:Int} (h:¬ a=b):(a != b)=true:=by simp [h]
@[simp] theorem int_beq {a b:Int} (h:¬ a=b):(a == b)=false:=by simp [h]
theorem max_if {a b:Int}:(if a < b then b else a)=max a b:=by omega
theorem max_if' {k:IntKind} {a b:Int}:(if a < b then AV.int k b else AV.int k a)=.int k (max a b):=by split <;> simp <;> omega
theorem min_if {a b:Int}:(if a < b then a else b)=min a b:=by omega
theorem min_if' {k:IntKind} {a b:Int}:(if a < b then AV.int k a else AV.int k b)=.int k (min a b):=by split <;> simp <;> omega
attribute [simp] max_if max_if' min_if min_if'
@[simp] theorem deep_eq:deep=12:=rfl
@[simp] theorem own_bool' {H:Heap} {d:Nat} {b:Bool}:own H (d + 1) (.bool b)=some (.bool b,[]):=hard rfl
@[simp] theorem own_int' {H:Heap} {d:Nat} {k:IntKind} {n:Int}:own H (d + 1) (.int k n)=some (.int k n,[]):=hard rfl
@[simp] theorem own_str' {H:Heap} {d:Nat} {s:List UInt8}:own H (d + 1) (.str s)=some (.str s,[]):=hard rfl
@[simp] theorem own_nilsl' {H:Heap} {d:Nat}:own H (d + 1) .nilsl=some (.nilsl,[]):=hard rfl
@[simp] theorem own_agg {H:Heap} {d:Nat} {cs:List AV}:own H (d + 1) (.agg cs)=(ownL (own H d) cs).map fun p=>(.agg p.1,p.2):=hard rfl
@[simp] theorem own_tup {H:Heap} {d:Nat} {cs:List AV}:own H (d + 1) (.tup cs)=(ownL (own H d) cs).map fun p=>(.tup p.1,p.2):=hard rfl
@[simp] theorem ownL_nil {g:AV→Option (AV × List Nat)}:ownL g []=some ([],[]):=hard rfl
@[simp] theorem ownL_cons {g:AV→Option (AV × List Nat)} {v:AV} {vs:List AV}:ownL g (v :: vs)=(g v).bind fun p=>(ownL g vs).map fun q=>(p.1 :: q.1,p.2++q.2):=hard rfl
@[simp] theorem frz_agg' {H:Heap} {d:Nat} {cs:List AV}:frz H (d + 1) (.agg cs)=(mapO (frz H d) cs).map .agg:=hard rfl
@[simp] theorem frz_nilfn {H:Heap} {d:Nat} {f:Fn}:frz H (d + 1) (.fn f [] [])=some (.fn f [] []):=hard rfl
@[simp] theorem thaw_agg {cs:List AV} {H:Heap}:thaw (.agg cs) H=(.agg (thaws cs H).1,(thaws cs H).2):=by rw [thaw]
@[simp] theorem thaw_tup {cs:List AV} {H:Heap}:thaw (.tup cs) H=(.tup (thaws cs H).1,(thaws cs H).2):=by rw [thaw]
@[simp] theorem thaws_nil {H:Heap}:thaws [] H=([],H):=by rw [thaws]
@[simp] theorem thaws_cons {v:AV} {vs:List AV} {H:Heap}:thaws (v :: vs) H=((thaw v H).1 :: (thaws vs (thaw v H).2).1,(thaws vs (thaw v H).2).2):=by rw [thaws]
@[simp] theorem cells_tls {x:ABlk} {X:Heap} {k:Nat}:Heap.cells? (x :: X) (k + 1)=Heap.cells? X k:=cells_tl
@[simp] theorem storeAt_tls {n o k:Nat} {x:ABlk} {X:Heap} {v:AV}:storeAt 0 (x :: X) n (.ptr (some (k + 1,o))) v=(storeAt 0 X n (.ptr (some (k,o))) v).map (x :: ·):=storeAt_tl
def Pre (H H2:Heap):Prop:=∃ Y,H2=H++Y
@[simp] theorem Pre.nil {Y:Heap}:Pre [] Y:=⟨Y,rfl⟩
@[simp] theorem Pre.refl {X:Heap}:Pre X X:=⟨[],by simp⟩
@[simp] theorem Pre.app {X Y:Heap}:Pre X (X++Y):=⟨Y,rfl⟩
@[simp] theorem Pre.app2 {X Y Z:Heap}:Pre (X++Y) (X++Z)=Pre Y Z:=by
 simp [Pre]
@[simp] theorem Pre.cons {a:ABlk} {X Y:Heap}:Pre (a :: X) (a :: Y)=Pre X Y:=by
 simp [Pre]
@[simp] theorem nextD_pres {s:Bool} {v:AV} {H H2:Heap} {T:Tmps} {dst:Option Nat} {next:Tmps→Heap→Prop} (h:Pre H H2):nextD s (some (v,H2)) T H dst next=next (putT T dst v) H2:=by
 obtain ⟨Y,rfl⟩:=h
 exact nextD_new
@[simp] theorem nextD_len {v:AV} {H H2:Heap} {T:Tmps} {dst:Option Nat} {next:Tmps→Heap→Prop} (h:H.length≤H2.length):nextD true (some (v,H2)) T H dst next=next (putT T dst v) H2:=by
 simp [nextD,h]
def Nxt (live:List Nat) (J:Nat→List AV→Heap→Prop) (n m:Nat) (T:Tmps) (H:Heap):Prop:=∃ m' vs',m' < m∧J m' vs' H∧vs'.length=live.length∧∃ b',T=fr n b' (live.zip vs')
theorem zip_map {live:List Nat} {g:Nat→AV}:live.zip (live.map g)=live.map fun d=>(d,g d):=by
 induction live with
 | nil=>rfl
 | cons a l ih=>simp [ih]
theorem nxt {live:List Nat} {I J:Nat→List AV→Heap→Prop} {n m:Nat} {b:Nat→AV} {l:List (Nat × AV)} {H:Heap} (h:J=I) (m':Nat) (hm:m' < m) (hI:I m' (live.map fun d=>(look l d).getD (b d)) H):Nxt live J n m (fr n b l) H:=by
 subst h
 refine ⟨m',_,hm,hI,by simp,fun t=>(look l t).getD (b t),?_⟩
 rw [zip_map]
 exact fr_pick live
theorem loop_go {E:AEnv} {lim n:Nat} {ts:List Nat} {c:AC} {K:AExit→Tmps→Heap→Prop} (live:List Nat) (hl:(live.all fun d=>!ts.contains d)=true) (I:Nat→List AV→Heap→Prop)
 (step:∀ (J:Nat→List AV→Heap→Prop),J=I→∀ (m:Nat) (vs:List AV) (H:Heap) (b:Nat→AV),I m vs H→wC E lim c (andThen (Nxt live J n m) K) (fr n b (live.zip vs)) H)
 {b:Nat→AV} {l:List (Nat × AV)} {H:Heap} (m:Nat) (h0:I m (live.map fun d=>(look l d).getD (b d)) H):Wp E (.loop (.seq (.kill ts) c)) lim (fr n b l) H K :=
 loop_fr live hl I (fun m vs H b _ h=>step I rfl m vs H b h) ⟨m,_,h0,by simp,fun t=>(look l t).getD (b t),by rw [zip_map];exact fr_pick live⟩
@[simp] theorem len_slc {b o n c es:Nat}:lenSlAV (.slc b o n c es)=some (.int .i64 n):=hard rfl
@[simp] theorem srcOf_sl {m b o n es:Nat}:srcOf m (.sl b o n es)=.sl b o n es:=hard rfl
@[simp] theorem srcOf_slc {m b o n c es:Nat}:srcOf m (.slc b o n c es)=.slc b o (Nat.min n m) c es:=hard rfl
@[simp] theorem dstLen_sl {b o n es:Nat}:dstLen (.sl b o n es)=n:=hard rfl
@[simp] theorem dstLen_slc {b o n c es:Nat}:dstLen (.slc b o n c es)=n:=hard rfl
theorem copyTo_at {lim:Nat} {H:Heap} {g:Bool} {cs src:List AV} {es b o n m:Nat} (hb:H[b]?=some (.cells g cs)) (h1:lim≤b) (h2:0 < n) (h3:src.all AV.one=true) (h4:o≤cs.length) :
 copyTo lim H es b o es n m src=some (.int .i64 (Nat.min m n),H.set b (.cells g (cs.take o++src.take (Nat.min m n * es)++cs.drop (o + Nat.min m n * es)))):=by
 unfold copyTo
 rw [if_pos ⟨rfl,h1,h2,h3⟩]
 simp only [hb,h4,if_true]
theorem elems_app {H X:Heap} {es m:Nat} {v:AV} {cs:List AV} (h:elems H es v=some (m,cs)):elems (H++X) es v=some (m,cs):=by
 cases v <;> simp only [elems] at h ⊢ <;> try (exact h)
 all_goals
  split at h
  · rename_i q
    rw [if_pos q]
    simp only [Option.bind_eq_some_iff] at h ⊢
    obtain ⟨c,h1,h2⟩:=h
    exact ⟨c,cells_app h1,h2⟩
  · cases h
theorem elems_slc {H:Heap} {g:Bool} {cs:List AV} {es b o n c:Nat} (hb:H[b]?=some (.cells g cs)) (h:o + n * es≤cs.length):elems H es (.slc b o n c es)=some (n,(cs.drop o).take (n * es)):=by
 simp only [elems,if_true,Heap.cells?,hb,Option.bind_some]
 unfold Go.Proofs.YtgbnbgkldeifkaaGreatA.cut
 rw [if_pos h]
 rfl
theorem cl_ext {E:AEnv} {f:Nat} {g:List AV→Heap→Option AV} {as:List AV} {lim:Nat} {H:Heap} {r:AV} (hf:E.fn f=some (.ext g)) (h:g as H=some r):Cl E f as lim H r H:=⟨0,by unfold callF;rw [hf];simp [h]⟩
theorem cl_prim {E:AEnv} {f:Nat} {g:List AV→Nat→Heap→Option (AV × Heap)} {as:List AV} {lim:Nat} {H H':Heap} {r:AV} (hf:E.fn f=some (.prim g)) (h:g as lim H=some (r,H')):Cl E f as lim H r H':=⟨0,by unfold callF;rw [hf];simp [h]⟩
theorem row1 {H:Heap} {g:Bool} {cs:List AV} {b:Nat} (h:H[b]?=some (.cells g cs)) (hl:0 < cs.length):isRow1 H b=true:=by
 unfold isRow1
 rw [h]
 cases cs with
 | nil=>simp at hl
 | cons a l=>rfl
theorem row1_of {H:Heap} {es b o n:Nat} {cs:List AV} (h:elems H es (.sl b o n es)=some (n,cs)) (hl:0 < n * es):isRow1 H b=true:=by
 simp only [elems,if_true,Option.bind_eq_some_iff,Option.map_eq_some_iff] at h
 obtain ⟨c,h1,c2,h2,_⟩:=h
 unfold Heap.cells? at h1
 split at h1
 · rename_i e
   cases h1
   refine row1 e ?_
   unfold Go.Proofs.YtgbnbgkldeifkaaGreatA.cut at h2
   split at h2
   · omega
   · cases h2
 · cases h1
theorem elems_set {H:Heap} {es b b' o n m:Nat} {x:ABlk} (h:b' ≠ b):elems (H.set b x) es (.sl b' o n m)=elems H es (.sl b' o n m):=by
 simp only [elems,Heap.cells?,List.getElem?_set_ne (Ne.symm h)]
theorem ins_cells2 {cs new src:List AV} {a e k:Nat} (h2:new.length=e) (h3:src.length=k) (h4:cs.length=a + k) (h5:src=cs.drop a) (h6:e≤k) :
 (cs.take (a + e)++(src++cs.drop (a + e + k))).take a++(new++(cs.take (a + e)++(src++cs.drop (a + e + k))).drop (a + e))=cs.take a++(new++src):=by
 have e1:cs.drop (a + e + k)=[]:=List.drop_of_length_le (by omega)
 have e2:(cs.take (a + e)).length=a + e:=by simp;omega
 rw [e1,List.append_nil,List.take_append_of_le_length (by omega),List.take_take,Nat.min_eq_left (by omega),List.drop_left' e2]
theorem ins_cells {old new Z src:List AV} {a e k:Nat} (h1:old.length=a) (h2:new.length=e) (h3:src.length=k) (h4:Z.length=e + k) :
 ((old++Z).take a++(new++(old++Z).drop (a + e))).take (a + e)++(src++((old++Z).take a++(new++(old++Z).drop (a + e))).drop (a + e + k))=old++(new++src):=by
 subst h1 h2 h3
 have e1:(old++Z).take old.length=old:=List.take_left
 rw [e1,← List.append_assoc old new,List.take_left' (by simp),List.drop_of_length_le (by simp;omega),List.append_nil,List.append_assoc]
theorem flat_cut {α:Type} {f:α→List AV} {l:List α} {i es o n:Nat} (hl:∀ x,(f x).length=es) (hi:i < l.length) (h:o + n≤es):cut ((l.flatMap f).drop (i * es)) o n=cut (f l[i]) o n:=by
 have e:=flatMap_cut hl l i hi
 have q:i * es + es≤l.length * es:=by
  have:=Nat.mul_le_mul_right es (show i + 1≤l.length from hi)
  rwa [Nat.succ_mul] at this
 have e2:f l[i]=((l.flatMap f).drop (i * es)).take es:=by
  rw [cut_at (by rw [List.length_drop,flatMap_len hl];omega)] at e
  simpa using (Option.some.inj e).symm
 have hx:(f l[i]).length=es:=hl _
 rw [cut_at (by rw [List.length_drop,flatMap_len hl];omega),cut_at (by omega),e2,List.drop_take,List.take_take,Nat.min_eq_left (by omega)]
deriving instance DecidableEq for Val
def upd (k:Nat→Int) (i:Nat) (x:Int):Nat→Int:=fun j=>if j=i then x else k j
@[simp] theorem vec_len {k:Nat→Int}:(vecC k).length=8:=hard rfl
@[simp] theorem vec_one {k:Nat→Int}:(vecC k).all AV.one=true:=hard rfl
@[simp] theorem vec_one' {k:Nat→Int}:(∀ x:AV,x ∈ vecC k→x.one=true)=True:=by simp [vecC]
@[simp] theorem vec_take {k:Nat→Int}:(vecC k).take 8=vecC k:=hard rfl
theorem vec_get {k:Nat→Int} {i:Nat} (h:i < 8):((vecC k).drop i).take 1=[I (k i)]:=by
 match i,h with
 | 0,_=>rfl | 1,_=>rfl | 2,_=>rfl | 3,_=>rfl | 4,_=>rfl | 5,_=>rfl | 6,_=>rfl | 7,_=>rfl
theorem vec_set {k:Nat→Int} {i:Nat} {x:Int} (h:i < 8):(vecC k).set i (I x)=vecC (upd k i x):=by
 match i,h with
 | 0,_=>rfl | 1,_=>rfl | 2,_=>rfl | 3,_=>rfl | 4,_=>rfl | 5,_=>rfl | 6,_=>rfl | 7,_=>rfl
@[simp high] theorem vec_cut {k:Nat→Int} {i:Nat} (h:i < 8):cut (vecC k) i 1=some [I (k i)]:=by
 rw [cut_at (by simp;omega),vec_get h]
attribute [simp] vec_set
theorem vec_ext {a b:Nat→Int} (h:∀ i,i < 8→a i=b i):vecC a=vecC b:=by
 simp only [vecC,h 0 (by omega),h 1 (by omega),h 2 (by omega),h 3 (by omega),h 4 (by omega),h 5 (by omega),h 6 (by omega),h 7 (by omega)]
@[simp] theorem vec_own {H:Heap} {d:Nat} {k:Nat→Int}:ownL (own H (d + 1)) (vecC k)=some (vecC k,[]):=hard rfl
@[simp] theorem vec_thaws {H:Heap} {k:Nat→Int}:thaws (vecC k) H=(vecC k,H):=by simp [vecC]
@[simp] theorem vec_fill {k:Nat→Int}:setFrom [I 0,I 0,I 0,I 0,I 0,I 0,I 0,I 0] 0 (vecC k)=vecC k:=hard rfl
def zeroV:Nat→Int:=fun _=>0
theorem vec_zero:[I 0,I 0,I 0,I 0,I 0,I 0,I 0,I 0]=vecC zeroV:=hard rfl
@[simp] theorem vec_over {k m:Nat→Int}:setFrom (vecC k) 0 (vecC m)=vecC m:=hard rfl
def vecEq (a b:Nat→Int):Bool:=(List.range 8).all fun i=>a i == b i
@[simp] theorem vec_eq {a b:Nat→Int}:eqRow [.i,.i,.i,.i,.i,.i,.i,.i] (vecC a) (vecC b)=some (vecEq a b):=by
 simp only [eqRow,vecC,eqCell,if_true,Option.bind_some,vecEq,List.range,List.range.loop,List.all_cons,List.all_nil,Bool.and_true]
 by_cases h0:a 0=b 0 <;> simp [h0]
 by_cases h1:a 1=b 1 <;> simp [h1]
 by_cases h2:a 2=b 2 <;> simp [h2]
 by_cases h3:a 3=b 3 <;> simp [h3]
 by_cases h4:a 4=b 4 <;> simp [h4]
 by_cases h5:a 5=b 5 <;> simp [h5]
 by_cases h6:a 6=b 6 <;> simp [h6]
 by_cases h7:a 7=b 7 <;> simp [h7]
@[simp] theorem val_eq {a b:Val}:eqRow [.i,.i,.s] (valC a) (valC b)=some (decide (a=b)):=by
 obtain ⟨a0,a1,a2⟩:=a
 obtain ⟨b0,b1,b2⟩:=b
 simp only [eqRow,valC,eqCell,if_true,Option.bind_some,Val.mk.injEq]
 by_cases h0:a0=b0 <;> simp [h0]
 by_cases h1:a1=b1 <;> simp [h1]
 by_cases h2:a2=b2 <;> simp [h2]
@[simp] theorem val_own {H:Heap} {d:Nat} {v:Val}:ownL (own H (d + 1)) (valC v)=some (valC v,[]):=hard rfl
@[simp] theorem val_thaws {H:Heap} {v:Val}:thaws (valC v) H=(valC v,H):=by simp [valC]
@[simp] theorem val_fill {v:Val} {a b c:AV}:setFrom [a,b,c] 0 (valC v)=valC v:=hard rfl
theorem val_flat:Flat valC:=fun _ _ _=>frz_val _
theorem val_plain:Plain valC:=fun _ _ _=>val_own
theorem val_still:Still valC:=fun _ _=>val_thaws
def bagV (k:Nat→Int) (r:AV):List AV:=vecC k++[r]
theorem bagC_eq (b:Bag):bagC b=bagV b.known (roL valC b.vals):=hard rfl
attribute [simp] bagC_eq
section
variable {k m:Nat→Int} {r q:AV} {H:Heap} {d:Nat}
@[simp] theorem bagV_len:(bagV k r).length=9:=hard rfl
@[simp] theorem bagV_one:(bagV k r).all AV.one=AV.one r:=by simp [bagV]
@[simp] theorem bagV_take:(bagV k r).take 9=bagV k r:=hard rfl
@[simp] theorem bagV_f0:(bagV k r).take 8=vecC k:=hard rfl
@[simp] theorem bagV_f8:((bagV k r).drop 8).take 1=[r]:=hard rfl
@[simp] theorem bagV_frz:mapO (frz H (d + 1)) (bagV k r)=(frz H (d + 1) r).map (bagV k):=by
 unfold bagV
 cases e:frz H (d + 1) r with
 | none=>simp [vecC,e]
 | some r'=>simp only [Option.map_some];exact mapO_app (frz_vec k) (by simp [e])
@[simp] theorem bagV_own:ownL (own H (d + 1)) (bagV k r)=(own H (d + 1) r).map fun p=>(bagV k p.1,p.2):=by
 unfold bagV
 cases e:own H (d + 1) r with
 | none=>simp [vecC,e]
 | some p=>simp [vecC,e]
@[simp] theorem bagV_thaws:thaws (bagV k r) H=(bagV k (thaw r H).1,(thaw r H).2):=by simp [bagV,vecC]
@[simp] theorem bagV_set8:(bagV k r).set 8 q=bagV k q:=hard rfl
@[simp] theorem bagV_over:setFrom (bagV m q) 0 (bagV k r)=bagV k r:=hard rfl
@[simp] theorem bagV_fill0:setFrom (bagV m q) 0 (vecC k)=bagV k q:=hard rfl
theorem bagV_zero:[I 0,I 0,I 0,I 0,I 0,I 0,I 0,I 0,r]=bagV zeroV r:=hard rfl
end
end Go.Proofs.YtgbnbgkldeifkaaGreatA

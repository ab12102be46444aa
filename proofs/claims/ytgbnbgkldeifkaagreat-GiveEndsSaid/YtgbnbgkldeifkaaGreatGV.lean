/- A giver: again at an empty pile, over, Ended, Wrote. No statement about the program is proved here. -/
import Derived.Test.YtgbnbgkldeifkaaGreatGU
namespace Go.Proofs.YtgbnbgkldeifkaaGreatA
open Go
set_option linter.unusedSimpArgs false
set_option linter.unusedVariables false
set_option maxRecDepth 1000000
section
variable {H:Heap} {gb b cb:Nat} {g:Giv} {v:AV} {l:List OutM} {R:List AV}
theorem c203n (H:Heap):WCl envE 203 [.nilsl,I 0,I 0,.fn (.func 145) [] []] 0 H fun r H'=>r=.tup []∧H'=H:=by
 refine cl_of e203 rfl ?_
 rw [fr_init (by simp [fd203])]
 simp [fd203,b203]
 refine loop_go [0,1,2,3,8] rfl (fun m vs H'=>H'=H∧vs=[.nilsl,I 0,I 0,.fn (.func 145) [] [],I 1]) ?_ 0 ⟨rfl,rfl⟩
 rintro J hJ m vs H' f ⟨rfl,rfl⟩
 simp [lp203_0]
theorem c144n (H:Heap):WCl envE 144 [.nilsl,.fn (.func 145) [] []] 0 H fun r H'=>r=.tup []∧H'=H:=by
 refine cl_of e144 rfl ?_
 obtain ⟨k,hk⟩:=c130 0 (by omega)
 have hwu:IntKind.u64.wrap (0:Int)=0:=by decide
 have k130:∀ (H':Heap) (K':AV→Heap→Prop),wPu envE 130 (some [.int .u64 0]) H' K'=K' (I k) H':=fun H' K'=>(wPu_eq (H:=H') (K:=K') hk).trans (by simp)
 have h175:WCl envE 175 [.nilsl,I 0,I 0,I k,.fn (.func 145) [] []] 0 H fun r H'=>r=.tup []∧H'=H:=by
  refine cl_of e175 rfl ?_
  rw [fr_init (by simp [fd175])]
  simp [fd175,b175]
  refine loop_go [0,1,2,3,4,10,11] rfl (fun m vs H'=>H'=H∧vs=[.nilsl,I 0,I 0,I k,.fn (.func 145) [] [],.bool true,.bool true]) ?_ 0 ⟨rfl,rfl⟩
  rintro J hJ m vs H' f ⟨rfl,rfl⟩
  have hw0:IntKind.i64.wrap (0:Int)=0:=by decide
  simp [lp175_0,hw0]
  refine WCl.mono (c203n H') ?_
  rintro _ H2 ⟨rfl,rfl⟩
  simp
 rw [fr_init (by simp [fd144])]
 simp [fd144,b144,hwu,k130]
 refine WCl.mono h175 ?_
 rintro _ H2 ⟨rfl,rfl⟩
 simp
theorem c98n (h:H[gb]?=some (givB g cb .nilsl)):WCl envE 98 [.ptr (some (gb,0))] 0 H fun r H'=>r=.nilsl∧H'=H:=by
 refine cl_of e98 rfl ?_
 have hld:=giv_load h
 rw [fr_init (by simp [fd98])]
 simp [fd98,b98,hld,-load_ptr]
 refine WCl.mono (c144n H) ?_
 rintro _ H9 ⟨rfl,e⟩
 obtain rfl:=e.symm
 simp [hld,-load_ptr]
 refine loop_go [0,3,4,18,19] rfl (fun m vs H'=>H'=H∧vs=[.ptr (some (gb,0)),.nilsl,.fn (.func 99) [.ptr (some (gb,0))] [],I 0,I 0]) ?_ 0 ⟨rfl,rfl⟩
 rintro J hJ m vs H' f ⟨rfl,rfl⟩
 simp [lp98_0]
variable {part:Int} {due:List (List UInt8)} {last:List UInt8} {cv:AV}
variable {p lb mi:Nat} {s:VSt} {w q:AV} {es:List (AV × AV × Nat)} {ck:Nat}
def doneB (l:List OutM) (K due:List (List UInt8)) (last:List UInt8):Bool:=decide (l=[]) && overF K due last
theorem c100 (h:OPileV H gb g cb l v) (hv:Vlt H p lb mi s w q es ck) (few:s.bags.length < 1000000000) (hp:0≤g.part) (hc:CurM H cb g.part due last cv) (lim:Nat) (hl:lim≤H.length) :
 WCl envE 100 [.ptr (some (gb,0)),.ptr (some (p,0))] lim H fun r H'=>r=.bool (doneB l (keysS s g.part) due last)∧∃ X,H'=H++X:=by
 refine cl_of e100 rfl ?_
 have hld:=giv_load h.box
 have hb:=cells_of h.box
 have hcb:loadAt H none (.ptr (some (gb,4)))=some (.ptr (some (cb,0))):=by
  simp only [loadAt,hb,Option.bind_some,Option.getD_none]
  rfl
 have hlen:=giv_len h
 rw [fr_init (by simp [fd100])]
 by_cases e:l=[]
 · subst e
   simp [fd100,b100,hld,hlen,hcb,-load_ptr]
   refine WCl.mono (c32 hv few hp hc lim hl) ?_
   rintro _ _ ⟨rfl,X,rfl⟩
   simp [doneB]
 · have e2:¬ l.length=0:=fun q=>e (List.eq_nil_of_length_eq_zero q)
   simp [fd100,b100,hld,hlen,hcb,e2,doneB,e,-load_ptr]
theorem c51 {k a b seq pt ep:Int} {key:List UInt8} {kn:Nat→Int} {r:AV} (h:OPileV H gb g cb l v) (hv:Vlt H p lb mi s w q es ck) (few:s.bags.length < 1000000000) (hp:0≤g.part) (hc:CurM H cb g.part due last cv) (hr:AV.one r=true) :
 WCl envE 51 [.ptr (some (gb,0)),.agg (msgG k a b seq pt ep key kn r),.ptr (some (p,0))] 0 H fun x H'=>x=.bool (ofB g k a b pt ep 8 && g.ends && doneB l (keysS s g.part) due last)∧∃ X,H'=H++X:=by
 refine cl_of e51 rfl ?_
 have hone:(∀ x:AV,x ∈ msgG k a b seq pt ep key kn r→x.one=true)=True:=eq_true (List.all_eq_true.1 (msgG_one hr))
 obtain ⟨H1,hH1⟩:∃ H1,H1=H++[ABlk.cells false (msgG k a b seq pt ep key kn r)]:=⟨_,rfl⟩
 have hm:H1[H.length]?=some (.cells false (msgG k a b seq pt ep key kn r)):=by rw [hH1];simp
 have hld:loadAt H1 (some 62) (.ptr (some (H.length,0)))=some (.agg (msgG k a b seq pt ep key kn r)):=by
  have:cut (msgG k a b seq pt ep key kn r) 0 62=some (msgG k a b seq pt ep key kn r):=hard rfl
  simp only [loadAt,cells_of hm,Option.bind_some,Option.getD_some,this,shapeOf]
 have h1:OPileV H1 gb g cb l v:=by rw [hH1];exact h.app
 have k103:=fun K=>WCl_eq (K:=K) (c103 (k:=k) (a:=a) (b:=b) (seq:=seq) (part:=pt) (ep:=ep) (key:=key) (kn:=kn) h1.box hr 8 0 (Nat.zero_le _))
 obtain ⟨H2,hH2⟩:∃ H2,H2=H1++[ABlk.cells false (msgG k a b seq pt ep key kn r)]:=⟨_,rfl⟩
 have e2:H2=H++[ABlk.cells false (msgG k a b seq pt ep key kn r),ABlk.cells false (msgG k a b seq pt ep key kn r)]:=by rw [hH2,hH1];simp
 have h2:OPileV H2 gb g cb l v:=by rw [e2];exact h.app
 have hv2:Vlt H2 p lb mi s w q es ck:=by rw [e2];exact hv.app
 have hc2:CurM H2 cb g.part due last cv:=by rw [e2];exact hc.app
 have hbe:loadAt H2 none (.ptr (some (gb,8)))=some (.bool g.ends):=by
  simp only [loadAt,cells_of h2.box,Option.bind_some,Option.getD_none]
  rfl
 rw [fr_init (by simp [fd51])]
 cases hof:ofB g k a b pt ep 8 with
 | false =>
  rw [hof] at k103
  simp [fd51,b51,hone,← hH1,hld,k103,← hH2,-load_ptr]
  exact ⟨_,e2⟩
 | true =>
  rw [hof] at k103
  cases he:g.ends with
  | false =>
   rw [he] at hbe
   simp [fd51,b51,hone,← hH1,hld,k103,← hH2,hbe,-load_ptr]
   exact ⟨_,e2⟩
  | true =>
   rw [he] at hbe
   simp [fd51,b51,hone,← hH1,hld,k103,← hH2,hbe,-load_ptr]
   refine WCl.mono (c100 h2 hv2 few hp hc2 0 (Nat.zero_le _)) ?_
   rintro _ _ ⟨rfl,X,rfl⟩
   simp
   exact ⟨_,by rw [e2,List.append_assoc]⟩
end
end Go.Proofs.YtgbnbgkldeifkaaGreatA

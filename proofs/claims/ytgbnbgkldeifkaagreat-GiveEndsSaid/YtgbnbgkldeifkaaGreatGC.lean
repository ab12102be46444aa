/- What is told while there is something to tell; puts that know nothing. No statement about the program is proved here. -/
import Derived.Test.YtgbnbgkldeifkaaGreatGB
import Derived.Test.YtgbnbgkldeifkaaGreatFT
namespace Go.Proofs.YtgbnbgkldeifkaaGreatA
open Go
set_option linter.unusedSimpArgs false
set_option linter.unusedVariables false
set_option maxRecDepth 1000000
theorem nextF_suffix {K:List (List UInt8)}:∀ {D:List (List UInt8)} {L:List UInt8},(nextF K D L).2.1 <:+ D
 | [],L=>by simp [nextF]
 | d :: ds,L=>by
  unfold nextF
  split
  · exact List.suffix_cons d ds
  · exact (nextF_suffix (D:=ds)).trans (List.suffix_cons d ds)
theorem tells_told {K:List (List UInt8)} {bag:List UInt8→Bag} (hK:Strict K):∀ (n:Nat) {D:List (List UInt8)} {L:List UInt8} {M:List (List UInt8 × Bag)},Told K D L M bag→Strict D →
 ∃ M',Told K (tellsF K n D L).2.1 (tellsF K n D L).2.2 M' bag∧Strict (tellsF K n D L).2.1∧remF K (tellsF K n D L).2.1 (tellsF K n D L).2.2 + (tellsF K n D L).1.length=remF K D L∧(tellsF K n D L).1.length≤n∧(∀ k ∈ (tellsF K n D L).1,k ∈ K)∧((tellsF K n D L).1.length=n∨((tellsF K n D L).2.1=[]∧aheadF K (tellsF K n D L).2.2=none))∧(tellsF K n D L).2.1.length≤D.length
 | 0,D,L,M,h,hD=>⟨M,h,hD,by simp [tellsF],by simp [tellsF],by simp [tellsF],.inl rfl,by simp [tellsF]⟩
 | n + 1,D,L,M,h,hD=>by
  rcases h.next hD hK with ⟨k,D',L',hn,hk,h',hr,hl⟩ | ⟨hn,hD0,ha⟩
  · have hD':Strict D':=by
     have:=nextF_suffix (K:=K) (D:=D) (L:=L)
     rw [hn] at this
     exact hD.sublist this.sublist
    obtain ⟨M',a1,a2,a3,a4,a5,a6,a7⟩:=tells_told hK n h' hD'
    have e1:(tellsF K (n + 1) D L).1=k :: (tellsF K n D' L').1:=by simp [tellsF,hn]
    have e2:(tellsF K (n + 1) D L).2=(tellsF K n D' L').2:=by simp [tellsF,hn]
    rw [e1,e2]
    refine ⟨M',a1,a2,by simp only [List.length_cons];omega,by simp only [List.length_cons];omega,fun x hx=>?_,?_,by omega⟩
    · rcases List.mem_cons.1 hx with rfl | q
      · exact hk
      · exact a5 x q
    · rcases a6 with q | q
      · exact .inl (by simp only [List.length_cons];omega)
      · exact .inr q
  · have e:tellsF K (n + 1) D L=([],[],L):=by simp [tellsF,hn]
    rw [e]
    subst hD0
    exact ⟨M,h,hD,by simp,by simp,by simp,.inr ⟨rfl,ha⟩,by simp⟩
theorem ahead_none {K:List (List UInt8)} {L:List UInt8}:aheadF K L=none ↔ ∀ k ∈ K,strLess L k=false:=by
 unfold aheadF
 rw [List.find?_eq_none]
 exact ⟨fun h k hk=>by have:=h k hk;simpa using this,fun h k hk=>by rw [h k hk];simp⟩
theorem rem_zero {K D:List (List UInt8)} {L:List UInt8}:remF K D L=0 ↔ D=[]∧aheadF K L=none:=by
 unfold remF
 rw [ahead_none]
 constructor
 · intro h
   refine ⟨List.eq_nil_of_length_eq_zero (by omega),fun k hk=>?_⟩
   have:(K.filter fun k=>strLess L k)=[]:=List.eq_nil_of_length_eq_zero (by omega)
   rw [List.filter_eq_nil_iff] at this
   have:=this k hk
   simpa using this
 · rintro ⟨rfl,h⟩
   have:(K.filter fun k=>strLess L k)=[]:=List.filter_eq_nil_iff.2 fun k hk=>by rw [h k hk];simp
   rw [this]
   rfl
theorem told_fresh {K:List (List UInt8)} {bag:List UInt8→Bag} (hn:∀ k ∈ K,k ≠ []):Told K [] [] [] bag:=by
 refine ⟨by simp,fun k hk hl=>?_,by simp⟩
 cases k with
 | nil=>exact absurd rfl (hn [] hk)
 | cons a k=>cases hl
theorem done_nil {K D:List (List UInt8)} {L:List UInt8} (h:remF K D L=0):doneB ([]:List OutM) K D L=true:=by
 obtain ⟨rfl,h2⟩:=rem_zero.1 h
 simp [doneB,overF,h2]
theorem done_not {K D:List (List UInt8)} {L:List UInt8} {l:List OutM} (h:l ≠ []):doneB l K D L=false:=by simp [doneB,h]
structure Puts (s:VSt) (i:Nat) (room:Int):Prop where
 ok:VOk s
 bags:s.bags.length≤i
 dots:s.dots≤i
 ds:s.ds.length≤i
 room:s.room=room
 bag:∀ k,bagMay (bagOf s k).known (bagOf s k).vals=true∧(∀ c,s.dots < c→has (bagOf s k).known 0 c=false)∧(bagOf s k).vals.length≤i
theorem bagMay_zero:bagMay zeroV []=true:=by kernel_rfl
theorem puts_empty {room:Int} (h0:0≤room) (h1:room≤3000):Puts (emptyS room) 0 room :=
 ⟨empty_ok h0 h1,Nat.le_refl _,Int.le_refl _,Nat.le_refl _,rfl,fun k=>⟨bagMay_zero,fun c hc=>by
  show has zeroV 0 c=false
  have hc:(0:Int) < c:=hc
  have:zeroV 0=0:=rfl
  have h2:¬ c≤0:=by omega
  simp [has,nodeOk,this,h2],Nat.le_refl _⟩⟩
theorem vecMay_zero:vecMay zeroV=true:=by kernel_rfl
theorem addK_mem {ks:List (List UInt8)} {key x:List UInt8}:x ∈ addK ks key ↔ x ∈ ks∨x=key:=by
 unfold addK
 split
 · rename_i h
   exact ⟨.inl,fun q=>q.elim id fun e=>by rw [e];exact h⟩
 · simp
theorem addK_len {ks:List (List UInt8)} {key:List UInt8}:(addK ks key).length≤ks.length + 1:=by
 unfold addK
 split <;> simp
theorem Puts.step {s:VSt} {i:Nat} {room:Int} (h:Puts s i room) (hi:i < 31) (hr:(i:Int) < room) {key data:List UInt8} (hk:keyOk key=true) (hd:data.length≤64) :
 ∃ s',putO s 0 key zeroV data=⟨0,s.dots + 1,0,s'⟩∧Puts s' (i + 1) room∧(∀ x,x ∈ s'.bags.map Prod.fst ↔ x ∈ s.bags.map Prod.fst∨x=key):=by
 obtain ⟨b1,b2,b3⟩:=h.bag key
 have hdots:=h.dots
 have hds:=h.ds
 have hbl:=h.bags
 have h0:=h.ok.d0
 have hm:putMay (bagOf s key).known (bagOf s key).vals zeroV 0 (s.dots + 1) data=true:=by
  have h2:=b2 (s.dots + 1) (by omega)
  have h3:(1:Int)≤s.dots + 1:=by omega
  have h4:s.dots + 1≤1000000:=by omega
  simp [putMay,b1,vecMay_zero,dotOk,nodeOk,h2,h3,h4,hd]
 have hlen:(putL (bagOf s key).vals zeroV 0 (s.dots + 1) data).length≤i + 1:=by
  unfold putL
  rw [insV_len]
  have:(keptL zeroV (bagOf s key).vals).length≤(bagOf s key).vals.length:=List.length_filter_le _ _
  omega
 have he:putE (bagOf s key).known (bagOf s key).vals zeroV 0 (s.dots + 1) data=0:=by
  unfold putE
  rw [if_pos hm,if_neg (by omega)]
 have hf:fullS s key=false:=by
  unfold fullS
  have:¬ 200≤s.bags.length:=by omega
  simp [this]
 obtain ⟨s',h1,w⟩:=putO_ok (node:=0) (known:=zeroV) (data:=data) hk (by omega) (by omega) h0 (by omega) hf he (by rw [h.room];omega)
 obtain ⟨p1,p2,p3,p4⟩:=put_ok he
 have hks:=put_keys (s:=s) (node:=0) (key:=key) (known:=zeroV) (data:=data)
 rw [h1] at hks
 have hbs:s'.bags.map Prod.fst=addK (s.bags.map Prod.fst) key:=by
  rcases hks with ⟨_,_,hb,_⟩ | ⟨e,_⟩
  · exact hb
  · exact absurd rfl e
 have okv:=h.ok.putV (node:=0) (key:=key) (known:=zeroV) (data:=data)
 rw [h1] at okv
 refine ⟨s',h1,⟨okv,?_,by rw [w.dots];omega,by rw [w.ds];omega,by rw [w.room];exact h.room,fun k=>?_⟩,fun x=>by rw [hbs];exact addK_mem⟩
 · have:=congrArg List.length hbs
   have h2:=addK_len (ks:=s.bags.map Prod.fst) (key:=key)
   simp only [List.length_map] at this h2
   omega
 · by_cases e:k=key
   · subst e
     rw [w.bag]
     refine ⟨p4,fun c hc=>?_,?_⟩
     · rw [w.dots] at hc
       show has (putK _ _ zeroV 0 (s.dots + 1) data) 0 c=false
       rw [p2]
       have n0:nodeOk 0=true:=rfl
       have e1:withV (joinV (bagOf s k).known zeroV) 0 (s.dots + 1) 0=max (max ((bagOf s k).known 0) 0) (s.dots + 1):=by
        unfold withV
        rw [if_pos n0]
        rfl
       have hkn:(bagOf s k).known 0≤s.dots:=by
        rcases Int.lt_or_le s.dots ((bagOf s k).known 0) with q | q
        · have h5:=b2 ((bagOf s k).known 0) q
          have h6:(1:Int)≤(bagOf s k).known 0:=by omega
          simp [has,n0,h6] at h5
        · exact q
       have:¬ c≤withV (joinV (bagOf s k).known zeroV) 0 (s.dots + 1) 0:=by rw [e1];omega
       show (nodeOk 0 && (decide (1≤c) && decide (c≤withV (joinV (bagOf s k).known zeroV) 0 (s.dots + 1) 0)))=false
       simp [this]
     · show (putR _ _ zeroV 0 (s.dots + 1) data).length≤i + 1
       rw [p3]
       exact hlen
   · have hb:=put_bag (s:=s) (node:=0) (key:=key) (known:=zeroV) (data:=data) e
     rw [h1] at hb
     have hb:bagOf s' k=bagOf s k:=hb
     obtain ⟨c1,c2,c3⟩:=h.bag k
     rw [hb]
     exact ⟨c1,fun c hc=>c2 c (by rw [w.dots] at hc;omega),by omega⟩
end Go.Proofs.YtgbnbgkldeifkaaGreatA

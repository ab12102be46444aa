/- How the program's code is read as the small machine's; one operation, a call. No statement about the program is proved here. -/
import Derived.Test.YtdbgebbofpgjmaaGreatA8
import Derived.Orders
import Derived.LoopN
namespace Go.Proofs.YtdbgebbofpgjmaaGreatA
open Go Go.RowKit
set_option linter.unusedVariables false

/-! ## How code is read -/
def lowGuard (ops : Array Oper) : Option (Nat × Bool) → Option (Option (Nat × Bool))
  | none => some none
  | some (j, want) => ((ops[j]?).bind (·.dst)).map fun t => some (t, want)
def lowOper (P : Program) (ops : Array Oper) (o : Oper) : AOper :=
  match lowGuard ops o.guard with
  | some g => ⟨o.dst, g, lowOp P o.op⟩
  | none => ⟨o.dst, none, .fail⟩

def xTmps : AX → List Nat
  | .tmp t => [t]
  | .cst _ => []
def oTmps (x : Option AX) : List Nat := (x.map xTmps).getD []
def calleeTmps : ACallee → List Nat
  | .fn f => xTmps f
  | .meth r _ => xTmps r
/-- What an operation reads. -/
def opTmps : AOp → List Nat
  | .fail | .alloc _ | .lenConst _ | .mkMap => []
  | .mv x | .box x | .load _ x | .nilchk x | .un _ x | .conv _ x | .same x | .ofBytes x | .fieldAddr _ x | .field _ _ x | .extract x _ | .mkIface _ x | .assertTo x _ _ | .lenSl x | .lenStr x | .lenMap x | .cap x | .rangeM x | .nextM x | .entryM x => xTmps x
  | .pick c a b => xTmps c ++ xTmps a ++ xTmps b
  | .build _ ps | .buildSlice _ _ _ ps => ps.flatMap fun (_, _, x) => xTmps x
  | .store _ a b | .bin _ a b | .eqagg _ _ a b | .eqbool _ a b | .eqptr _ a b | .eqmap _ a b | .idxArr _ _ a b | .idxSl _ a b | .idxVal _ _ _ a b | .idxStr a b | .mkSlice _ _ _ a b | .lookup _ _ a b _ | .mapDel _ a b | .append _ _ a b | .copy _ a b | .appendZ _ _ _ a b => xTmps a ++ xTmps b
  | .sliceArr _ _ x l h m | .sliceSl _ x l h m => xTmps x ++ oTmps l ++ oTmps h ++ oTmps m
  | .sliceStr x l h => xTmps x ++ oTmps l ++ oTmps h
  | .mkFn _ a b => a.flatMap xTmps ++ b.flatMap xTmps
  | .mapSet _ a b c => xTmps a ++ xTmps b ++ xTmps c
  | .max xs | .min xs => xs.flatMap xTmps
  | .call c xs => calleeTmps c ++ xs.flatMap xTmps
/-- Operations that neither read nor write memory. -/
def quietOp : AOp → Bool
  | .fail | .mv _ | .pick .. | .nilchk _ | .bin .. | .eqagg .. | .eqbool .. | .eqptr .. | .eqmap .. | .un .. | .conv .. | .same _ | .fieldAddr .. | .field .. | .idxArr .. | .idxSl .. | .idxVal .. | .idxStr .. | .sliceSl .. | .sliceStr .. | .extract .. | .mkFn .. | .mkIface .. | .assertTo ..
  | .lenSl _ | .lenStr _ | .lenConst _ | .max _ | .min _ | .build .. => true
  | _ => false
def operTmps (o : AOper) : List Nat := opTmps o.op ++ (match o.guard with | some (t, _) => [t] | none => [])

/-- Who is ahead of one with these edges; acc: who is ahead of those before it. -/
def bitsOf (acc : List Nat) : List Edge → Nat
  | [] => 0
  | e :: es => if Region.binds .any e then bitsOf acc es ||| 2 ^ e.on ||| acc.getD e.on 0 else bitsOf acc es
def befores : List Oper → List Nat → List Nat
  | [], acc => acc
  | o :: os, acc => befores os (acc ++ [bitsOf acc o.after.toList])
/-- Is i ahead of j, by the edges? -/
def isBefore (b : List Nat) (i j : Nat) : Bool := (b.getD j 0).testBit i
def edgesOk (ops : List Oper) : Bool := ops.zipIdx.all fun (o, i) => o.after.toList.all fun e => !Region.binds .any e || decide (e.on < i)
/-- Are the two held against each other? -/
def held (b : List Nat) (i j : Nat) : Bool := if i < j then isBefore b i j else isBefore b j i
/-- Nothing that one of two writes is read or written by the other, unless they are held against each other. -/
def apartOk (b : List Nat) (os : List AOper) : Bool :=
  os.zipIdx.all fun (o, i) => match o.dst with
    | none => true
    | some d => os.zipIdx.all fun (p, j) => i == j || held b i j || !((operTmps p).contains d || p.dst == some d)
/-- A new variable: it neither reads nor writes what is there. -/
def freshOper (o : AOper) : Bool := match o.guard, o.op with | none, .alloc _ => true | _, _ => false
def soloAt (b : List Nat) (os : List AOper) (o : AOper) (i : Nat) : Bool := !quietOp o.op && !freshOper o && os.zipIdx.all fun (p, j) => i == j || quietOp p.op || held b i j || (freshOper p && decide (i < j))
def flagged (b : List Nat) (os : List AOper) : List (Bool × AOper) := os.zipIdx.map fun (o, i) => (soloAt b os o i, o)
def lowDraw (P : Program) (ops : Array Oper) : AC :=
  let os := ops.toList.map (lowOper P ops)
  let b := befores ops.toList []
  if apartOk b os && edgesOk ops.toList then .draw (flagged b os) else .fail

def lowC (P : Program) : Code → List (List Nat) → AC × List (List Nat)
  | .skip, h => (.skip, h)
  | .ret, h => (.ret, h)
  | .exit id, h => (.exit id, h)
  | .region _ ops draw, h => (if draw then lowDraw P ops else .region (ops.toList.map (lowOper P ops)), h)
  | .seq a b, h => let r := lowC P a h; let s := lowC P b r.2; (.seq r.1 s.1, s.2)
  | .cond c t e, h => let r := lowC P t h; let s := lowC P e r.2; (match lowX c with | some c => .cond c r.1 s.1 | none => .fail, s.2)
  | .block id b, h => let r := lowC P b h; (.block id r.1, r.2)
  | .loop b, h => match h with
    | ts :: h => let r := lowC P b h; (.loop (.seq (.kill ts) r.1), r.2)
    | [] => let r := lowC P b []; (.loop r.1, r.2)
  | _, h => (.fail, h)

def lowRes (P : Program) : List ResultVar → Option (List ARes)
  | [] => some []
  | .tmp t :: r => (lowRes P r).map (.tmp t :: ·)
  | .cell t ty :: r => (shp P ty).bind fun n => (lowRes P r).map (.cell t n :: ·)

/-! ## The program and its small twin -/
/-- What a call comes to. -/
def CallPost (w0 : World) (ro : Nat → Prop) (lim : Nat) (μ : Mu) (H : Heap) (w : World) (r : AV) (H' : Heap) (e : Ending) (w' : World) : Prop :=
  ∃ v' μ', e = .returned v' ∧ Post w0 ro lim μ H w μ' H' w' ∧ VR w0 ro μ' r v'
def PrimOK (P : Program) (f : Nat) (g : List AV → Nat → Heap → Option (AV × Heap)) : Prop :=
  ∀ (w0 : World) (ro : Nat → Prop) (μ : Mu) (H : Heap) (w : World) (lim : Nat) (as : List AV) (vs : Array Value) (r : AV) (H' : Heap), HR w0 ro μ H w → VRs w0 ro μ as vs.toList → g as lim H = some (r, H') →
    Calls P f vs w (CallPost w0 ro lim μ H w r H')
def ExtOK (P : Program) (f : Nat) (g : List AV → Heap → Option AV) : Prop :=
  ∀ (w0 : World) (ro : Nat → Prop) (μ : Mu) (H : Heap) (w : World) (as : List AV) (vs : Array Value) (r : AV), HR w0 ro μ H w → VRs w0 ro μ as vs.toList → g as H = some r → ∃ v', (callFunc f vs).run P w = .ok (.value v') w ∧ VR w0 ro μ r v'
def Entered (P : Program) (f : Nat) (fn : Func) : Prop := P.funcs[f]? = some fn ∧ (fn.name == "runtime.NumGoroutine") = false ∧ fn.body.isNone = false

structure EnvOK (P : Program) (E : AEnv) : Prop where
  mixed : P.follows .mixedOrders = true
  code : ∀ f fd, E.fn f = some (.code fd) → ∃ fn c h, Entered P f fn ∧ fn.body = some c ∧ fd.body = (lowC P c h).1 ∧ fd.ntmps = fn.ntmps ∧ lowRes P fn.results.toList = some fd.results
  prim : ∀ f g, E.fn f = some (.prim g) → (∃ fn, Entered P f fn) ∧ PrimOK P f g
  ext : ∀ f g, E.fn f = some (.ext g) → ExtOK P f g
  meth0 : ∀ t name f, E.meth t name = some (f, none) → ∀ v w, (method (P.types.size + Made.depth) t v name).run P w = .ok (f, v) w
  meth1 : ∀ t name f n, E.meth t name = some (f, some n) → ∃ e, shp P e = some n ∧ ∀ a w, (method (P.types.size + Made.depth) t (.pointer (some a)) name).run P w = (do let r ← loadVar e a; pure (f, r) : Sem (FuncId × Value)).run P w

section
variable {w0 : World} {ro : Nat → Prop} {P : Program} {μ : Mu} {H : Heap} {w : World} {T : Tmps} {lim : Nat} {E : AEnv}

theorem run_enter {f : Nat} {fn : Func} (h : Entered P f fn) (vs : Array Value) (w : World) : (callFunc f vs).run P w = .ok (.enter f vs) w := by
  obtain ⟨h1, h2, h3⟩ := h
  have h2' : ¬ fn.name = "runtime.NumGoroutine" := by simpa using h2
  have h3' : ¬ fn.body = none := by intro e; rw [e] at h3; simp at h3
  simp [callFunc, h1, h2', h3']
theorem env_entered (hE : EnvOK P E) {ex : AC → Nat → Tmps → Heap → Step} {f : Nat} {as : List AV} {r : AV} {H' : Heap} (h : callF E ex f as lim H = some (r, H')) : (∃ fn, Entered P f fn ∧ ∀ g, E.fn f ≠ some (.ext g)) ∨ ∃ g, E.fn f = some (.ext g) ∧ g as H = some r ∧ H' = H := by
  unfold callF at h
  cases e : E.fn f with
  | none => rw [e] at h; cases h
  | some x =>
    cases x with
    | code fd => obtain ⟨fn, c, hh, h1, _⟩ := hE.code f fd e; exact .inl ⟨fn, h1, fun g q => by cases q⟩
    | prim g => obtain ⟨fn, h1⟩ := (hE.prim f g e).1; exact .inl ⟨fn, h1, fun g q => by cases q⟩
    | ext g =>
      rw [e] at h
      simp only [Option.map_eq_some_iff, Prod.mk.injEq] at h
      obtain ⟨x, h1, rfl, rfl⟩ := h
      exact .inr ⟨g, rfl, h1, rfl⟩

def CallSim (P : Program) (E : AEnv) (ex : AC → Nat → Tmps → Heap → Step) : Prop :=
  ∀ (w0 : World) (ro : Nat → Prop) (μ : Mu) (H : Heap) (w : World) (lim f : Nat) (as : List AV) (vs : Array Value) (r : AV) (H' : Heap), (∀ g, E.fn f ≠ some (.ext g)) → HR w0 ro μ H w → VRs w0 ro μ as vs.toList → callF E ex f as lim H = some (r, H') →
    Calls P f vs w (CallPost w0 ro lim μ H w r H')

theorem low_no_call {o : Op} (h : ∀ c, o ≠ .call c) (c : ACallee) (as : List AX) : lowOp P o ≠ .call c as := by
  intro e
  cases o <;> simp only [lowOp, lowLookup, lowMapSet, lowAssert] at e
  case call c => exact h c rfl
  case binOp op t x y yt =>
    split at e
    · unfold lowBin at e
      (repeat' split at e) <;> cases e
    · cases e
  all_goals first | (cases e; done) | ((repeat' split at e) <;> cases e)

/-- One operation, a call or not. -/
theorem run_sim (hE : EnvOK P E) {ex : AC → Nat → Tmps → Heap → Step} (hC : CallSim P E ex) {o : Oper} {a : Act} {r : AV} {H' : Heap} (hr : HR w0 ro μ H w) (har : AR w0 ro μ T a) (h : runOp E ex lim T H (lowOp P o.op) = some (r, H'))
    {K : Act → World → Prop} {Q : Exit → Act → World → Prop} (hK : ∀ μ' v' w', Post w0 ro lim μ H w μ' H' w' → VR w0 ro μ' r v' → K (a.put o.dst v') w') : o.wp P a w K Q := by
  have plain : aop lim H T (lowOp P o.op) = some (r, H') → o.wp P a w K Q := fun h => by
    obtain ⟨nx, w', μ', h1, h2, h3⟩ := came_op hr har h
    unfold Oper.wp
    rw [h1]
    rcases h3 with ⟨v', rfl, h3⟩ | ⟨rfl, rfl⟩
    · exact hK μ' v' w' h2 h3
    · exact hK μ' Go.undef w' h2 .noval
  have enter : ∀ (f : Nat) (as : List AV) (vs : Array Value), (execOp a.eval o).run P w = (callFunc f vs).run P w → VRs w0 ro μ as vs.toList → callF E ex f as lim H = some (r, H') → o.wp P a w K Q := fun f as vs h1 h2 h3 => by
    rcases env_entered hE h3 with ⟨fn, hfn, hne⟩ | ⟨g, hg, hgr, rfl⟩
    case inr =>
      obtain ⟨v', e1, e2⟩ := hE.ext f g hg w0 ro μ H' w as vs r hr h2 hgr
      unfold Oper.wp
      rw [h1, e1]
      exact hK μ v' w (Post.refl hr) e2
    unfold Oper.wp
    rw [h1, run_enter hfn]
    refine (hC w0 ro μ H w lim f as vs r H' hne hr h2 h3).mono ?_
    rintro e w' ⟨v', μ', rfl, hp, hv⟩
    exact hK μ' v' w' hp hv
  cases ho : o.op <;> rw [ho] at h
  case call c =>
    simp only [lowOp, lowCall] at h
    cases hxs : lowXs c.args.toList with
    | none => rw [hxs] at h; simp [runOp, aop] at h
    | some xs =>
      rw [hxs] at h
      have hv := lowXs_VRs har hxs
      cases hc : c.callee with
      | builtin b =>
        rw [hc] at h
        refine plain ?_
        rw [ho]
        simp only [lowOp, lowCall, hxs, hc]
        have : ∀ x, lowBuiltin P b c.argTypes.toList xs = x → runOp E ex lim T H x = some (r, H') → aop lim H T x = some (r, H') := fun x hx h => by
          cases x
          case call c2 as => unfold lowBuiltin at hx; (repeat' split at hx) <;> cases hx
          all_goals exact h
        exact this _ rfl h
      | value f =>
        rw [hc] at h
        simp only at h
        split at h
        · rename_i af haf
          simp only [runOp, Option.bind_eq_some_iff] at h
          obtain ⟨⟨fid, as⟩, h1, h2⟩ := h
          have vf := lowX_VR haf har
          simp only [callee] at h1
          generalize af.ev T = u at h1 vf
          generalize hfv : a.eval f = fv at vf
          split at h1
          · cases h1
            cases vf with
            | @fn f2 as2 bs2 as2' bs2' q q' =>
              refine enter fid _ (as2'.toArray ++ c.args.map a.eval ++ bs2'.toArray) ?_ ?_ h2
              · simp only [execOp, ho, resolve, hc, Deferred.ofValue, hfv, pure_bind, invoke]
              · simp only [Array.toList_append, Array.toList_map]
                exact (q.app hv).app q'
          · cases h1
        · simp [runOp, aop] at h
      | invoke rv name =>
        rw [hc] at h
        simp only at h
        split at h
        · rename_i ar har'
          simp only [runOp, Option.bind_eq_some_iff] at h
          obtain ⟨⟨fid, as⟩, h1, h2⟩ := h
          have vf := lowX_VR har' har
          simp only [callee] at h1
          generalize ar.ev T = u at h1 vf
          generalize hfv : a.eval rv = fv at vf
          split at h1
          · rename_i t v
            simp only [Option.bind_eq_some_iff] at h1
            obtain ⟨⟨f2, k⟩, h3, h4⟩ := h1
            cases vf with
            | @iface t v v' hv' =>
              have hex : ∀ r' : Value, (method (P.types.size + Made.depth) t v' name).run P w = .ok (fid, r') w → (execOp a.eval o).run P w = (callFunc fid (#[r'] ++ c.args.map a.eval)).run P w := fun r' hm => by
                simp only [execOp, ho, resolve, hc, hfv, pure_bind, invoke]
                have e1 : (#[Value.iface t v'] ++ c.args.map a.eval)[0]? = some (Value.iface t v') := by
                  rw [Array.getElem?_append_left (by simp)]; rfl
                have e2 : (#[Value.iface t v'] ++ c.args.map a.eval).extract 1 (#[Value.iface t v'] ++ c.args.map a.eval).size = c.args.map a.eval := by
                  apply Array.ext'
                  simp
                  exact List.take_of_length_le (by simp)
                simp only [e1, e2, callMethod, Sem.run_bind, run_program, Result.andThen_ok, hm]
              cases k with
              | none =>
                simp only [Option.some.injEq, Prod.mk.injEq] at h4
                obtain ⟨rfl, rfl⟩ := h4
                exact enter f2 _ _ (hex v' (hE.meth0 t name f2 h3 v' w)) (by simpa using VRs.cons hv' hv) h2
              | some n =>
                simp only [Option.map_eq_some_iff, Prod.mk.injEq] at h4
                obtain ⟨v2, h5, rfl, rfl⟩ := h4
                obtain ⟨e, hs, hm⟩ := hE.meth1 t name f2 n h3
                have fin : ∀ (ad : Addr), v' = .pointer (some ad) → (∃ x, (loadVar e ad).run P w = .ok x w ∧ VR w0 ro μ v2 x) → o.wp P a w K Q := fun ad e1 ⟨x, e2, e3⟩ => by
                  subst e1
                  exact enter f2 _ _ (hex x (by rw [hm ad w]; simp [e2])) (by simpa using VRs.cons e3 hv) h2
                unfold loadAt at h5
                split at h5
                · rename_i b off
                  simp only [Option.bind_eq_some_iff] at h5
                  obtain ⟨cs, g1, c', g2, g3⟩ := h5
                  cases hv' with
                  | ptr hm' => exact fin _ rfl (sim_loadVar hs (hr.lie hm' g1 g2) (cut_len g2) g3)
                · rename_i cs
                  simp only [Option.bind_eq_some_iff] at h5
                  obtain ⟨c', g2, g3⟩ := h5
                  cases hv' with
                  | tp h0 hd =>
                    have := hd.lie hr h0 g2
                    simp only [Nat.add_zero] at this
                    exact fin _ rfl (sim_loadVar hs this (cut_len g2) g3)
                · cases h5
          · cases h1
        · simp [runOp, aop] at h
  all_goals
    refine plain ?_
    rw [ho]
    revert h
    generalize hx : lowOp P _ = x
    intro h
    cases x
    case call c as => exact absurd hx (low_no_call (by intro c e; cases e) c as)
    all_goals exact h

end
end Go.Proofs.YtdbgebbofpgjmaaGreatA

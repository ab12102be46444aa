/- A quicker way to run the small machine on values that are known. No statement about the program is proved here. -/
import Derived.Test.YtdbgebbofpgjmaaGreatA25
namespace Go.Proofs.YtdbgebbofpgjmaaGreatA
open Go Go.RowKit
set_option linter.unusedVariables false

noncomputable def nthF (t : Nat) : Tmps → AV := Nat.rec (fun l => List.rec AV.undef (fun a _ _ => a) l) (fun _ ih l => List.rec AV.undef (fun _ r _ => ih r) l) t
noncomputable def setF (v : AV) (t : Nat) : Tmps → Tmps := Nat.rec (fun l => List.rec [] (fun _ r _ => v :: r) l) (fun _ ih l => List.rec [] (fun a r _ => a :: ih r) l) t
theorem nthF_eq : ∀ (t : Nat) (T : Tmps), nthF t T = T.getD t .undef
  | 0, [] => rfl
  | 0, a :: r => rfl
  | t + 1, [] => rfl
  | t + 1, a :: r => (nthF_eq t r).trans (by simp [List.getD])
theorem setF_eq : ∀ (v : AV) (t : Nat) (T : Tmps), setF v t T = T.set t v
  | v, 0, [] => rfl
  | v, 0, a :: r => rfl
  | v, t + 1, [] => rfl
  | v, t + 1, a :: r => congrArg (a :: ·) (setF_eq v t r)
noncomputable def evF (x : AX) : Tmps → AV := AX.rec (fun t T => nthF t T) (fun v _ => v) x
theorem evF_eq (x : AX) (T : Tmps) : evF x T = x.ev T := by
  cases x
  · exact nthF_eq _ _
  · rfl
noncomputable def putF (dst : Option Nat) (v : AV) (T : Tmps) : Tmps := Option.rec T (fun d => setF v d T) dst
theorem putF_eq (dst : Option Nat) (v : AV) (T : Tmps) : putF dst v T = putT T dst v := by
  cases dst
  · rfl
  · exact setF_eq _ _ _

abbrev OpF := Nat → Heap → Tmps → Option (AV × Heap)
noncomputable def withH (H : Heap) (x : Option AV) : Option (AV × Heap) := Option.rec none (fun v => some (v, H)) x
theorem withH_eq (H : Heap) (x : Option AV) : withH H x = x.map (·, H) := by cases x <;> rfl
noncomputable def bindF {α β : Type} (x : Option α) (f : α → Option β) : Option β := Option.rec none f x
theorem bindF_eq {α β : Type} (x : Option α) (f : α → Option β) : bindF x f = x.bind f := by cases x <;> rfl
noncomputable def evsF (xs : List AX) (T : Tmps) : List AV := List.rec [] (fun x _ ih => evF x T :: ih) xs
theorem evsF_eq (xs : List AX) (T : Tmps) : evsF xs T = xs.map (·.ev T) := by
  induction xs with
  | nil => rfl
  | cons x xs ih => rw [List.map_cons, ← ih, ← evF_eq]; rfl
noncomputable def evpF (xs : List (Nat × Nat × AX)) (T : Tmps) : List (Nat × Nat × AV) := List.rec [] (fun x _ ih => (x.1, x.2.1, evF x.2.2 T) :: ih) xs
theorem evpF_eq (xs : List (Nat × Nat × AX)) (T : Tmps) : evpF xs T = xs.map (fun (o, s, x) => (o, s, x.ev T)) := by
  induction xs with
  | nil => rfl
  | cons x xs ih => obtain ⟨o, s, y⟩ := x; rw [List.map_cons, ← ih]; simp only [← evF_eq]; rfl
noncomputable def evoF (x : Option AX) (T : Tmps) : Option AV := Option.rec none (fun x => some (evF x T)) x
theorem evoF_eq (x : Option AX) (T : Tmps) : evoF x T = x.map (·.ev T) := by
  cases x
  · rfl
  · exact congrArg some (evF_eq _ _)

def aMv (v : AV) (H : Heap) : Option (AV × Heap) := some (v, H)
def aPick (c a b : AV) (H : Heap) : Option (AV × Heap) := match c with | .bool t => some (if t then a else b, H) | _ => none
def aBox (v : AV) (H : Heap) : Option (AV × Heap) := if v.cells.all AV.one = true then some (.ptr (some (H.length, 0)), H ++ [.cells false v.cells]) else none
def aBuildSlice (es len : Nat) (H : Heap) (x : Option (List AV)) : Option (AV × Heap) := x.map fun cs => if len = 0 then (.nilsl, H) else (.sl H.length 0 len es, H ++ [.cells true cs])
def aNilchk (v : AV) (H : Heap) : Option (AV × Heap) := match v with | .ptr (some _) | .tp _ => some (v, H) | _ => none
def aEqagg (ks : List CK) (neg : Bool) (x y : AV) (H : Heap) : Option (AV × Heap) := match x, y with | .agg a, .agg b => (eqRow ks a b).map fun r => (.bool (if neg then !r else r), H) | _, _ => none
def aEqbool (neg : Bool) (x y : AV) (H : Heap) : Option (AV × Heap) := match x, y with | .bool a, .bool b => some (.bool (if neg then !(a == b) else a == b), H) | _, _ => none
def aEqptr (neg : Bool) (x y : AV) (H : Heap) : Option (AV × Heap) := match x, y with | .ptr a, .ptr b => (eqNil a b).map fun r => (.bool (if neg then !r else r), H) | _, _ => none
def aEqmap (neg : Bool) (x y : AV) (H : Heap) : Option (AV × Heap) := match x, y with | .mapv a, .mapv b => (eqNil a b).map fun r => (.bool (if neg then !r else r), H) | _, _ => none
def aConv (k : IntKind) (x : AV) (H : Heap) : Option (AV × Heap) := match x with | .int _ n => some (.int k (k.wrap n), H) | _ => none
def aSame (x : AV) (H : Heap) : Option (AV × Heap) := match x with | .str s => some (.str s, H) | _ => none
def aField (off : Nat) (n : Option Nat) (x : AV) (H : Heap) : Option (AV × Heap) := match x with | .agg cs => ((cut cs off (n.getD 1)).bind (shapeOf n)).map (·, H) | _ => none
def aIdxArr (len es : Nat) (x i : AV) (H : Heap) : Option (AV × Heap) := (idx i len).bind fun i => (fieldAddrAV (i * es) x).map (·, H)
def aIdxVal (len es : Nat) (n : Option Nat) (x i : AV) (H : Heap) : Option (AV × Heap) := (idx i len).bind fun i => match x with | .agg cs => ((cut cs (i * es) (n.getD 1)).bind (shapeOf n)).map (·, H) | _ => none
def aIdxStr (x i : AV) (H : Heap) : Option (AV × Heap) := match x with | .str s => (idx i s.length).map fun i => (.int .u8 (s.getD i 0).toNat, H) | _ => none
def aExtract (x : AV) (i : Nat) (H : Heap) : Option (AV × Heap) := match x with | .tup vs => vs[i]?.map (·, H) | _ => none
def aLenStr (x : AV) (H : Heap) : Option (AV × Heap) := match x with | .str s => some (.int .i64 s.length, H) | _ => none
noncomputable def fRest (o : AOp) : OpF := fun lim H T => aop lim H T o
noncomputable def fMv (x : AX) : OpF := fun _ H T => some (evF x T, H)
noncomputable def fPick (c a b : AX) : OpF := fun _ H T => aPick (evF c T) (evF a T) (evF b T) H
noncomputable def fAlloc (z : List AV) : OpF := fun _ H T => some (.ptr (some (H.length, 0)), H ++ [.cells false z])
noncomputable def fBox (x : AX) : OpF := fun _ H T => aBox (evF x T) H
noncomputable def fBuild (z : List AV) (ps : List (Nat × Nat × AX)) : OpF := fun _ H T => withH H (Option.rec none (fun cs => some (.agg cs)) (fillAV z (evpF ps T)))
noncomputable def fBuildSlice (es len : Nat) (z : List AV) (ps : List (Nat × Nat × AX)) : OpF := fun _ H T => aBuildSlice es len H (fillAV z (evpF ps T))
noncomputable def fLoad (n : Option Nat) (a : AX) : OpF := fun _ H T => withH H (loadAt H n (evF a T))
noncomputable def fStore (n : Nat) (a v : AX) : OpF := fun lim H T => Option.rec none (fun H' => some (.noval, H')) (storeAt lim H n (evF a T) (evF v T))
noncomputable def fNilchk (x : AX) : OpF := fun _ H T => aNilchk (evF x T) H
noncomputable def fBin (op : BinOp) (x y : AX) : OpF := fun _ H T => withH H (binAV op (evF x T) (evF y T))
noncomputable def fEqagg (ks : List CK) (neg : Bool) (x y : AX) : OpF := fun _ H T => aEqagg ks neg (evF x T) (evF y T) H
noncomputable def fEqbool (neg : Bool) (x y : AX) : OpF := fun _ H T => aEqbool neg (evF x T) (evF y T) H
noncomputable def fEqptr (neg : Bool) (x y : AX) : OpF := fun _ H T => aEqptr neg (evF x T) (evF y T) H
noncomputable def fEqmap (neg : Bool) (x y : AX) : OpF := fun _ H T => aEqmap neg (evF x T) (evF y T) H
noncomputable def fUn (op : UnOp) (x : AX) : OpF := fun _ H T => withH H (unAV op (evF x T))
noncomputable def fConv (k : IntKind) (x : AX) : OpF := fun _ H T => aConv k (evF x T) H
noncomputable def fSame (x : AX) : OpF := fun _ H T => aSame (evF x T) H
noncomputable def fFieldAddr (off : Nat) (x : AX) : OpF := fun _ H T => withH H (fieldAddrAV off (evF x T))
noncomputable def fField (off : Nat) (n : Option Nat) (x : AX) : OpF := fun _ H T => aField off n (evF x T) H
noncomputable def fIdxArr (len es : Nat) (x i : AX) : OpF := fun _ H T => aIdxArr len es (evF x T) (evF i T) H
noncomputable def fIdxSl (es : Nat) (x i : AX) : OpF := fun _ H T => withH H (idxSlAV es (evF i T) (evF x T))
noncomputable def fIdxVal (len es : Nat) (n : Option Nat) (x i : AX) : OpF := fun _ H T => aIdxVal len es n (evF x T) (evF i T) H
noncomputable def fIdxStr (x i : AX) : OpF := fun _ H T => aIdxStr (evF x T) (evF i T) H
noncomputable def fSliceSl (es : Nat) (x : AX) (l h m : Option AX) : OpF := fun _ H T => withH H (cutSl es (evF x T) (evoF l T) (evoF h T) (evoF m T))
noncomputable def fExtract (x : AX) (i : Nat) : OpF := fun _ H T => aExtract (evF x T) i H
noncomputable def fMkFn (f : Fn) (a c : List AX) : OpF := fun _ H T => some (.fn f (evsF a T) (evsF c T), H)
noncomputable def fMkIface (t : Nat) (x : AX) : OpF := fun _ H T => some (.iface t (evF x T), H)
noncomputable def fLenSl (x : AX) : OpF := fun _ H T => withH H (lenSlAV (evF x T))
noncomputable def fLenStr (x : AX) : OpF := fun _ H T => aLenStr (evF x T) H
noncomputable def fLenConst (n : Nat) : OpF := fun _ H T => some (.int .i64 n, H)
noncomputable def fMax (b : Bool) (xs : List AX) : OpF := fun _ H T => withH H (maxAll b (evsF xs T))
noncomputable def fAppend (es bytes : Nat) (s x : AX) : OpF := fun lim H T => appendAV lim H es bytes (evF s T) (evF x T)

noncomputable def aopF (o : AOp) : OpF :=
  AOp.rec (motive := fun _ => OpF)
    (fRest .fail)
    (fun x => fMv x)
    (fun c a b => fPick c a b)
    (fun z => fAlloc z)
    (fun x => fBox x)
    (fun z ps => fBuild z ps)
    (fun es len z ps => fBuildSlice es len z ps)
    (fun n a => fLoad n a)
    (fun n a v => fStore n a v)
    (fun x => fNilchk x)
    (fun op x y => fBin op x y)
    (fun ks neg x y => fEqagg ks neg x y)
    (fun neg x y => fEqbool neg x y)
    (fun neg x y => fEqptr neg x y)
    (fun neg x y => fEqmap neg x y)
    (fun op x => fUn op x)
    (fun k x => fConv k x)
    (fun x => fSame x)
    (fun x => fRest (.ofBytes x))
    (fun off x => fFieldAddr off x)
    (fun off n x => fField off n x)
    (fun len es x i => fIdxArr len es x i)
    (fun es x i => fIdxSl es x i)
    (fun len es n x i => fIdxVal len es n x i)
    (fun x i => fIdxStr x i)
    (fun len es x l h m => fRest (.sliceArr len es x l h m))
    (fun es x l h m => fSliceSl es x l h m)
    (fun x l h => fRest (.sliceStr x l h))
    (fun x i => fExtract x i)
    (fun f a c => fMkFn f a c)
    (fun t x => fMkIface t x)
    (fun x t ok => fRest (.assertTo x t ok))
    (fun es bytes z len cap => fRest (.mkSlice es bytes z len cap))
    (fRest .mkMap)
    (fun c z m k ok => fRest (.lookup c z m k ok))
    (fun c m k v => fRest (.mapSet c m k v))
    (fun c m k => fRest (.mapDel c m k))
    (fun x => fRest (.rangeM x))
    (fun x => fRest (.nextM x))
    (fun x => fRest (.entryM x))
    (fun x => fLenSl x)
    (fun x => fLenStr x)
    (fun n => fLenConst n)
    (fun x => fRest (.lenMap x))
    (fun xs => fMax true xs)
    (fun xs => fMax false xs)
    (fun es bytes s x => fAppend es bytes s x)
    (fun x => fRest (.cap x))
    (fun es d s => fRest (.copy es d s))
    (fun es bytes z s n => fRest (.appendZ es bytes z s n))
    (fun f args => fRest (.call f args))
    o
theorem aopF_eq (o : AOp) (lim : Nat) (H : Heap) (T : Tmps) : aopF o lim H T = aop lim H T o := by
  cases o
  all_goals try rfl
  all_goals simp only [aopF, fMv, fPick, fBox, fBuild, fBuildSlice, fLoad, fStore, fNilchk, fBin, fEqagg, fEqbool, fEqptr, fEqmap, fUn, fConv, fSame, fFieldAddr, fField, fIdxArr, fIdxSl, fIdxVal, fIdxStr, fSliceSl, fExtract, fMkFn, fMkIface, fLenSl, fLenStr, fMax, fAppend, evF_eq, evsF_eq, evpF_eq, evoF_eq, withH_eq]
  all_goals try rfl
  case build z ps => simp only [aop]; cases fillAV z _ <;> rfl
  case store n a v => simp only [aop]; cases storeAt lim H n _ _ <;> rfl

/-! ## Calls, steps, code -/
abbrev ExF := AC → Nat → Tmps → Heap → Step
noncomputable def endF (fd : AFun) (s : Step) : Option (AV × Heap) :=
  Option.rec none (fun r => AExit.rec (motive := fun _ => Option (AV × Heap)) (Option.rec none (fun v => some (v, r.2.2)) (resAll r.2.2 r.2.1 fd.results)) (Option.rec none (fun v => some (v, r.2.2)) (resAll r.2.2 r.2.1 fd.results)) (fun _ => none) r.1) s
noncomputable def endPF (fd : AFun) (H : Heap) (s : Step) : Option (AV × Heap) :=
  Option.rec none (fun r =>
    Option.rec none (fun v => Option.rec none (fun p => Bool.rec none (some (thaw p.1 H)) (noTwo p.2)) (own r.2.2 deep v))
    (AExit.rec (motive := fun _ => Option AV) (resAll r.2.2 r.2.1 fd.results) (resAll r.2.2 r.2.1 fd.results) (fun _ => none) r.1)) s
noncomputable def codeF (ex : ExF) (fd : AFun) (as : List AV) (lim : Nat) (H : Heap) : Option (AV × Heap) :=
  AMode.rec (motive := fun _ => Option (AV × Heap))
    (endF fd (ex fd.body lim (as ++ List.replicate (fd.ntmps - as.length) .noval) H))
    (Option.rec none (fun ds => endPF fd H (ex fd.body 0 (ds ++ List.replicate (fd.ntmps - as.length) .noval) [])) (mapO (frz H deep) as))
    fd.mode
noncomputable def callFF (E : AEnv) (ex : ExF) (f : Nat) (as : List AV) (lim : Nat) (H : Heap) : Option (AV × Heap) :=
  Option.rec none (fun x => AF.rec (motive := fun _ => Option (AV × Heap)) (fun fd => codeF ex fd as lim H) (fun g => g as lim H) (fun g => withH H (g as H)) x) (E.fn f)
theorem callFF_eq (E : AEnv) (ex : ExF) (f : Nat) (as : List AV) (lim : Nat) (H : Heap) : callFF E ex f as lim H = callF E ex f as lim H := by
  unfold callFF callF
  cases E.fn f with
  | none => rfl
  | some x =>
    cases x with
    | prim g => rfl
    | ext g => exact withH_eq _ _
    | code fd =>
      show codeF ex fd as lim H = _
      unfold codeF
      simp only
      cases fd.mode with
      | heap =>
        simp only
        unfold endF
        cases ex fd.body lim (as ++ List.replicate (fd.ntmps - as.length) .noval) H with
        | none => rfl
        | some r =>
          obtain ⟨x, T, H'⟩ := r
          cases x with
          | exit id => rfl
          | normal => simp only; cases resAll H' T fd.results <;> rfl
          | ret => simp only; cases resAll H' T fd.results <;> rfl
      | pure =>
        simp only
        cases mapO (frz H deep) as with
        | none => rfl
        | some ds =>
          simp only [Option.bind_some]
          unfold endPF
          cases ex fd.body 0 (ds ++ List.replicate (fd.ntmps - as.length) .noval) [] with
          | none => rfl
          | some r =>
            obtain ⟨x, T, H'⟩ := r
            cases x with
            | exit id => rfl
            | normal =>
              simp only
              cases resAll H' T fd.results with
              | none => rfl
              | some v =>
                simp only [Option.bind_some]
                cases own H' deep v with
                | none => rfl
                | some p => simp only [Option.bind_some]; cases noTwo p.2 <;> rfl
            | ret =>
              simp only
              cases resAll H' T fd.results with
              | none => rfl
              | some v =>
                simp only [Option.bind_some]
                cases own H' deep v with
                | none => rfl
                | some p => simp only [Option.bind_some]; cases noTwo p.2 <;> rfl

noncomputable def calleeFn (xs : List AX) (T : Tmps) (v : AV) : Option (Nat × List AV) := match v with | .fn (.func f) first captured => some (f, first ++ evsF xs T ++ captured) | _ => none
noncomputable def calleeF (E : AEnv) (H : Heap) (T : Tmps) (c : ACallee) (xs : List AX) : Option (Nat × List AV) :=
  ACallee.rec (motive := fun _ => Option (Nat × List AV)) (fun x => calleeFn xs T (evF x T)) (fun r name => callee E H T (.meth r name) (evsF xs T)) c
theorem calleeF_eq (E : AEnv) (H : Heap) (T : Tmps) (c : ACallee) (xs : List AX) : calleeF E H T c xs = callee E H T c (xs.map (·.ev T)) := by
  cases c with
  | fn x =>
    show calleeFn xs T (evF x T) = callee E H T (.fn x) (xs.map (·.ev T))
    rw [evF_eq]
    unfold calleeFn callee
    rw [evsF_eq]
    simp only
    cases x.ev T <;> rfl
  | meth r name => simp only [calleeF, evsF_eq]
noncomputable def callOpF (E : AEnv) (ex : ExF) (c : ACallee) (xs : List AX) : OpF := fun lim H T => Option.rec none (fun p => callFF E ex p.1 p.2 lim H) (calleeF E H T c xs)
noncomputable def runOpF (E : AEnv) (ex : ExF) (o : AOp) : OpF :=
  AOp.casesOn (motive := fun _ => OpF) o
    (fRest .fail)
    (fun x => fMv x)
    (fun c a b => fPick c a b)
    (fun z => fAlloc z)
    (fun x => fBox x)
    (fun z ps => fBuild z ps)
    (fun es len z ps => fBuildSlice es len z ps)
    (fun n a => fLoad n a)
    (fun n a v => fStore n a v)
    (fun x => fNilchk x)
    (fun op x y => fBin op x y)
    (fun ks neg x y => fEqagg ks neg x y)
    (fun neg x y => fEqbool neg x y)
    (fun neg x y => fEqptr neg x y)
    (fun neg x y => fEqmap neg x y)
    (fun op x => fUn op x)
    (fun k x => fConv k x)
    (fun x => fSame x)
    (fun x => fRest (.ofBytes x))
    (fun off x => fFieldAddr off x)
    (fun off n x => fField off n x)
    (fun len es x i => fIdxArr len es x i)
    (fun es x i => fIdxSl es x i)
    (fun len es n x i => fIdxVal len es n x i)
    (fun x i => fIdxStr x i)
    (fun len es x l h m => fRest (.sliceArr len es x l h m))
    (fun es x l h m => fSliceSl es x l h m)
    (fun x l h => fRest (.sliceStr x l h))
    (fun x i => fExtract x i)
    (fun f a c => fMkFn f a c)
    (fun t x => fMkIface t x)
    (fun x t ok => fRest (.assertTo x t ok))
    (fun es bytes z len cap => fRest (.mkSlice es bytes z len cap))
    (fRest .mkMap)
    (fun c z m k ok => fRest (.lookup c z m k ok))
    (fun c m k v => fRest (.mapSet c m k v))
    (fun c m k => fRest (.mapDel c m k))
    (fun x => fRest (.rangeM x))
    (fun x => fRest (.nextM x))
    (fun x => fRest (.entryM x))
    (fun x => fLenSl x)
    (fun x => fLenStr x)
    (fun n => fLenConst n)
    (fun x => fRest (.lenMap x))
    (fun xs => fMax true xs)
    (fun xs => fMax false xs)
    (fun es bytes s x => fAppend es bytes s x)
    (fun x => fRest (.cap x))
    (fun es d s => fRest (.copy es d s))
    (fun es bytes z s n => fRest (.appendZ es bytes z s n))
    (fun f args => callOpF E ex f args)
theorem runOpF_plain {E : AEnv} {ex : ExF} {o : AOp} (h : isCall o = false) : runOpF E ex o = aopF o := by
  cases o <;> first | rfl | cases h
theorem runOpF_eq (E : AEnv) (ex : ExF) (o : AOp) (lim : Nat) (H : Heap) (T : Tmps) : runOpF E ex o lim H T = runOp E ex lim T H o := by
  cases o
  case call c xs =>
    show callOpF E ex c xs lim H T = _
    simp only [callOpF, calleeF_eq, callFF_eq, runOp]
    cases callee E H T c (xs.map (·.ev T)) <;> rfl
  all_goals
    rw [runOpF_plain rfl, aopF_eq]
    rfl
noncomputable def wantF (T : Tmps) (v : AV) (want : Bool) : Option Bool := match v with | .bool b => some (b == want) | .noval => some false | _ => none
theorem wantF_eq {T : Tmps} {t : Nat} {want r : Bool} (h : wantF T (nthF t T) want = some r) : wantedA T (some (t, want)) = some r := by
  rw [nthF_eq, List.getD_eq_getElem?_getD] at h
  unfold wantedA
  cases e : T[t]? with
  | none => rw [e] at h; simp [wantF] at h
  | some v =>
    rw [e] at h
    simp only [Option.getD_some] at h
    simp only [e]
    cases v <;> first | exact h | cases h
noncomputable def goF (E : AEnv) (ex : ExF) (dst : Option Nat) (op : AOp) (lim : Nat) (T : Tmps) (H : Heap) : Option (Tmps × Heap) := Option.rec none (fun p => some (putF dst p.1 T, p.2)) (runOpF E ex op lim H T)
noncomputable def stepF (E : AEnv) (ex : ExF) (lim : Nat) (o : AOper) (T : Tmps) (H : Heap) : Option (Tmps × Heap) :=
  Option.rec (goF E ex o.dst o.op lim T H) (fun g => Option.rec none (fun b => Bool.rec (some (putF o.dst .noval T, H)) (goF E ex o.dst o.op lim T H) b) (wantF T (nthF g.1 T) g.2)) o.guard
theorem goF_eq (E : AEnv) (ex : ExF) (dst : Option Nat) (op : AOp) (lim : Nat) (T : Tmps) (H : Heap) : goF E ex dst op lim T H = (runOp E ex lim T H op).map fun (v, H') => (putT T dst v, H') := by
  unfold goF
  rw [runOpF_eq]
  cases runOp E ex lim T H op with
  | none => rfl
  | some p => exact congrArg (fun t => some (t, p.2)) (putF_eq _ _ _)
theorem stepF_imp {E : AEnv} {ex : ExF} {lim : Nat} {o : AOper} {T : Tmps} {H : Heap} {R : Tmps × Heap} (h : stepF E ex lim o T H = some R) : stepOp E ex lim o T H = some R := by
  obtain ⟨dst, g, op⟩ := o
  unfold stepF at h
  unfold stepOp
  cases g with
  | none => simp only [goF_eq] at h; exact h
  | some g =>
    obtain ⟨t, want⟩ := g
    simp only [goF_eq] at h
    cases e : wantF T (nthF t T) want with
    | none => rw [e] at h; cases h
    | some b =>
      rw [e] at h
      simp only [wantF_eq e, Option.bind_some]
      cases b with
      | false => simp only [putF_eq] at h; exact h
      | true => exact h
noncomputable def opsF (E : AEnv) (ex : ExF) (lim : Nat) (os : List AOper) : Tmps → Heap → Option (Tmps × Heap) :=
  List.rec (fun T H => some (T, H)) (fun o _ ih T H => Option.rec none (fun p => ih p.1 p.2) (stepF E ex lim o T H)) os
theorem opsF_imp {E : AEnv} {ex : ExF} {lim : Nat} : ∀ {os : List AOper} {T : Tmps} {H : Heap} {R : Tmps × Heap}, opsF E ex lim os T H = some R → runOps E ex lim os T H = some R
  | [], T, H, R, h => h
  | o :: os, T, H, R, h => by
    have h' : Option.rec none (fun p => opsF E ex lim os p.1 p.2) (stepF E ex lim o T H) = some R := h
    cases e : stepF E ex lim o T H with
    | none => rw [e] at h'; cases h'
    | some p =>
      rw [e] at h'
      simp only [runOps, stepF_imp e, Option.bind_some]
      exact opsF_imp h'
noncomputable def stepDF (E : AEnv) (ex : ExF) (lim : Nat) (solo : Bool) (o : AOper) (T : Tmps) (H : Heap) : Option (Tmps × Heap) :=
  Bool.rec (Option.rec none (fun r => some (r.1, H ++ r.2.drop H.length)) (stepF E ex H.length o T H)) (Option.rec none (fun r => Bool.rec none (some r) (Nat.ble H.length r.2.length)) (stepF E ex lim o T H)) solo
theorem stepDF_imp {E : AEnv} {ex : ExF} {lim : Nat} {solo : Bool} {o : AOper} {T : Tmps} {H : Heap} {R : Tmps × Heap} (h : stepDF E ex lim solo o T H = some R) : stepD E ex lim solo o T H = some R := by
  unfold stepDF at h
  unfold stepD
  cases solo with
  | true =>
    simp only [if_true] at h ⊢
    cases e : stepF E ex lim o T H with
    | none => rw [e] at h; cases h
    | some p =>
      rw [e] at h
      simp only [stepF_imp e, Option.bind_some]
      simp only at h
      cases q : Nat.ble H.length p.2.length with
      | false => rw [q] at h; cases h
      | true => rw [q] at h; rw [if_pos (Nat.le_of_ble_eq_true q)]; exact h
  | false =>
    simp only [Bool.false_eq_true, if_false] at h ⊢
    cases e : stepF E ex H.length o T H with
    | none => rw [e] at h; cases h
    | some p => rw [e] at h; simp only [stepF_imp e, Option.map_some]; exact h
noncomputable def drawF (E : AEnv) (ex : ExF) (lim : Nat) (os : List (Bool × AOper)) : Tmps → Heap → Option (Tmps × Heap) :=
  List.rec (fun T H => some (T, H)) (fun o _ ih T H => Option.rec none (fun p => ih p.1 p.2) (stepDF E ex lim o.1 o.2 T H)) os
theorem drawF_imp {E : AEnv} {ex : ExF} {lim : Nat} : ∀ {os : List (Bool × AOper)} {T : Tmps} {H : Heap} {R : Tmps × Heap}, drawF E ex lim os T H = some R → runDraw E ex lim os T H = some R
  | [], T, H, R, h => h
  | (s, o) :: os, T, H, R, h => by
    have h' : Option.rec none (fun p => drawF E ex lim os p.1 p.2) (stepDF E ex lim s o T H) = some R := h
    cases e : stepDF E ex lim s o T H with
    | none => rw [e] at h'; cases h'
    | some p =>
      rw [e] at h'
      simp only [runDraw, stepDF_imp e, Option.bind_some]
      exact drawF_imp h'
noncomputable def killF (ts : List Nat) : Tmps → Tmps := List.rec (fun T => T) (fun t _ ih T => ih (setF .undef t T)) ts
theorem killF_eq : ∀ (ts : List Nat) (T : Tmps), killF ts T = killT T ts
  | [], T => rfl
  | t :: ts, T => (killF_eq ts _).trans (by rw [setF_eq]; rfl)
noncomputable def thenF (k : Tmps → Heap → Step) (s : Step) : Step :=
  Option.rec none (fun r => AExit.rec (motive := fun _ => Step) (k r.2.1 r.2.2) (some (.ret, r.2)) (fun id => some (.exit id, r.2)) r.1) s
noncomputable def inF (id : Nat) (s : Step) : Step :=
  Option.rec none (fun r => AExit.rec (motive := fun _ => Step) (some (.normal, r.2)) (some (.ret, r.2)) (fun j => Bool.rec (some (.exit j, r.2)) (some (.normal, r.2)) (Nat.beq j id)) r.1) s
noncomputable def condF (v : AV) (t e : Step) : Step := match v with | .bool b => Bool.rec e t b | _ => none
noncomputable def oneF (E : AEnv) (ex : ExF) (c : AC) : Nat → Tmps → Heap → Step :=
  AC.casesOn (motive := fun _ => Nat → Tmps → Heap → Step) c
    (fun _ T H => some (.normal, T, H))
    (fun os lim T H => Option.rec none (fun p => some (.normal, p)) (opsF E ex lim os T H))
    (fun os lim T H => Bool.rec none (Option.rec none (fun p => some (.normal, p)) (drawF E ex lim os T H)) (Nat.ble lim H.length))
    (fun a b lim T H => thenF (fun T H => ex b lim T H) (ex a lim T H))
    (fun c t e lim T H => condF (evF c T) (ex t lim T H) (ex e lim T H))
    (fun id b lim T H => inF id (ex b lim T H))
    (fun b lim T H => thenF (fun T H => ex (.loop b) lim T H) (ex b lim T H))
    (fun id _ T H => some (.exit id, T, H))
    (fun ts _ T H => some (.normal, killF ts T, H))
    (fun _ T H => some (.ret, T, H))
    (fun _ _ _ => none)
noncomputable def fexec (E : AEnv) (n : Nat) : ExF := Nat.rec (fun _ _ _ _ => none) (fun _ ih c => oneF E ih c) n
theorem condF_imp {v : AV} {t e : Step} {R : AExit × Tmps × Heap} (h : condF v t e = some R) : ∃ b, v = .bool b ∧ (if b then t else e) = some R := by
  cases v
  case bool b => exact ⟨b, rfl, by cases b <;> exact h⟩
  all_goals cases h
theorem callF_ex {E : AEnv} {ex ex' : ExF} (h : exLe ex ex') {f : Nat} {as : List AV} {lim : Nat} {H : Heap} {r : AV × Heap} (k : callFF E ex f as lim H = some r) : callF E ex' f as lim H = some r := callF_mono h (by rw [← callFF_eq]; exact k)
theorem fexec_imp {E : AEnv} : ∀ n, exLe (fexec E n) (exec E n)
  | 0 => fun c lim T H r h => by cases h
  | n + 1 => fun c lim T H r h => by
    have ih := fexec_imp (E := E) n
    have h : oneF E (fexec E n) c lim T H = some r := h
    cases c with
    | skip => exact h
    | ret => exact h
    | exit id => exact h
    | kill ts =>
      have h : some (AExit.normal, killF ts T, H) = some r := h
      rw [killF_eq] at h
      exact h
    | fail => cases h
    | region os =>
      have h : Option.rec none (fun p => some (AExit.normal, p)) (opsF E (fexec E n) lim os T H) = some r := h
      cases e : opsF E (fexec E n) lim os T H with
      | none => rw [e] at h; cases h
      | some p =>
        rw [e] at h
        simp only [exec, runOps_mono ih (opsF_imp e), Option.map_some]
        exact h
    | draw os =>
      have h : Bool.rec none (Option.rec none (fun p => some (AExit.normal, p)) (drawF E (fexec E n) lim os T H)) (Nat.ble lim H.length) = some r := h
      cases hb : Nat.ble lim H.length with
      | false => rw [hb] at h; cases h
      | true =>
      rw [hb] at h
      have hle : lim ≤ H.length := Nat.le_of_ble_eq_true hb
      have h : Option.rec none (fun p => some (AExit.normal, p)) (drawF E (fexec E n) lim os T H) = some r := h
      cases e : drawF E (fexec E n) lim os T H with
      | none => rw [e] at h; cases h
      | some p =>
        rw [e] at h
        simp only [exec, if_pos hle, runDraw_mono ih (drawF_imp e), Option.map_some]
        exact h
    | seq a b =>
      have h : thenF (fun T H => fexec E n b lim T H) (fexec E n a lim T H) = some r := h
      rw [exec]
      cases e : fexec E n a lim T H with
      | none => rw [e] at h; cases h
      | some y =>
        rw [e] at h
        obtain ⟨x, T1, H1⟩ := y
        rw [ih _ _ _ _ _ e]
        cases x with
        | normal => exact ih _ _ _ _ _ h
        | ret => exact h
        | exit id => exact h
    | cond c t e =>
      have h : condF (evF c T) (fexec E n t lim T H) (fexec E n e lim T H) = some r := h
      obtain ⟨b, h1, h2⟩ := condF_imp h
      rw [evF_eq] at h1
      rw [exec, h1]
      cases b <;> exact ih _ _ _ _ _ h2
    | block id b =>
      have h : inF id (fexec E n b lim T H) = some r := h
      rw [exec]
      cases e : fexec E n b lim T H with
      | none => rw [e] at h; cases h
      | some y =>
        rw [e] at h
        obtain ⟨x, T1, H1⟩ := y
        rw [ih _ _ _ _ _ e]
        cases x with
        | normal => exact h
        | ret => exact h
        | exit j =>
          simp only [Option.map_some]
          have h : Bool.rec (some (AExit.exit j, T1, H1)) (some (AExit.normal, T1, H1)) (Nat.beq j id) = some r := h
          cases q : Nat.beq j id with
          | false => rw [q] at h; rw [if_neg (Nat.ne_of_beq_eq_false q)]; exact h
          | true => rw [q] at h; rw [if_pos (Nat.eq_of_beq_eq_true q)]; exact h
    | loop b =>
      have h : thenF (fun T H => fexec E n (.loop b) lim T H) (fexec E n b lim T H) = some r := h
      rw [exec]
      cases e : fexec E n b lim T H with
      | none => rw [e] at h; cases h
      | some y =>
        rw [e] at h
        obtain ⟨x, T1, H1⟩ := y
        rw [ih _ _ _ _ _ e]
        cases x with
        | normal => exact ih _ _ _ _ _ h
        | ret => exact h
        | exit id => exact h
theorem cl_run {E : AEnv} {f : Nat} {as : List AV} {lim : Nat} {H H' : Heap} {r : AV} (n : Nat) (h : callFF E (fexec E n) f as lim H = some (r, H')) : Cl E f as lim H r H' := ⟨n, callF_ex (fexec_imp n) h⟩

/-! ## Functions in a tree -/
inductive FT where
  | leaf
  | node (k : Nat) (x : AF) (l r : FT)
noncomputable def FT.find (t : FT) : Nat → Option AF := FT.rec (fun _ => none) (fun k x _ _ l r f => Bool.rec (Bool.rec (r f) (l f) (Nat.ble f k)) (some x) (Nat.beq f k)) t
inductive AllT (P : Program) : FT → Prop
  | leaf : AllT P .leaf
  | node {k x l r} (h : FnGood P k x) (hl : AllT P l) (hr : AllT P r) : AllT P (.node k x l r)
theorem AllT.get {P : Program} : ∀ {t : FT}, AllT P t → ∀ {f : Nat} {x : AF}, t.find f = some x → FnGood P f x
  | _, .leaf, f, x, h => by cases h
  | _, @AllT.node _ k y l r g hl hr, f, x, h => by
    have h : Bool.rec (Bool.rec (r.find f) (l.find f) (Nat.ble f k)) (some y) (Nat.beq f k) = some x := h
    cases q : Nat.beq f k with
    | true =>
      rw [q] at h
      cases h
      rw [Nat.eq_of_beq_eq_true q]
      exact g
    | false =>
      rw [q] at h
      simp only at h
      cases q2 : Nat.ble f k with
      | true => rw [q2] at h; exact hl.get h
      | false => rw [q2] at h; exact hr.get h
noncomputable def envT (t : FT) (ms : List (Nat × String × Nat × Option (Option Nat))) : AEnv := ⟨t.find, findM ms⟩
theorem envT_ok {P : Program} {t : FT} {ms : List (Nat × String × Nat × Option (Option Nat))} (hm : P.follows .mixedOrders = true) (h : AllT P t) (k : AllM P ms) : EnvOK P (envT t ms) where
  mixed := hm
  code := fun f fd e => h.get e
  prim := fun f g e => h.get e
  ext := fun f g e => h.get e
  meth0 := fun t n f e => k.get e
  meth1 := fun t n f m e => k.get e
end Go.Proofs.YtdbgebbofpgjmaaGreatA

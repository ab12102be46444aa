/- From the small machine's run to what is said of a law. No statement about the program is proved here. -/
import Derived.Test.YtdbgebbofpgjmaaGreatA17
namespace Go.Proofs.YtdbgebbofpgjmaaGreatA
open Go Go.RowKit Go.ChangeShapes Go.WideShapes Go.ChangeAt
set_option linter.unusedVariables false

theorem law_calls {P : Program} {E : AEnv} (hE : EnvOK P E) {fd : AFun} {W : World} {f : FuncId} {as : List AV} {vs : Array Value} {n : Nat} {r : AV} {H' : Heap} (hfd : E.fn f = some (.code fd)) (hv : TRs W (fun c => c < W.heap.size) as vs.toList) (h : callF E (exec E n) f as 0 [] = some (r, H')) :
    Calls P f vs W fun e W' => (∃ v' μ', e = .returned v' ∧ VR W (fun c => c < W.heap.size) μ' r v') ∧ Below W.heap.size W W' := by
  have hr0 : HR W (fun c => c < W.heap.size) [] [] W := ⟨rfl, Nat.le_refl _, fun c hc => ⟨hc, rfl⟩, fun b loc e => by simp at e, fun b b' l l' _ _ e => by simp at e⟩
  refine (call_sim hE n W (fun c => c < W.heap.size) [] [] W 0 f as vs r H' (fun g e => by rw [hfd] at e; cases e) hr0 hv.toVRs h).mono ?_
  rintro e w' ⟨v', μ', rfl, hp, hv'⟩
  exact ⟨⟨v', μ', rfl, hv'⟩, hp.os, hp.tape, hp.output, hp.size, fun k hk => hp.frame k hk (noOwn (Nat.le_refl _))⟩

theorem trodAll_len {H : Type} {enc : TypeId × Value → H} {P : Program} {w : World} {base : Nat} {spare : Nat → Bool} {held : Bool} : ∀ {ts : List TypeId} {vs : List Value} {ds : List (DataW H)} {ps : List MemPlace}, DataW.TrodAll enc P w base spare held ts vs ds ps → ds.length = ts.length
  | [], [], [], _, _ => rfl
  | _ :: _, _ :: _, _ :: _, _, ⟨_, _, _, h, _⟩ => by simp [trodAll_len h]
  | [], _ :: _, _, _, h => by cases h
  | _ :: _, [], _, _, h => by cases h
  | [], [], _ :: _, _, h => by cases h
  | _ :: _, _ :: _, [], _, h => by cases h

theorem law_lifted {C : Checked} {E : AEnv} (hE : EnvOK C.prog E) {fd : AFun} {f : FuncId} (hfd : E.fn f = some (.code fd)) {fn : Func} {s : ChangeSpec} {conds : List PathCond} {shs : List (Bool × Sh)} {tb : TypeId} {os : Os} {H : Type} {enc : TypeId × Value → H}
    (own : ownKnob C.prog.godebug = none) (started : os.Started) (noInit : C.prog.inits.idxOf? f = none) (hfn : C.prog.funcs[f]? = some fn)
    (witness : ∃ (w : World) (tape : Tape) (i : Input), w.os = os ∧ (w.forCall tape i).Shaped C.prog ∧ i.vars = [] ∧ Input.okWide C.prog (w.forCall tape i) .any w.heap.size f i ∧
      s.pre6 enc C.prog fn conds false (w.forCall tape i).memory i.args ∧ ({} : Assume).holds C.prog (lone (Frame.enter C.prog f i.args .normal) [] (w.forCall tape i)))
    (hl : laidOutB C.prog = true) (hp : ∀ t ∈ fn.params.toList, C.prog.readableRec t = true ∧ t < C.prog.types.size) (hsh : argShapes C.prog fn.params.toList = some shs)
    (hv : s.vars = []) (hr : fn.resultTypes = #[tb]) (hb : C.prog.underlying tb = some .bool)
    (hs : ∀ ds : List (DataW H), ds.length = fn.params.size → s.fn H ds = { results := [.lit (.bool true)], args := ds })
    (hlaw : ∀ as, FitsArgs shs as → ∃ n H', callF E (exec E n) f as 0 [] = some (.bool true, H')) :
    ReturnsInHanded {} C os f .any (s.pre6 enc C.prog fn conds false) (s.post enc C.prog fn false true false false) := by
  refine returnsInHanded_of_change_sized (C := C) own started noInit hfn witness ?_
  intro W base args ds gs before hval hW hcnd hsz _
  have hW' := hW
  obtain ⟨p, q, hA, hV, rfl, hfz, hnd⟩ := hW
  rw [hv] at hV
  obtain ⟨rfl, rfl⟩ := trodVars_none hV
  rw [List.append_nil] at hsz
  have hlen := trodAll_len hA
  have hz : ∀ n ∈ DataW.weightsEach C.prog fn.params.toList ds, n ≤ reachBytes := fun n hn => by
    have hz0 := List.all_eq_true.1 hsz n (by
      have : s.plain.varTypes C.prog = [] := by simp [ChangeSpec.plain, DataSpec.varTypes, hv]
      rw [this, List.append_nil]
      exact hn)
    simpa using hz0
  obtain ⟨as, h1, h2⟩ := open_args (base := base) hsh (fun j t v e1 e2 => hval j t v (by simpa using e1) (by simpa using e2)) hA hz
  obtain ⟨n, H', h3⟩ := hlaw as h2
  refine (law_calls hE hfd h1 h3).mono fun e W' ⟨⟨v', μ', he, hv'⟩, bel⟩ => ?_
  cases hv'
  have e1 : s.fn H (ds ++ []) = { results := [.lit (.bool true)], args := ds } := by rw [List.append_nil]; exact hs ds (by simpa using hlen)
  refine ⟨_, he, ds, [], p ++ [], [], p, [], hW', ?_, ?_, ?_, bel.frame _, fun h => by cases h⟩
  · rw [e1, hr]
    exact trodAll_mk1 (shut_bool hb true)
  · rw [e1]
    exact below_trods (spare := fun _ => true) hl bel hp hA
  · rw [e1, hv]
    rfl

end Go.Proofs.YtdbgebbofpgjmaaGreatA

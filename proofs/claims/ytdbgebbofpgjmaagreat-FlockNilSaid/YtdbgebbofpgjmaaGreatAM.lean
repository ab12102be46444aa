/- The small machine's operations on maps, and the looks behind an interface, come to what the program's come to. No statement about the program is proved here. -/
import Derived.Test.YtdbgebbofpgjmaaGreatA6
import Derived.MapKept
namespace Go.Proofs.YtdbgebbofpgjmaaGreatA
open Go Go.RowKit
set_option linter.unusedVariables false

/-- The kind of keys that can be held against each other at once. -/
def keyT (P : Program) (t : TypeId) : Option CK :=
  match P.underlying t with
  | some (.int _) => some .i
  | some .string => some .s
  | some .bool => some .b
  | _ => none

def mapOf (H : Heap) (m : AV) : Option (List (AV × AV × Nat)) := match m with | .mapv none => some [] | .mapv (some r) => (match H[r]? with | some (.map es _) => some es | _ => none) | _ => none
def lenMapOf (H : Heap) (m : AV) : Option (AV × Heap) := match m with | .mapv none => some (AV.int .i64 0, H) | .mapv (some r) => (match H[r]? with | some (.map es _) => some (.int .i64 es.length, H) | _ => none) | _ => none
def assertOf (H : Heap) (t : Nat) (x : AV) (ok : Option AV) : Option (AV × Heap) := match x, ok with
      | .iface t' v, none => if t' = t then some (v, H) else none
      | .iface t' v, some z => some (if t' = t then .tup [v, .bool true] else .tup [z, .bool false], H)
      | .niliface, some z => some (.tup [z, .bool false], H)
      | _, _ => none

def foundOf (za : AV) (ok : Bool) (x : Option (Nat × AV)) : AV := let v := match x with | some (_, v) => v | none => za; if ok then .tup [v, .bool x.isSome] else v

section
variable {w0 : World} {ro : Nat → Prop} {P : Program} {μ : Mu} {H : Heap} {w : World} {T : Tmps} {lim : Nat}

theorem mapLoc {b : Nat} {v : Value} (h : VR w0 ro μ (.mapv (some b)) v) : ∃ loc, μ[b]? = some (some loc) ∧ v = .map (some loc.c) := by
  cases h with | map h => exact ⟨_, h, rfl⟩
theorem mapNil {v : Value} (h : VR w0 ro μ (.mapv none) v) : v = .map none := by cases h; rfl

theorem byte_beq {s t : ByteArray} : (s == t) = (s.data.toList == t.data.toList) := by
  rw [Bool.eq_iff_iff, MapKept.bytes_beq, beq_iff_eq]
  constructor
  · intro e; rw [e]
  · intro e
    obtain ⟨⟨a⟩⟩ := s
    obtain ⟨⟨b⟩⟩ := t
    simp only at e
    rw [e]

theorem key_sim {kt : TypeId} {c : CK} {d : TypeDesc} {k e : AV} {k' e' : Value} {r : Bool} (hc : keyT P kt = some c) (hd : P.underlying kt = some d) (hk : VR w0 ro μ k k') (he : VR w0 ro μ e e') (h : eqCell c k e = some r) : Instr.sameNow d k' e' = some r := by
  unfold keyT at hc
  rw [hd] at hc
  cases d <;> simp only [Option.some.injEq, reduceCtorEq] at hc <;> subst hc
  · cases k <;> cases e <;> simp only [eqCell, reduceCtorEq] at h
    cases hk; cases he
    simpa [Instr.sameNow] using h
  · cases k <;> cases e <;> simp only [eqCell, reduceCtorEq] at h
    cases hk; cases he
    simpa [Instr.sameNow] using h
  · cases k <;> cases e <;> simp only [eqCell, reduceCtorEq] at h
    obtain ⟨s, rfl, e1⟩ := hk.str_inv
    obtain ⟨t, rfl, e2⟩ := he.str_inv
    subst e1; subst e2
    simp only [Instr.sameNow, byte_beq]
    exact h

/-- The entries of a map, and ours. -/
def EntR (w0 : World) (ro : Nat → Prop) (μ : Mu) : List (AV × AV × Nat) → List MapEntry → Prop
  | [], [] => True
  | (k, v, b) :: r, e :: r' => e.born = b ∧ VR w0 ro μ k e.key ∧ VR w0 ro μ v e.val ∧ EntR w0 ro μ r r'
  | _, _ => False
theorem EntR.of : ∀ {es : List (AV × AV × Nat)} {ces : List MapEntry}, ces.length = es.length → (∀ (i : Nat) (k v : AV) (b : Nat), es[i]? = some (k, v, b) → ∃ e : MapEntry, ces[i]? = some e ∧ e.born = b ∧ VR w0 ro μ k e.key ∧ VR w0 ro μ v e.val) → EntR w0 ro μ es ces
  | [], [], _, _ => trivial
  | [], _ :: _, h, _ => by simp at h
  | _ :: _, [], h, _ => by simp at h
  | (k, v, b) :: es, e :: ces, hl, h => by
    obtain ⟨e', h1, h2, h3, h4⟩ := h 0 k v b rfl
    simp only [List.getElem?_cons_zero, Option.some.injEq] at h1
    subst h1
    exact ⟨h2, h3, h4, EntR.of (by simpa using hl) fun i k v b q => by simpa using h (i + 1) k v b (by simpa using q)⟩
theorem EntR.len : ∀ {es : List (AV × AV × Nat)} {ces : List MapEntry}, EntR w0 ro μ es ces → ces.length = es.length
  | [], [], _ => rfl
  | [], _ :: _, h => h.elim
  | _ :: _, [], h => h.elim
  | (k, v, b) :: es, e :: ces, h => by simp [EntR.len h.2.2.2]
theorem EntR.get : ∀ {es : List (AV × AV × Nat)} {ces : List MapEntry}, EntR w0 ro μ es ces → ∀ (i : Nat) (k v : AV) (b : Nat), es[i]? = some (k, v, b) → ∃ e : MapEntry, ces[i]? = some e ∧ e.born = b ∧ VR w0 ro μ k e.key ∧ VR w0 ro μ v e.val
  | [], [], _, i, k, v, b, h => by simp at h
  | [], _ :: _, h, _, _, _, _, _ => h.elim
  | _ :: _, [], h, _, _, _, _, _ => h.elim
  | (k, v, b) :: es, e :: ces, h, 0, k2, v2, b2, q => by
    simp only [List.getElem?_cons_zero, Option.some.injEq, Prod.mk.injEq] at q
    obtain ⟨rfl, rfl, rfl⟩ := q
    exact ⟨e, rfl, h.1, h.2.1, h.2.2.1⟩
  | (k, v, b) :: es, e :: ces, h, i + 1, k2, v2, b2, q => by simpa using EntR.get h.2.2.2 i k2 v2 b2 (by simpa using q)
theorem EntR.app : ∀ {a b : List (AV × AV × Nat)} {a' b' : List MapEntry}, EntR w0 ro μ a a' → EntR w0 ro μ b b' → EntR w0 ro μ (a ++ b) (a' ++ b')
  | [], _, [], _, _, k => k
  | [], _, _ :: _, _, h, _ => h.elim
  | _ :: _, _, [], _, h, _ => h.elim
  | _ :: _, _, _ :: _, _, h, k => ⟨h.1, h.2.1, h.2.2.1, EntR.app h.2.2.2 k⟩
theorem EntR.erase : ∀ {a : List (AV × AV × Nat)} {a' : List MapEntry} (i : Nat), EntR w0 ro μ a a' → EntR w0 ro μ (a.eraseIdx i) (a'.eraseIdx i)
  | [], [], i, _ => by simp; trivial
  | [], _ :: _, _, h => h.elim
  | _ :: _, [], _, h => h.elim
  | (_, _, _) :: _, _ :: _, 0, h => by simpa using h.2.2.2
  | (_, _, _) :: _, _ :: _, i + 1, h => by simpa using ⟨h.1, h.2.1, h.2.2.1, EntR.erase i h.2.2.2⟩
theorem EntR.modify : ∀ {a : List (AV × AV × Nat)} {a' : List MapEntry} (i : Nat) {k v : AV} {k' v' : Value}, EntR w0 ro μ a a' → VR w0 ro μ k k' → VR w0 ro μ v v' → EntR w0 ro μ (a.modify i fun e => (k, v, e.2.2)) (a'.modify i fun e => { e with key := k', val := v' })
  | [], [], i, _, _, _, _, _, _, _ => by simp; trivial
  | [], _ :: _, _, _, _, _, _, h, _, _ => h.elim
  | _ :: _, [], _, _, _, _, _, h, _, _ => h.elim
  | (_, _, _) :: _, _ :: _, 0, _, _, _, _, h, hk, hv => by simpa using ⟨h.1, hk, hv, h.2.2.2⟩
  | (_, _, _) :: _, _ :: _, i + 1, _, _, _, _, h, hk, hv => by simpa using ⟨h.1, h.2.1, h.2.2.1, EntR.modify i h.2.2.2 hk hv⟩

theorem map_block (hr : HR w0 ro μ H w) {b : Nat} {loc : Loc} {es : List (AV × AV × Nat)} {clock : Nat} (hm : μ[b]? = some (some loc)) (hb : H[b]? = some (.map es clock)) : ¬ ro loc.c ∧ ∃ ces : Array MapEntry, w.heap[loc.c]? = some (.map ces clock) ∧ EntR w0 ro μ es ces.toList := by
  have := hr.blk b loc hm
  rw [hb] at this
  obtain ⟨h0, ces, h1, h2, h3⟩ := this
  exact ⟨h0, ces, h1, EntR.of (by simpa using h2) fun i k v b q => by simpa using h3 i k v b q⟩
theorem block_map {loc : Loc} {w : World} {es : List (AV × AV × Nat)} {clock : Nat} {ces : Array MapEntry} (h0 : ¬ ro loc.c) (h1 : w.heap[loc.c]? = some (.map ces clock)) (h2 : EntR w0 ro μ es ces.toList) : BR w0 ro μ loc w (some (.map es clock)) :=
  ⟨h0, ces, h1, by simpa using h2.len, fun i k v b q => by simpa using h2.get i k v b q⟩

theorem find_sim {kt : TypeId} {c : CK} {d : TypeDesc} {k : AV} {k' : Value} (hc : keyT P kt = some c) (hd : P.underlying kt = some d) (hk : VR w0 ro μ k k') : ∀ {es : List (AV × AV × Nat)} {ces : List MapEntry} {i : Nat} {r : Option (Nat × AV)}, EntR w0 ro μ es ces → findKey c k es i = some r →
    ∃ r', Instr.findNow d k' ces i = some r' ∧ match r, r' with | none, none => True | some (j, v), some (j', v') => j = j' ∧ i ≤ j ∧ (∃ e : MapEntry, ces[j - i]? = some e ∧ Instr.sameNow d k' e.key = some true) ∧ VR w0 ro μ v v' | _, _ => False
  | [], [], i, r, _, h => by simp only [findKey, Option.some.injEq] at h; subst h; exact ⟨none, rfl, trivial⟩
  | [], _ :: _, _, _, h, _ => h.elim
  | _ :: _, [], _, _, h, _ => h.elim
  | (ke, v, b) :: es, e :: ces, i, r, h, q => by
    simp only [findKey, Option.bind_eq_some_iff] at q
    obtain ⟨x, h1, h2⟩ := q
    have h3 := key_sim hc hd hk h.2.1 h1
    cases x with
    | true =>
      simp only [if_true, Option.some.injEq] at h2
      subst h2
      exact ⟨some (i, e.val), by simp [Instr.findNow, h3], rfl, Nat.le_refl _, ⟨e, by simp, h3⟩, h.2.2.1⟩
    | false =>
      simp only [Bool.false_eq_true, if_false] at h2
      obtain ⟨r', g1, g2⟩ := find_sim hc hd hk h.2.2.2 h2
      refine ⟨r', by simp [Instr.findNow, h3, g1], ?_⟩
      cases r with
      | none => cases r' with
        | none => trivial
        | some p => exact g2.elim
      | some p => cases r' with
        | none => exact g2.elim
        | some p' =>
          obtain ⟨e1, e2, ⟨x, e3, e4⟩, e5⟩ := g2
          refine ⟨e1, by omega, ⟨x, ?_, e4⟩, e5⟩
          rw [show p.1 - i = (p.1 - (i + 1)) + 1 from by omega, List.getElem?_cons_succ]
          exact e3

theorem check_key {kt : TypeId} {c : CK} (hc : keyT P kt = some c) (em : Bool) (n : Nat) (k : Value) (w : World) : (Instr.checkKey em (n + 1) kt k).run P w = .ok () w := by
  unfold keyT at hc
  cases hd : P.underlying kt with
  | none => rw [hd] at hc; cases hc
  | some d =>
    rw [hd] at hc
    unfold Instr.checkKey
    simp only [Sem.run_bind, run_underlying hd, Result.andThen]
    cases d <;> first | (cases hc; done) | rfl

theorem vs_lookup {xt kt et : TypeId} {c : CK} {z : Value} {za m k r : AV} {m' k' : Value} {ok : Bool} {es : List (AV × AV × Nat)} {x : Option (Nat × AV)} (hr : HR w0 ro μ H w) (ht : P.underlying xt = some (.map kt et)) (hc : keyT P kt = some c)
    (hz : (P.info? et).bind (·.zero) = some z) (hza : ofConstA z = some za) (hm : VR w0 ro μ m m') (hk : VR w0 ro μ k k')
    (hes : mapOf H m = some es) (hf : findKey c k es 0 = some x)
    (hres : r = foundOf za ok x) : VS w0 ro P lim μ H w (Instr.lookup xt m' k' ok) r H := by
  obtain ⟨d, hd⟩ : ∃ d, P.underlying kt = some d := by
    unfold keyT at hc
    cases e : P.underlying kt with
    | none => rw [e] at hc; cases hc
    | some d => exact ⟨d, rfl⟩
  have tail : ∀ (ces : Array MapEntry), EntR w0 ro μ es ces.toList → VS w0 ro P lim μ H w (do
      Instr.checkKey ces.isEmpty 10000 kt k'
      let (v, ok') ← match ← Instr.findKey kt k' ces.toList with
        | some (_, v) => pure (v, true)
        | none => pure (← zeroValue et, false)
      pure (if ok then Value.tuple #[v, .bool ok'] else v)) r H := fun ces he => by
    obtain ⟨x', g1, g2⟩ := find_sim hc hd hk he hf
    have fk := MapKept.run_findKey (w := w) (kt := kt) (l := ces.toList) (k := k') hd g1
    subst hres
    cases x with
    | none =>
      cases x' with
      | some p => exact g2.elim
      | none =>
        refine VS.same hr (v' := if ok then .tuple #[z, .bool false] else z) ?_ ?_
        · simp only [Sem.run_bind, check_key hc, Result.andThen_ok, fk, zero_run hz, Sem.run_pure]
        · have hv : VR w0 ro μ za z := ofConstA_VR hza
          cases ok
          · exact hv
          · exact VR.tup (vs := [z, .bool false]) (.cons hv (.cons (.bool _) .nil))
    | some p =>
      cases x' with
      | none => exact g2.elim
      | some p' =>
        obtain ⟨e1, _, _, hv⟩ := g2
        refine VS.same hr (v' := if ok then .tuple #[p'.2, .bool true] else p'.2) ?_ ?_
        · simp only [Sem.run_bind, check_key hc, Result.andThen_ok, fk, Sem.run_pure]
        · cases ok
          · exact hv
          · exact VR.tup (vs := [p'.2, .bool true]) (.cons hv (.cons (.bool _) .nil))
  unfold Instr.lookup
  unfold mapOf at hes
  cases m <;> first | (simp only [reduceCtorEq] at hes; done) | skip
  rename_i b
  cases b with
  | none =>
    simp only [Option.some.injEq] at hes
    subst hes
    have := mapNil hm
    subst this
    obtain ⟨v', w', μ', h1, h2, h3⟩ := tail #[] trivial
    refine ⟨v', w', μ', ?_, h2, h3⟩
    simp only [Sem.run_bind, run_underlying ht, Result.andThen_ok, Sem.run_pure]
    simp only [Sem.run_bind] at h1
    exact h1
  | some b =>
    obtain ⟨loc, h1, rfl⟩ := mapLoc hm
    simp only at hes
    split at hes
    · rename_i es2 clock hb
      cases hes
      obtain ⟨_, ces, h3, h4⟩ := map_block hr h1 hb
      obtain ⟨v', w', μ', g1, g2, g3⟩ := tail ces h4
      refine ⟨v', w', μ', ?_, g2, g3⟩
      simp only [Sem.run_bind, run_underlying ht, Result.andThen_ok, Sem.run_pure, MapKept.run_getObj_map h3]
      simp only [Sem.run_bind] at g1
      exact g1
    · cases hes

theorem same_bits {kt : TypeId} {d : TypeDesc} {c : CK} {a b : Value} (hc : keyT P kt = some c) (hd : P.underlying kt = some d) (h : Instr.sameNow d a b = some true) (n : Nat) : Instr.sameBits n b a = true := by
  unfold keyT at hc
  rw [hd] at hc
  cases d <;> simp only [reduceCtorEq] at hc
  all_goals
    cases a <;> cases b <;> simp only [Instr.sameNow, reduceCtorEq] at h
  · simp only [Option.some.injEq, beq_iff_eq] at h
    subst h
    cases n <;> simp [Instr.sameBits]
  · split at h
    · rename_i e
      simp only [Option.some.injEq, beq_iff_eq] at h
      subst e; subst h
      cases n <;> simp [Instr.sameBits]
    · cases h
  · simp only [Option.some.injEq] at h
    have := (MapKept.bytes_beq _ _).1 h
    subst this
    cases n <;> simp only [Instr.sameBits] <;> exact h

theorem sim_mapSet {mt kt et : TypeId} {c : CK} {b : Nat} {k v : AV} {m' k' v' : Value} {es : List (AV × AV × Nat)} {clock : Nat} {x : Option (Nat × AV)} (hr : HR w0 ro μ H w) (ht : P.underlying mt = some (.map kt et)) (hc : keyT P kt = some c) (hm : VR w0 ro μ (.mapv (some b)) m') (hk : VR w0 ro μ k k') (hv : VR w0 ro μ v v')
    (hlim : lim ≤ b) (hb : H[b]? = some (.map es clock)) (hf : findKey c k es 0 = some x) :
    ∃ w', (Instr.mapUpdate mt m' k' v').run P w = .ok () w' ∧ Post w0 ro lim μ H w μ (H.set b (match x with | some (i, _) => .map (es.modify i fun e => (k, v, e.2.2)) clock | none => .map (es ++ [(k, v, clock)]) (clock + 1))) w' := by
  obtain ⟨d, hd⟩ : ∃ d, P.underlying kt = some d := by
    unfold keyT at hc
    cases e : P.underlying kt with
    | none => rw [e] at hc; cases hc
    | some d => exact ⟨d, rfl⟩
  obtain ⟨loc, h1, rfl⟩ := mapLoc hm
  obtain ⟨h0, ces, h3, h4⟩ := map_block hr h1 hb
  obtain ⟨x', g1, g2⟩ := find_sim hc hd hk h4 hf
  have fk := MapKept.run_findKey (w := w) (kt := kt) (l := ces.toList) (k := k') hd g1
  have turn : ∀ (ces' : Array MapEntry) (clock' : Nat) (es' : List (AV × AV × Nat)), EntR w0 ro μ es' ces'.toList → Post w0 ro lim μ H w μ (H.set b (.map es' clock')) { w with heap := w.heap.setIfInBounds loc.c (.map ces' clock') } := fun ces' clock' es' he => by
    refine Post.turn hr hlim h1 (.inr (.inl ⟨_, _, hb⟩)) (by simp) (fun c hc => (MapKept.heap_set h3).2 c hc) rfl rfl rfl ?_
    exact block_map h0 (MapKept.heap_set h3).1 he
  unfold Instr.mapUpdate
  simp only [Sem.run_bind, run_underlying ht, Result.andThen_ok, MapKept.run_getObj_map h3, check_key hc, fk]
  cases x with
  | none =>
    cases x' with
    | some p => exact g2.elim
    | none =>
      refine ⟨_, MapKept.run_setObj_map _ h3, ?_⟩
      refine turn (ces.push ⟨k', v', clock⟩) (clock + 1) _ ?_
      rw [Array.toList_push]
      exact h4.app ⟨rfl, hk, hv, trivial⟩
  | some p =>
    cases x' with
    | none => exact g2.elim
    | some p' =>
      obtain ⟨j, u⟩ := p
      obtain ⟨j', u'⟩ := p'
      obtain ⟨rfl, _, ⟨e, e1, e2⟩, _⟩ := g2
      simp only [Nat.sub_zero, Array.getElem?_toList] at e1
      have hkey : (Instr.keyThatStays (((ces[j]?).map (·.key)).getD k') k').run P w = .ok k' w := by
        rw [e1]
        simp only [Option.map_some, Option.getD_some, Instr.keyThatStays]
        rw [if_pos (same_bits hc hd e2 10000)]
        rfl
      simp only [Sem.run_bind, hkey, Result.andThen_ok]
      refine ⟨_, MapKept.run_setObj_map _ h3, ?_⟩
      refine turn (ces.modify j fun e => { e with key := k', val := v' }) clock _ ?_
      rw [Array.toList_modify]
      exact h4.modify j hk hv

theorem vs_mapDel {mt kt et ty : TypeId} {c : CK} {b : Nat} {k : AV} {m' k' : Value} {es : List (AV × AV × Nat)} {clock : Nat} {x : Option (Nat × AV)} (hr : HR w0 ro μ H w) (ht : P.underlying mt = some (.map kt et)) (hc : keyT P kt = some c) (hm : VR w0 ro μ (.mapv (some b)) m') (hk : VR w0 ro μ k k')
    (hlim : lim ≤ b) (hb : H[b]? = some (.map es clock)) (hf : findKey c k es 0 = some x) {t2 : TypeId} :
    VS w0 ro P lim μ H w (Builtin.delete_ #[mt, t2] ty #[m', k']) (.tup []) (match x with | some (i, _) => H.set b (.map (es.eraseIdx i) clock) | none => H) := by
  obtain ⟨d, hd⟩ : ∃ d, P.underlying kt = some d := by
    unfold keyT at hc
    cases e : P.underlying kt with
    | none => rw [e] at hc; cases hc
    | some d => exact ⟨d, rfl⟩
  obtain ⟨loc, h1, rfl⟩ := mapLoc hm
  obtain ⟨h0, ces, h3, h4⟩ := map_block hr h1 hb
  obtain ⟨x', g1, g2⟩ := find_sim hc hd hk h4 hf
  have fk := MapKept.run_findKey (w := w) (kt := kt) (l := ces.toList) (k := k') hd g1
  have turn : ∀ (ces' : Array MapEntry) (clock' : Nat) (es' : List (AV × AV × Nat)), EntR w0 ro μ es' ces'.toList → Post w0 ro lim μ H w μ (H.set b (.map es' clock')) { w with heap := w.heap.setIfInBounds loc.c (.map ces' clock') } := fun ces' clock' es' he => by
    refine Post.turn hr hlim h1 (.inr (.inl ⟨_, _, hb⟩)) (by simp) (fun c hc => (MapKept.heap_set h3).2 c hc) rfl rfl rfl ?_
    exact block_map h0 (MapKept.heap_set h3).1 he
  have fin : ∀ (ces' : Array MapEntry) (clock' : Nat) (H' : Heap), (match (match x' with | some (i, _) => ces.eraseIdxIfInBounds i | none => ces) with | c => c) = ces' → Post w0 ro lim μ H w μ H' { w with heap := w.heap.setIfInBounds loc.c (.map ces' clock) } → VS w0 ro P lim μ H w (Builtin.delete_ #[mt, t2] ty #[.map (some loc.c), k']) (.tup []) H' := fun ces' clock' H' hce hp => by
    refine ⟨.tuple #[], _, μ, ?_, hp, .tup (vs := []) .nil⟩
    unfold Builtin.delete_
    simp only [List.getElem?_toArray, List.getElem?_cons_zero, List.getElem?_cons_succ, Sem.run_bind, run_underlying ht, Result.andThen_ok, MapKept.run_getObj_map h3, check_key hc, fk]
    cases x' with
    | none => simp only at hce; subst hce; simp only [Sem.run_bind, MapKept.run_setObj_map _ h3, Result.andThen_ok, Sem.run_pure]
    | some p => simp only at hce; subst hce; simp only [Sem.run_bind, MapKept.run_setObj_map _ h3, Result.andThen_ok, Sem.run_pure]
  cases x with
  | none =>
    cases x' with
    | some p => exact g2.elim
    | none =>
      refine fin ces clock H rfl ?_
      have := turn ces clock es h4
      rwa [show H.set b (.map es clock) = H from List.ext_getElem? fun i => by
        rw [List.getElem?_set]
        by_cases q : b = i
        · subst q; rw [if_pos rfl, hb]; simp [(List.getElem?_eq_some_iff.1 hb).1]
        · rw [if_neg q]] at this
  | some p =>
    cases x' with
    | none => exact g2.elim
    | some p' =>
      obtain ⟨j, u⟩ := p
      obtain ⟨j', u'⟩ := p'
      obtain ⟨rfl, _, ⟨e, e1, _⟩, _⟩ := g2
      refine fin (ces.eraseIdxIfInBounds j) clock _ rfl ?_
      refine turn _ clock _ ?_
      have hj : j < ces.size := by
        have := (List.getElem?_eq_some_iff.1 e1).1
        simpa using this
      have : (ces.eraseIdxIfInBounds j).toList = ces.toList.eraseIdx j := by
        unfold Array.eraseIdxIfInBounds
        rw [dif_pos hj, Array.toList_eraseIdx]
      rw [this]
      exact h4.erase j
theorem vs_mapDel_nil {mt kt et ty : TypeId} {c : CK} {k : AV} {m' k' : Value} (hr : HR w0 ro μ H w) (ht : P.underlying mt = some (.map kt et)) (hc : keyT P kt = some c) (hm : VR w0 ro μ (.mapv none) m') {t2 : TypeId} :
    VS w0 ro P lim μ H w (Builtin.delete_ #[mt, t2] ty #[m', k']) (.tup []) H := by
  have := mapNil hm
  subst this
  refine VS.same hr (v' := .tuple #[]) ?_ (.tup (vs := []) .nil)
  unfold Builtin.delete_
  simp only [List.getElem?_toArray, List.getElem?_cons_zero, List.getElem?_cons_succ, Sem.run_bind, run_underlying ht, Result.andThen_ok, check_key hc, Sem.run_pure]

theorem vs_mkMap {t : TypeId} (hr : HR w0 ro μ H w) : VS w0 ro P lim μ H w (Instr.makeMap t none) (.mapv (some H.length)) (H ++ [.map [] 0]) := by
  refine ⟨.map (some w.heap.size), w.alloc (.map #[] 0), μ ++ [some ⟨w.heap.size, 0, 0⟩], by simp [Instr.makeMap], ?_, ?_⟩
  · refine Post.new hr (by simp) (fun c hc => Below.heap_alloc _ _ _ hc) rfl rfl rfl (Nat.le_refl _) ?_
    refine block_map (ces := #[]) (fun h => ?_) ?_ trivial
    · have := (hr.old _ h).1; have := hr.grow; simp at *; omega
    · show (w.heap.push _)[w.heap.size]? = _
      simp
  · exact VR.map (loc := ⟨w.heap.size, 0, 0⟩) (by rw [← hr.len]; simp)

/-! ## Going through a map -/
theorem vs_range {t kt et : TypeId} {m r : AV} {m' : Value} {H' : Heap} (hr : HR w0 ro μ H w) (ht : P.underlying t = some (.map kt et)) (hm : VR w0 ro μ m m') (h : rangeM H m = some (r, H')) : VS w0 ro P lim μ H w (Instr.range t m') r H' := by
  have new : ∀ (m1 : Option Nat) (m2 : Option Nat) (s : Nat), (match m1, m2 with | none, none => True | some b, some c => ∃ l : Loc, μ[b]? = some (some l) ∧ l.c = c | _, _ => False) → Post w0 ro lim μ H w (μ ++ [some ⟨w.heap.size, 0, 0⟩]) (H ++ [.iter m1 s [] s]) (w.alloc (.mapIter m2 s #[] s)) ∧ VR w0 ro (μ ++ [some ⟨w.heap.size, 0, 0⟩]) (.ptr (some (H.length, 0))) (.pointer (some ⟨w.heap.size, 0, none⟩)) := fun m1 m2 s hmm => by
    refine ⟨Post.new hr (by simp) (fun c hc => Below.heap_alloc _ _ _ hc) rfl rfl rfl (Nat.le_refl _) ⟨fun h => ?_, rfl, m2, ?_, ?_⟩, ?_⟩
    · have := (hr.old _ h).1; have := hr.grow; simp at *; omega
    · show (w.heap.push _)[w.heap.size]? = _
      simp
    · cases m1 <;> cases m2 <;> first | exact hmm | (obtain ⟨q, h3, h4⟩ := hmm; exact ⟨q, Ext.app _ _ _ _ h3, h4⟩)
    · have := VR.ptr (w0 := w0) (ro := ro) (μ := μ ++ [some (⟨w.heap.size, 0, 0⟩ : Loc)]) (b := H.length) (o := 0) (loc := ⟨w.heap.size, 0, 0⟩) (by rw [← hr.len]; simp)
      simpa using this
  unfold rangeM at h
  split at h
  · cases h
    have := mapNil hm
    subst this
    obtain ⟨h1, h2⟩ := new none none 0 trivial
    exact ⟨_, _, _, by simp [Instr.range, run_underlying ht], h1, h2⟩
  · rename_i b
    split at h
    · rename_i es clock hb
      cases h
      obtain ⟨loc, k1, rfl⟩ := mapLoc hm
      obtain ⟨_, ces, k2, _⟩ := map_block hr k1 hb
      obtain ⟨h1, h2⟩ := new (some b) (some loc.c) clock ⟨loc, k1, rfl⟩
      exact ⟨_, _, _, by simp [Instr.range, run_underlying ht, MapKept.run_getObj_map k2], h1, h2⟩
    · cases h
  · cases h

theorem EntR.filter {p : AV × AV × Nat → Bool} {q : MapEntry → Bool} (hpq : ∀ e e', e.2.2 = e'.born → p e = q e') : ∀ {a : List (AV × AV × Nat)} {a' : List MapEntry}, EntR w0 ro μ a a' → EntR w0 ro μ (a.filter p) (a'.filter q)
  | [], [], _ => trivial
  | [], _ :: _, h => h.elim
  | _ :: _, [], h => h.elim
  | (k, v, b) :: a, e :: a', h => by
    have e1 := hpq (k, v, b) e h.1.symm
    have ih := EntR.filter hpq h.2.2.2
    cases q1 : q e with
    | true => rw [List.filter_cons_of_pos (by rw [e1, q1]), List.filter_cons_of_pos q1]; exact ⟨h.1, h.2.1, h.2.2.1, ih⟩
    | false => rw [List.filter_cons_of_neg (by rw [e1, q1]; simp), List.filter_cons_of_neg (by rw [q1]; simp)]; exact ih
theorem EntR.all {p : AV × AV × Nat → Bool} {q : MapEntry → Bool} (hpq : ∀ e e', e.2.2 = e'.born → p e = q e') : ∀ {a : List (AV × AV × Nat)} {a' : List MapEntry}, EntR w0 ro μ a a' → a.all p = a'.all q
  | [], [], _ => rfl
  | [], _ :: _, h => h.elim
  | _ :: _, [], h => h.elim
  | (k, v, b) :: a, e :: a', h => by simp only [List.all_cons]; rw [hpq (k, v, b) e h.1.symm, EntR.all hpq h.2.2.2]

theorem vs_next {ty : TypeId} {b : Nat} {r : AV} {it : Value} {H' : Heap} (hr : HR w0 ro μ H w) (hit : VR w0 ro μ (.ptr (some (b, 0))) it) (h : nextM lim H b = some (r, H')) : VS w0 ro P lim μ H w (Instr.next it false ty) r H' := by
  obtain ⟨loc, hm, rfl⟩ : ∃ loc : Loc, μ[b]? = some (some loc) ∧ it = .pointer (some ⟨loc.c, loc.k + 0, none⟩) := by
    cases hit with | ptr h => exact ⟨_, h, rfl⟩
  have hbr := hr.blk b loc hm
  have over : VR w0 ro μ (.tup [.bool false]) (.tuple #[.bool false]) := VR.tup (vs := [.bool false]) (.cons (.bool _) .nil)
  unfold nextM at h
  split at h
  · rename_i s l k hb
    cases h
    rw [hb] at hbr
    obtain ⟨h0, hk, m', h1, h2⟩ := hbr
    cases m' with
    | some c => exact h2.elim
    | none =>
      refine VS.same hr (v' := .tuple #[.bool false]) ?_ over
      rw [hk]
      simp [Instr.next, getObj, Sem.run, h1]
  · rename_i rr since seen last hb
    rw [hb] at hbr
    obtain ⟨h0, hk, m', h1, h2⟩ := hbr
    cases m' with
    | none => exact h2.elim
    | some c =>
      obtain ⟨l2, h3, rfl⟩ := h2
      split at h
      · rename_i es clock hb2
        obtain ⟨_, ces, h4, h5⟩ := map_block hr h3 hb2
        have ea : (es.all fun e => decide (e.2.2 ≥ last)) = ces.all (fun e => decide (e.born ≥ last)) := by
          rw [← Array.all_toList]
          exact EntR.all (fun e e' q => by rw [q]) h5
        have ee : es.isEmpty = ces.isEmpty := by
          have := h5.len
          rw [Bool.eq_iff_iff]
          simp only [List.isEmpty_iff, Array.isEmpty_iff]
          constructor
          · intro q; rw [q] at this; simpa using this
          · intro q; subst q; simpa using this.symm
        split at h
        · cases h
        · rename_i hno
          have hno' : ¬ ((!seen.toArray.isEmpty && !ces.isEmpty && ces.all fun e => decide (e.born ≥ last)) = true) := by
            rw [← ee, ← ea]
            simpa using hno
          have hf : EntR w0 ro μ (es.filter fun e => !seen.contains e.2.2) (ces.toList.filter fun e => !seen.toArray.contains e.born) :=
            EntR.filter (fun e e' q => by rw [q]; simp) h5
          have hrun : ∀ (cand : Array (Option MapEntry)) (res : Value) (w' : World), (let left := ces.filter fun e => !seen.toArray.contains e.born
              let old := left.filter (·.born < since)
              let new := left.filter (·.born ≥ since)
              (if old.isEmpty then #[none] else #[]) ++ (old ++ new).map some) = cand → ((do
              match cand[← choose (.mapNext cand.size)]? with
              | some (some e) =>
                setObj loc.c (.mapIter (some l2.c) since (seen.toArray.push e.born) clock)
                pure (.tuple #[.bool true, e.key, e.val])
              | some none => pure (.tuple #[.bool false])
              | none => stuck "Next: no such candidate" : Sem Value)).run P w = .ok res w' → (Instr.next (.pointer (some ⟨loc.c, 0, none⟩)) false ty).run P w = .ok res w' := fun cand res w' hcand q => by
            subst hcand
            unfold Instr.next
            have g1 : (getObj loc.c).run P w = .ok (.mapIter (some l2.c) since seen.toArray last) w := by simp [getObj, Sem.run, h1]
            simp only [Sem.run_bind, g1, Result.andThen_ok, MapKept.run_getObj_map h4]
            rw [if_neg hno']
            exact q
          rw [hk]
          split at h
          · rename_i el
            cases h
            rw [el] at hf
            cases el2 : (ces.toList.filter fun e => !seen.toArray.contains e.born) with
            | cons x y => rw [el2] at hf; exact hf.elim
            | nil =>
              refine VS.same hr (v' := .tuple #[.bool false]) (hrun #[none] _ _ ?_ ?_) over
              · have : (ces.filter fun e => !seen.toArray.contains e.born) = #[] := by
                  apply Array.toList_inj.1
                  rw [Array.toList_filter, el2]
                simp only [this]
                simp
              · simp [choose, Sem.run, Question.forced]
          · rename_i e el
            split at h
            · rename_i q
              cases h
              rw [el] at hf
              cases el2 : (ces.toList.filter fun e => !seen.toArray.contains e.born) with
              | nil => rw [el2] at hf; exact hf.elim
              | cons x y =>
                rw [el2] at hf
                cases y with
                | cons _ _ => exact hf.2.2.2.elim
                | nil =>
                  obtain ⟨q1, q2, q3, _⟩ := hf
                  have hl : (ces.filter fun e => !seen.toArray.contains e.born) = #[x] := by
                    apply Array.toList_inj.1
                    rw [Array.toList_filter, el2]
                  have hlt : x.born < since := by rw [q1]; exact q.1
                  have hset : (setObj loc.c (.mapIter (some l2.c) since (seen.toArray.push x.born) clock)).run P w = .ok () { w with heap := w.heap.setIfInBounds loc.c (.mapIter (some l2.c) since (seen.toArray.push x.born) clock) } := by
                    simp [setObj, Sem.run, h1]
                  have hge : ¬ (since ≤ x.born) := by omega
                  refine ⟨.tuple #[.bool true, x.key, x.val], { w with heap := w.heap.setIfInBounds loc.c (.mapIter (some l2.c) since (seen.toArray.push x.born) clock) }, μ, hrun #[some x] _ _ ?_ ?_, ?_, VR.tup (vs := [.bool true, x.key, x.val]) (.cons (.bool _) (.cons q2 (.cons q3 .nil)))⟩
                  · simp only [hl]
                    simp [hlt, hge]
                  · have e4 : (choose (.mapNext 1)).run P w = .ok 0 w := by simp [choose, Sem.run, Question.forced]
                    have e5 : (#[some x] : Array (Option MapEntry)).size = 1 := rfl
                    have e6 : (#[some x] : Array (Option MapEntry))[0]? = some (some x) := rfl
                    simp only [e5, Sem.run_bind, e4, Result.andThen_ok, e6, hset, Sem.run_pure]
                  · refine Post.turn hr q.2 hm (.inr (.inr ⟨_, _, _, _, hb⟩)) (by simp) (fun c hc => (MapKept.heap_set h1).2 c hc) rfl rfl rfl ?_
                    refine ⟨h0, hk, some l2.c, ?_, l2, h3, rfl⟩
                    rw [(MapKept.heap_set h1).1, q1]
                    simp
            · cases h
          · cases h
      · cases h
  · cases h

theorem EntR.find {p : AV × AV × Nat → Bool} {q : MapEntry → Bool} (hpq : ∀ e e', e.2.2 = e'.born → p e = q e') : ∀ {a : List (AV × AV × Nat)} {a' : List MapEntry} {x : AV × AV × Nat}, EntR w0 ro μ a a' → a.find? p = some x → ∃ e : MapEntry, a'.find? q = some e ∧ VR w0 ro μ x.1 e.key ∧ VR w0 ro μ x.2.1 e.val
  | [], [], x, _, h => by cases h
  | [], _ :: _, _, h, _ => h.elim
  | _ :: _, [], _, h, _ => h.elim
  | (k, v, b) :: a, e :: a', x, h, k2 => by
    have e1 := hpq (k, v, b) e h.1.symm
    cases q1 : q e with
    | true =>
      rw [List.find?_cons_of_pos (by rw [e1, q1])] at k2
      cases k2
      exact ⟨e, by rw [List.find?_cons_of_pos q1], h.2.1, h.2.2.1⟩
    | false =>
      rw [List.find?_cons_of_neg (by rw [e1, q1]; simp)] at k2
      rw [List.find?_cons_of_neg (by rw [q1]; simp)]
      exact EntR.find hpq h.2.2.2 k2
theorem vs_entry {b : Nat} {r : AV} {it : Value} {H' : Heap} (hr : HR w0 ro μ H w) (hit : VR w0 ro μ (.ptr (some (b, 0))) it) (h : entryM H b = some (r, H')) : VS w0 ro P lim μ H w (Instr.entry it) r H' := by
  obtain ⟨loc, hm, rfl⟩ : ∃ loc : Loc, μ[b]? = some (some loc) ∧ it = .pointer (some ⟨loc.c, loc.k + 0, none⟩) := by
    cases hit with | ptr h => exact ⟨_, h, rfl⟩
  have hbr := hr.blk b loc hm
  unfold entryM at h
  split at h
  · rename_i rr since seen last hb
    rw [hb] at hbr
    obtain ⟨h0, hk, m', h1, h2⟩ := hbr
    cases m' with
    | none => exact h2.elim
    | some c =>
      obtain ⟨l2, h3, rfl⟩ := h2
      split at h
      · rename_i st es clock e1 hb2
        obtain ⟨_, ces, h4, h5⟩ := map_block hr h3 hb2
        split at h
        · rename_i ec
          subst ec
          simp only [Option.map_eq_some_iff, Prod.mk.injEq] at h
          obtain ⟨x, k1, rfl, rfl⟩ := h
          obtain ⟨e, k2, k3, k4⟩ := EntR.find (q := fun e : MapEntry => e.born == st) (fun e e' q => by rw [q]) h5 k1
          have g1 : (getObj loc.c).run P w = .ok (.mapIter (some l2.c) since seen.toArray clock) w := by simp [getObj, Sem.run, h1]
          have g2 : seen.toArray.back? = some st := by rw [List.back?_toArray]; exact e1
          have g3 : ces.find? (fun e => e.born == st) = some e := by rw [← Array.find?_toList]; exact k2
          refine VS.same hr (v' := .tuple #[e.key, e.val]) ?_ (VR.tup (vs := [e.key, e.val]) (.cons k3 (.cons k4 .nil)))
          rw [hk]
          unfold Instr.entry
          simp only [Sem.run_bind, g1, Result.andThen_ok, g2, MapKept.run_getObj_map h4, g3]
          simp
        · cases h
      · cases h
  · cases h

theorem vs_lenMap {t ty kt et : TypeId} {m r : AV} {m' : Value} (hr : HR w0 ro μ H w) (ht : P.underlying t = some (.map kt et)) (hm : VR w0 ro μ m m') (h : lenMapOf H m = some (r, H)) : VS w0 ro P lim μ H w (Builtin.len_ #[t] ty #[m']) r H := by
  unfold lenMapOf at h
  cases m <;> first | (simp only [reduceCtorEq] at h; done) | skip
  rename_i b
  cases b with
  | none =>
    simp only [Option.some.injEq, Prod.mk.injEq, and_true] at h
    subst h
    have := mapNil hm
    subst this
    exact VS.same hr (v' := .int .i64 0) (by simp [Builtin.len_, run_underlying ht, goInt]) (.int _ _)
  | some b =>
    obtain ⟨loc, h1, rfl⟩ := mapLoc hm
    simp only at h
    split at h
    · rename_i es clock hb
      simp only [Option.some.injEq, Prod.mk.injEq, and_true] at h
      subst h
      obtain ⟨_, ces, h3, h4⟩ := map_block hr h1 hb
      have hl := h4.len
      simp only [Array.length_toList] at hl
      exact VS.same hr (v' := .int .i64 es.length) (by simp [Builtin.len_, run_underlying ht, goInt, MapKept.run_getObj_map h3, hl]) (.int _ _)
    · cases h

theorem vs_assert {xt t : TypeId} {x r : AV} {x' : Value} {ok : Option AV} {d : TypeDesc} {com : Bool} {z : Value} (hr : HR w0 ro μ H w) (hd : P.underlying t = some d) (hi : ∀ ms, d ≠ .interface ms) (hx : VR w0 ro μ x x')
    (hok : (com = false ∧ ok = none) ∨ (com = true ∧ ∃ za, ok = some za ∧ (P.info? t).bind (·.zero) = some z ∧ ofConstA z = some za))
    (h : assertOf H t x ok = some (r, H)) : VS w0 ro P lim μ H w (Instr.typeAssert x' xt t com) r H := by
  unfold assertOf at h
  have hrun : ∀ y : Value, (Instr.typeAssert y xt t com).run P w = ((match y with
    | .nilIface => (if com then (do pure (.tuple #[← zeroValue t, .bool false])) else runtimePanic (.typeAssertion (some xt) none t ""))
    | .iface t' v => if t' = t then pure (if com then .tuple #[v, .bool true] else v) else (if com then (do pure (.tuple #[← zeroValue t, .bool false])) else runtimePanic (.typeAssertion (some xt) (some t') t ""))
    | _ => stuck "TypeAssert: interface value expected" : Sem Value)).run P w := fun y => by
    unfold Instr.typeAssert
    simp only [Sem.run_bind, run_underlying hd, Result.andThen_ok]
    cases d <;> first | (exact absurd rfl (hi _)) | (cases y <;> rfl)
  rcases hok with ⟨rfl, rfl⟩ | ⟨rfl, za, rfl, hz, hza⟩
  · cases x <;> first | (simp only [reduceCtorEq] at h; done) | skip
    rename_i t' v
    simp only at h
    split at h
    · rename_i e
      cases h
      cases hx with
      | iface k => exact VS.same hr (by rw [hrun]; simp only [if_pos e]; rfl) k
    · cases h
  · have hv : VR w0 ro μ za z := ofConstA_VR hza
    cases x <;> first | (simp only [reduceCtorEq] at h; done) | skip
    · rename_i t' v
      simp only at h
      cases h
      cases hx with
      | @iface _ _ v' k =>
        by_cases e : t' = t
        · simp only [if_pos e]
          exact VS.same hr (v' := .tuple #[v', .bool true]) (by rw [hrun]; simp only [if_pos e]; rfl) (VR.tup (vs := [v', .bool true]) (.cons k (.cons (.bool _) .nil)))
        · simp only [if_neg e]
          exact VS.same hr (v' := .tuple #[z, .bool false]) (by rw [hrun]; simp only [if_neg e]; simp [zero_run hz]) (VR.tup (vs := [z, .bool false]) (.cons hv (.cons (.bool _) .nil)))
    · cases h
      cases hx
      exact VS.same hr (v' := .tuple #[z, .bool false]) (by rw [hrun]; simp [zero_run hz]) (VR.tup (vs := [z, .bool false]) (.cons hv (.cons (.bool _) .nil)))

end
end Go.Proofs.YtdbgebbofpgjmaaGreatA

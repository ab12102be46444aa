/- How the program's operations are read as the small machine's, and that they come to the same. No statement about the program is proved here. -/
import Derived.Test.YtdbgebbofpgjmaaGreatAM
namespace Go.Proofs.YtdbgebbofpgjmaaGreatA
open Go Go.RowKit
set_option linter.unusedVariables false

/-! ## How an operation is read -/
def parts2 (place : Nat → Option (Nat × Nat)) : List (Nat × Operand) → Option (List (Nat × Nat × AX))
  | [] => some []
  | (i, x) :: r => (place i).bind fun (o, s) => (lowX x).bind fun ax => (parts2 place r).map ((o, s, ax) :: ·)
def zeroT (P : Program) (t : TypeId) : Option (List AV) := ((P.info? t).bind (·.zero)).bind fun z => ofConsts z.cells.toList
def placesT (P : Program) (t : TypeId) : Option (Nat → Option (Nat × Nat)) :=
  match P.underlying t with
  | some (.array _ e) => (P.info? e).map fun i => fun k => some (k * i.size, i.size)
  | some (.struct fields) => (fields.toList.mapM (fun f => (P.info? f.type).map fun i => (f.offset, i.size))).map fun l => fun k => l.toArray[k]?
  | _ => none
def lowO (x : Option Operand) : Option (Option AX) :=
  match x with
  | none => some none
  | some x => (lowX x).map some
def isIface (P : Program) (t : TypeId) : Bool := match P.underlying t with | some (.interface _) => true | some _ => false | none => true

def lowBin (P : Program) (op : BinOp) (t : TypeId) (x y : AX) : AOp :=
  let eq (neg : Bool) : AOp :=
    match P.underlying t with
    | some (.int _) | some .string => .bin op x y
    | some .bool => .eqbool neg x y
    | some (.pointer _) => .eqptr neg x y
    | some (.map _ _) => .eqmap neg x y
    | some (.struct _) | some (.array _ _) =>
      match kindsT P 10 t with
      | some ks => if P.eqGuardType P.depth t = false then .eqagg ks neg x y else .fail
      | none => .fail
    | _ => .fail
  match op with
  | .eql => eq false
  | .neq => eq true
  | _ => .bin op x y

def lowBuiltin (P : Program) (b : Builtin) (ts : List TypeId) (xs : List AX) : AOp :=
  match b, ts, xs with
  | .len, [t], [x] =>
    match P.underlying t with
    | some (.slice _) => .lenSl x
    | some .string => .lenStr x
    | some (.array n _) => .lenConst n
    | some (.map _ _) => .lenMap x
    | _ => .fail
  | .append, [t, t2], [s, x] =>
    match P.underlying t, P.underlying t2 with
    | some (.slice e), some (.slice _) =>
      match P.info? e with
      | some i => match i.zero with
        | some z => if z.cells.size = i.size then .append i.size i.bytes s x else .fail
        | none => .fail
      | none => .fail
    | some (.slice e), some (.int _) =>
      match P.info? e with
      | some i => match i.zero with
        | some z => if z.cells.size = i.size then (match ofConsts z.cells.toList with | some za => .appendZ i.size i.bytes za s x | none => .fail) else .fail
        | none => .fail
      | none => .fail
    | _, _ => .fail
  | .cap, [t], [x] => match P.underlying t with | some (.slice _) => .cap x | _ => .fail
  | .copy, [t, _], [d, s] => match P.underlying t with
    | some (.slice e) => match sizeT P e with | some es => .copy es d s | none => .fail
    | _ => .fail
  | .delete, [t, _], [m, k] => match P.underlying t with
    | some (.map kt _) => match keyT P kt with | some c => .mapDel c m k | none => .fail
    | _ => .fail
  | .max, _, xs => .max xs
  | .min, _, xs => .min xs
  | _, _, _ => .fail

def zeroA (P : Program) (t : TypeId) : Option AV := ((P.info? t).bind (·.zero)).bind ofConstA
def lowLookup (P : Program) (t : TypeId) (m k : AX) (ok : Bool) : AOp :=
  match P.underlying t with
  | some (.map kt et) => match keyT P kt, zeroA P et with | some c, some z => .lookup c z m k ok | _, _ => .fail
  | _ => .fail
def lowMapSet (P : Program) (t : TypeId) (m k v : AX) : AOp :=
  match P.underlying t with
  | some (.map kt _) => match keyT P kt with | some c => .mapSet c m k v | none => .fail
  | _ => .fail
def lowAssert (P : Program) (t : TypeId) (x : AX) (com : Bool) : AOp :=
  if isIface P t = false then (if com then (match zeroA P t with | some z => .assertTo x t (some z) | none => .fail) else .assertTo x t none) else .fail

def lowCall (P : Program) (c : Call) : AOp :=
  match lowXs c.args.toList with
  | none => .fail
  | some xs =>
    match c.callee with
    | .builtin b => lowBuiltin P b c.argTypes.toList xs
    | .value f => match lowX f with | some f => .call (.fn f) xs | none => .fail
    | .invoke r name => match lowX r with | some r => .call (.meth r name) xs | none => .fail

def lowOp (P : Program) (o : Op) : AOp :=
  match o with
  | .move x | .assign x => match lowX x with | some x => .mv x | none => .fail
  | .pick c a b => match lowX c, lowX a, lowX b with | some c, some a, some b => .pick c a b | _, _, _ => .fail
  | .alloc e => match zeroT P e with | some z => .alloc z | none => .fail
  | .box e x => match lowX x with | some x => .box x | none => .fail
  | .build t ps => match zeroT P t, placesT P t with
    | some z, some pl => match parts2 pl ps.toList with | some ps => .build z ps | none => .fail
    | _, _ => .fail
  | .buildSlice t len ps => match P.underlying t with
    | some (.slice e) => match sizeT P e, zeroT P e with
      | some es, some z => if z.length = es ∧ 0 < es ∧ len * es ≤ 16777216 then (match parts2 (fun i => some (i * es, es)) ps.toList with | some ps => .buildSlice es len (List.replicate len z).flatten ps | none => .fail) else .fail
      | _, _ => .fail
    | _ => .fail
  | .load t a => match shp P t, lowX a with | some n, some a => .load n a | _, _ => .fail
  | .store t a v => match sizeT P t, lowX a, lowX v with | some n, some a, some v => .store n a v | _, _, _ => .fail
  | .nilCheck x => match lowX x with | some x => .nilchk x | none => .fail
  | .binOp op t x y _ => match lowX x, lowX y with | some x, some y => lowBin P op t x y | _, _ => .fail
  | .unOp op _ x => match lowX x with | some x => .un op x | none => .fail
  | .convert src dst x => match lowX x, P.underlying src, P.underlying dst with
    | some x, some (.int _), some (.int k) => .conv k x
    | some x, some .string, some .string => .same x
    | some x, some (.slice e), some .string => (match P.underlying e with | some (.int .u8) => .ofBytes x | _ => .fail)
    | _, _, _ => .fail
  | .fieldAddr t x i => match lowX x, P.underlying t with
    | some x, some (.struct fs) => match fs[i]? with
      | some f => (match sizeT P f.type with | some m => if m ≠ 0 then .fieldAddr f.offset x else .fail | none => .fail)
      | none => .fail
    | _, _ => .fail
  | .field t x i => match lowX x, P.underlying t with
    | some x, some (.struct fs) => match fs[i]? with
      | some f => (match shp P f.type with | some n => .field f.offset n x | none => .fail)
      | none => .fail
    | _, _ => .fail
  | .indexAddr t x i => match lowX x, lowX i, P.underlying t with
    | some x, some i, some (.array len e) => (match sizeT P e with | some es => .idxArr len es x i | none => .fail)
    | some x, some i, some (.slice e) => (match sizeT P e with | some es => .idxSl es x i | none => .fail)
    | _, _, _ => .fail
  | .index t x i => match lowX x, lowX i, P.underlying t with
    | some x, some i, some (.array len e) => (match sizeT P e, shp P e with | some es, some n => .idxVal len es n x i | _, _ => .fail)
    | some x, some i, some .string => .idxStr x i
    | _, _, _ => .fail
  | .slice t x l h m => match lowX x, lowO l, lowO h, lowO m with
    | some x, some l, some h, some m => match P.underlying t with
      | some (.array len e) => (match sizeT P e, m with | some es, none => .sliceArr len es x l h m | _, _ => .fail)
      | some (.slice e) => (match sizeT P e with | some es => if m.isSome = true → h.isSome = true then .sliceSl es x l h m else .fail | none => .fail)
      | some .string => (match m with | none => .sliceStr x l h | some _ => .fail)
      | _ => .fail
    | _, _, _, _ => .fail
  | .extract x i => match lowX x with | some x => .extract x i | none => .fail
  | .makeFunc f a c => match lowXs a.toList, lowXs c.toList with | some a, some c => .mkFn f a c | _, _ => .fail
  | .makeInterface t x => match lowX x with | some x => if isIface P t = false then .mkIface t x else .fail | none => .fail
  | .makeSlice t l c => match lowX l, lowX c, P.underlying t with
    | some l, some c, some (.slice e) => match P.info? e, zeroT P e with
      | some i, some z => .mkSlice i.size i.bytes z l c
      | _, _ => .fail
    | _, _, _ => .fail
  | .range t x => match lowX x with | some x => (match P.underlying t with | some (.map _ _) => .rangeM x | _ => .fail) | none => .fail
  | .next x s => match lowX x, s with | some x, false => .nextM x | _, _ => .fail
  | .entry x => match lowX x with | some x => .entryM x | none => .fail
  | .makeMap _ r => match r with | none => .mkMap | some _ => .fail
  | .lookup t x k ok => match lowX x, lowX k with | some x, some k => lowLookup P t x k ok | _, _ => .fail
  | .mapUpdate t m k v | .insert t m k v => match lowX m, lowX k, lowX v with | some m, some k, some v => lowMapSet P t m k v | _, _, _ => .fail
  | .typeAssert x _ t com => match lowX x with | some x => lowAssert P t x com | none => .fail
  | .call c => lowCall P c
  | _ => .fail

section
variable {w0 : World} {ro : Nat → Prop} {P : Program} {μ : Mu} {H : Heap} {w : World} {T : Tmps} {lim : Nat}

/-- What an operation that is no call comes to. -/
def Came (w0 : World) (ro : Nat → Prop) (P : Program) (lim : Nat) (μ : Mu) (H : Heap) (w : World) (s : Sem Next) (r : AV) (H' : Heap) : Prop :=
  ∃ nx w' μ', s.run P w = .ok nx w' ∧ Post w0 ro lim μ H w μ' H' w' ∧ ((∃ v', nx = .value v' ∧ VR w0 ro μ' r v') ∨ (nx = .skip ∧ r = .noval))

theorem Came.of {s : Sem Value} {r : AV} {H' : Heap} (h : VS w0 ro P lim μ H w s r H') : Came w0 ro P lim μ H w (do pure (.value (← s))) r H' := by
  obtain ⟨v', w', μ', h1, h2, h3⟩ := h
  exact ⟨.value v', w', μ', by simp [h1], h2, .inl ⟨v', rfl, h3⟩⟩

theorem parts2_VR {place : Nat → Option (Nat × Nat)} {a : Act} (har : AR w0 ro μ T a) : ∀ {ps : List (Nat × Operand)} {r : List (Nat × Nat × AX)}, parts2 place ps = some r →
    PartsVR w0 ro μ place (r.map fun (o, s, x) => (o, s, x.ev T)) (ps.map fun (i, x) => (i, a.eval x))
  | [], r, h => by simp [parts2] at h; subst h; trivial
  | (i, x) :: ps, r, h => by
    simp only [parts2, Option.bind_eq_some_iff, Option.map_eq_some_iff] at h
    obtain ⟨⟨o, s⟩, h1, ax, h2, r', h3, rfl⟩ := h
    exact ⟨h1, lowX_VR h2 har, parts2_VR har h3⟩

theorem lowO_VR {x : Option Operand} {ax : Option AX} {a : Act} (har : AR w0 ro μ T a) (h : lowO x = some ax) : OptVR w0 ro μ (ax.map (·.ev T)) (x.map a.eval) := by
  cases x with
  | none => simp [lowO] at h; subst h; trivial
  | some x =>
    simp only [lowO, Option.map_eq_some_iff] at h
    obtain ⟨y, h1, rfl⟩ := h
    exact lowX_VR h1 har

theorem came_fail {r : AV} {H' : Heap} {s : Sem Next} (h : aop lim H T .fail = some (r, H')) : Came w0 ro P lim μ H w s r H' := by simp [aop] at h

theorem came_bin {op : BinOp} {t yt : TypeId} {x y : Operand} {ax ay : AX} {a : Act} {r : AV} {H' : Heap} (hr : HR w0 ro μ H w) (har : AR w0 ro μ T a) (h1 : lowX x = some ax) (h2 : lowX y = some ay)
    (h : aop lim H T (lowBin P op t ax ay) = some (r, H')) : Came w0 ro P lim μ H w (do pure (.value (← (do eqGuard op t x y (a.eval x) (a.eval y); binOp op t (a.eval x) (a.eval y) : Sem Value)))) r H' := by
  have vx := lowX_VR h1 har
  have vy := lowX_VR h2 har
  have plain : aop lim H T (.bin op ax ay) = some (r, H') → Came w0 ro P lim μ H w (do pure (.value (← (do eqGuard op t x y (a.eval x) (a.eval y); binOp op t (a.eval x) (a.eval y) : Sem Value)))) r H' := fun h => by
    simp only [aop, Option.map_eq_some_iff] at h
    obtain ⟨r', h3, h4⟩ := h
    cases h4
    exact .of (vs_bin hr vx vy h3)
  have eq : ∀ neg, op = (if neg then .neq else .eql) → aop lim H T (match P.underlying t with
    | some (.int _) | some .string => .bin op ax ay
    | some .bool => .eqbool neg ax ay
    | some (.pointer _) => .eqptr neg ax ay
    | some (.map _ _) => .eqmap neg ax ay
    | some (.struct _) | some (.array _ _) =>
      match kindsT P 10 t with
      | some ks => if P.eqGuardType P.depth t = false then .eqagg ks neg ax ay else .fail
      | none => .fail
    | _ => .fail) = some (r, H') → Came w0 ro P lim μ H w (do pure (.value (← (do eqGuard op t x y (a.eval x) (a.eval y); binOp op t (a.eval x) (a.eval y) : Sem Value)))) r H' := fun neg hop h => by
    have agg : aggT P t = some true → aop lim H T (match kindsT P 10 t with
      | some ks => if P.eqGuardType P.depth t = false then .eqagg ks neg ax ay else .fail
      | none => .fail) = some (r, H') → Came w0 ro P lim μ H w (do pure (.value (← (do eqGuard op t x y (a.eval x) (a.eval y); binOp op t (a.eval x) (a.eval y) : Sem Value)))) r H' := fun hagg h => by
      split at h
      · rename_i ks hk
        split at h
        · rename_i hg
          simp only [aop] at h
          split at h
          · rename_i p q e1 e2
            rw [Option.map_eq_some_iff] at h
            obtain ⟨r', h3, h4⟩ := h
            cases h4
            rw [e1] at vx; rw [e2] at vy
            exact .of (vs_eqagg hr hop hk (by omega) hg hagg vx vy h3)
          · cases h
        · exact came_fail h
      · exact came_fail h
    split at h
    · exact plain h
    · exact plain h
    · rename_i u
      simp only [aop] at h
      split at h
      · rename_i e1 e2
        cases h
        rw [e1] at vx; rw [e2] at vy
        exact .of (vs_eqbool hr hop u vx vy)
      · cases h
    · rename_i u
      simp only [aop] at h
      split at h
      · rename_i e1 e2
        rw [Option.map_eq_some_iff] at h
        obtain ⟨r', h3, h4⟩ := h
        cases h4
        rw [e1] at vx; rw [e2] at vy
        exact .of (vs_eqptr hr hop u vx vy h3)
      · cases h
    · rename_i u
      simp only [aop] at h
      split at h
      · rename_i e1 e2
        rw [Option.map_eq_some_iff] at h
        obtain ⟨r', h3, h4⟩ := h
        cases h4
        rw [e1] at vx; rw [e2] at vy
        exact .of (vs_eqmap hr hop u vx vy h3)
      · cases h
    · rename_i u; exact agg (by simp [aggT, u]) h
    · rename_i u; exact agg (by simp [aggT, u]) h
    · exact came_fail h
  cases op
  case eql => exact eq false rfl h
  case neq => exact eq true rfl h
  all_goals exact plain h

theorem came_builtin {b : Builtin} {ts : Array TypeId} {ty : TypeId} {cs : Array Bool} {xs : List AX} {vs : Array Value} {r : AV} {H' : Heap} (hr : HR w0 ro μ H w) (hv : VRs w0 ro μ (xs.map (·.ev T)) vs.toList)
    (h : aop lim H T (lowBuiltin P b ts.toList xs) = some (r, H')) : Came w0 ro P lim μ H w (builtin b ts ty cs vs) r H' := by
  have hmm : ∀ op : Bool, b = (if op then Builtin.max else Builtin.min) → aop lim H T (if op then .max xs else .min xs) = some (r, H') → Came w0 ro P lim μ H w (builtin b ts ty cs vs) r H' := fun op hb h => by
    have h' : (maxAll op (xs.map (·.ev T))).map (·, H) = some (r, H') := by cases op <;> exact h
    rw [Option.map_eq_some_iff] at h'
    obtain ⟨r', h1, h2⟩ := h'
    cases h2
    obtain ⟨l⟩ := vs
    generalize xs.map (·.ev T) = ys at hv h1
    cases hv with
    | nil => simp [maxAll] at h1
    | cons k t =>
      rename_i y v ys vs
      obtain ⟨r', g1, g2⟩ := maxAll_run (P := P) (w := w) op ys vs y r v t k h1
      subst hb
      cases op
      · exact .of (VS.same hr (s := Builtin.min_ ts ty ⟨v :: vs⟩) (by simpa [Builtin.min_] using g1) g2)
      · exact .of (VS.same hr (s := Builtin.max_ ts ty ⟨v :: vs⟩) (by simpa [Builtin.max_] using g1) g2)
  by_cases hb1 : b = .max
  · subst hb1; exact hmm true rfl h
  by_cases hb2 : b = .min
  · subst hb2; exact hmm false rfl h
  unfold lowBuiltin at h
  split at h
  · rename_i t x e
    have ets : ts = #[t] := by cases ts; simpa using e
    subst ets
    simp only [List.map_cons, List.map_nil] at hv
    obtain ⟨v, rfl, hx⟩ : ∃ v, vs = #[v] ∧ VR w0 ro μ (x.ev T) v := by
      obtain ⟨l⟩ := vs
      cases hv with | cons k t => cases t; exact ⟨_, rfl, k⟩
    split at h
    · rename_i u
      simp only [aop, Option.map_eq_some_iff] at h
      obtain ⟨r', h3, h4⟩ := h
      cases h4
      exact .of (vs_lenSl hr u hx h3)
    · rename_i u
      simp only [aop] at h
      split at h
      · rename_i s e
        cases h
        rw [e] at hx
        exact .of (vs_lenStr hr u hx)
      · cases h
    · rename_i n e1 u
      simp only [aop] at h
      cases h
      exact .of (VS.same hr (v' := .int .i64 n) (by simp [Builtin.len_, run_underlying u, goInt]) (.int _ _))
    · rename_i kt et u
      have hH : H' = H := by
        simp only [aop] at h
        split at h
        · cases h; rfl
        · split at h
          · cases h; rfl
          · cases h
        · cases h
      subst hH
      exact .of (vs_lenMap hr u hx h)
    · exact came_fail h
  · rename_i t t2 s x e
    have ets : ts = #[t, t2] := by cases ts; simpa using e
    subst ets
    simp only [List.map_cons, List.map_nil] at hv
    obtain ⟨v, v2, rfl, hs, hx⟩ : ∃ v v2, vs = #[v, v2] ∧ VR w0 ro μ (s.ev T) v ∧ VR w0 ro μ (x.ev T) v2 := by
      obtain ⟨l⟩ := vs
      cases hv with | cons k t => cases t with | cons k' t => cases t; exact ⟨_, _, rfl, k, k'⟩
    split at h
    · rename_i e1 e2 u1 u2
      split at h
      · rename_i i hi
        split at h
        · rename_i z hz
          split at h
          · rename_i q
            simp only [aop] at h
            exact .of (vs_append hr u1 u2 hi hz rfl q hs hx h)
          · exact came_fail h
        · exact came_fail h
      · exact came_fail h
    · rename_i e1 kn u1 u2
      split at h
      · rename_i i hi
        split at h
        · rename_i z hz
          split at h
          · rename_i q
            split at h
            · rename_i za hza
              simp only [aop] at h
              split at h
              · rename_i b o n c es' kq k es ek
                rw [es] at hs
                rw [ek] at hx
                exact .of (vs_appendZ hr u1 u2 hi hz hza q hs hx h)
              · cases h
            · exact came_fail h
          · exact came_fail h
        · exact came_fail h
      · exact came_fail h
    · exact came_fail h
  · rename_i t x e
    have ets : ts = #[t] := by cases ts; simpa using e
    subst ets
    simp only [List.map_cons, List.map_nil] at hv
    obtain ⟨v, rfl, hx⟩ : ∃ v, vs = #[v] ∧ VR w0 ro μ (x.ev T) v := by
      obtain ⟨l⟩ := vs
      cases hv with | cons k t => cases t; exact ⟨_, rfl, k⟩
    split at h
    · rename_i u
      simp only [aop] at h
      split at h
      · rename_i ex
        cases h
        rw [ex] at hx
        exact .of (vs_cap hr u hx)
      · cases h
    · exact came_fail h
  · rename_i t t2 d s e
    have ets : ts = #[t, t2] := by cases ts; simpa using e
    subst ets
    simp only [List.map_cons, List.map_nil] at hv
    obtain ⟨v, v2, rfl, hd, hx⟩ : ∃ v v2, vs = #[v, v2] ∧ VR w0 ro μ (d.ev T) v ∧ VR w0 ro μ (s.ev T) v2 := by
      obtain ⟨l⟩ := vs
      cases hv with | cons k t => cases t with | cons k' t => cases t; exact ⟨_, _, rfl, k, k'⟩
    split at h
    · rename_i u
      split at h
      · rename_i hsz
        simp only [aop] at h
        exact .of (vs_copy hr u hsz hd hx h)
      · exact came_fail h
    · exact came_fail h
  · rename_i t t2 m k e
    have ets : ts = #[t, t2] := by cases ts; simpa using e
    subst ets
    simp only [List.map_cons, List.map_nil] at hv
    obtain ⟨v, v2, rfl, hm, hk⟩ : ∃ v v2, vs = #[v, v2] ∧ VR w0 ro μ (m.ev T) v ∧ VR w0 ro μ (k.ev T) v2 := by
      obtain ⟨l⟩ := vs
      cases hv with | cons k t => cases t with | cons k' t => cases t; exact ⟨_, _, rfl, k, k'⟩
    split at h
    · rename_i kt et u
      split at h
      · rename_i c hc
        simp only [aop] at h
        split at h
        · rename_i b em
          split at h
          · rename_i hlim
            split at h
            · rename_i es clock hb
              split at h
              · cases h
              · simp only [Option.map_eq_some_iff] at h
                obtain ⟨x, h1, h2⟩ := h
                rw [em] at hm
                have := vs_mapDel (ty := ty) (t2 := t2) hr u hc hm hk hlim hb h1
                cases x with
                | none => cases h2; exact .of this
                | some p => cases h2; exact .of this
            · cases h
          · cases h
        · rename_i em
          cases h
          rw [em] at hm
          exact .of (vs_mapDel_nil (k := .undef) hr u hc hm)
        · cases h
      · exact came_fail h
    · exact came_fail h
  · exact absurd rfl hb1
  · exact absurd rfl hb2
  · exact came_fail h

theorem no_call {r : AV} {H' : Heap} {s : Sem Next} {o : AOp} (h : aop lim H T o = some (r, H')) (ho : o = .fail) : Came w0 ro P lim μ H w s r H' := by subst ho; exact came_fail h

/-- Every operation that is no call. -/
theorem came_op {o : Oper} {a : Act} {r : AV} {H' : Heap} (hr : HR w0 ro μ H w) (har : AR w0 ro μ T a) (h : aop lim H T (lowOp P o.op) = some (r, H')) : Came w0 ro P lim μ H w (execOp a.eval o) r H' := by
  unfold execOp
  cases ho : o.op <;> rw [ho] at h <;> simp only [lowOp] at h ⊢ <;> try (exact came_fail h)
  case move x =>
    split at h
    · rename_i ax e
      cases h
      exact ⟨.value _, w, μ, rfl, Post.refl hr, .inl ⟨_, rfl, lowX_VR e har⟩⟩
    · exact came_fail h
  case assign x =>
    split at h
    · rename_i ax e
      cases h
      exact ⟨.value _, w, μ, rfl, Post.refl hr, .inl ⟨_, rfl, lowX_VR e har⟩⟩
    · exact came_fail h
  case pick c x y =>
    split at h
    · rename_i ac ax ay e1 e2 e3
      have vc := lowX_VR e1 har
      simp only [aop] at h
      split at h
      · rename_i t e4
        cases h
        rw [e4] at vc
        have := vc.bool_inv
        refine ⟨.value (if t then a.eval x else a.eval y), w, μ, by simp [this, asBool], Post.refl hr, .inl ⟨_, rfl, ?_⟩⟩
        cases t
        · exact lowX_VR e3 har
        · exact lowX_VR e2 har
      · cases h
    · exact came_fail h
  case alloc e =>
    split at h
    · rename_i z hz
      cases h
      unfold zeroT at hz
      rw [Option.bind_eq_some_iff] at hz
      obtain ⟨zv, h1, h2⟩ := hz
      obtain ⟨hv, h1'⟩ := ofConsts_VRs (w0 := w0) (ro := ro) (μ := μ) h2
      refine .of ⟨_, _, _, ?_, sim_newRow (g := false) (t := e) lim (arr := zv.cells) hr (by rw [List.take_of_length_le (by have := hv.len; omega)]; exact hv) (by have := hv.len; simp at this; omega) h1', new_VR hr⟩
      simp [Instr.alloc, zero_run h1, newVar, newRow]
    · exact came_fail h
  case box e x =>
    split at h
    · rename_i ax e1
      have vx := lowX_VR e1 har
      simp only [aop] at h
      split at h
      · rename_i q
        cases h
        have hv := vx.cells q
        refine .of ⟨_, _, _, ?_, sim_newRow (g := false) (t := e) lim (arr := (a.eval x).cells) hr (by rw [List.take_of_length_le (by have := hv.len; omega)]; exact hv) (by have := hv.len; simp at this; omega) (all_one q), new_VR hr⟩
        simp [Instr.box, newVar, newRow]
      · cases h
    · exact came_fail h
  case build t ps =>
    split at h
    · rename_i z pl hz hpl
      split at h
      · rename_i aps hps
        simp only [aop, Option.map_eq_some_iff] at h
        obtain ⟨cs, h1, h2⟩ := h
        cases h2
        unfold zeroT at hz
        rw [Option.bind_eq_some_iff] at hz
        obtain ⟨zv, hz1, hz2⟩ := hz
        obtain ⟨hv, h1'⟩ := ofConsts_VRs (w0 := w0) (ro := ro) (μ := μ) hz2
        refine .of (vs_build hr hv h1' (ps' := ps.map fun (i, x) => (i, a.eval x)) (place := pl) (by simpa using parts2_VR har hps) ?_ h1)
        rw [Option.bind_eq_some_iff] at hz1
        obtain ⟨it, hz1, hz3⟩ := hz1
        unfold placesT at hpl
        unfold Program.built
        split at hpl
        · rename_i n e u
          rw [Option.map_eq_some_iff] at hpl
          obtain ⟨ie, hie, rfl⟩ := hpl
          simp [hz1, u, hz3, hie]
        · rename_i fields u
          rw [Option.map_eq_some_iff] at hpl
          obtain ⟨l, hl, rfl⟩ := hpl
          simp [hz1, u, hz3, hl]
        · cases hpl
      · exact came_fail h
    · exact came_fail h
  case buildSlice t len ps =>
    split at h
    · rename_i e u
      split at h
      · rename_i es z hs hz
        split at h
        · rename_i q
          split at h
          · rename_i aps hps
            simp only [aop, Option.map_eq_some_iff] at h
            obtain ⟨cs, h1, h2⟩ := h
            unfold zeroT at hz
            rw [Option.bind_eq_some_iff] at hz
            obtain ⟨zv, hz1, hz2⟩ := hz
            have := vs_buildSlice (lim := lim) (len := len) hr u hs hz1 hz2 q.1 q.2.1 rfl q.2.2 (ps' := ps.map fun (i, x) => (i, a.eval x)) (by simpa using parts2_VR har hps) h1
            by_cases hl : len = 0
            · simp only [hl, if_true] at h2 this ⊢
              cases h2
              exact .of this
            · simp only [if_neg hl] at h2 this
              cases h2
              exact .of this
          · exact came_fail h
        · exact came_fail h
      · exact came_fail h
    · exact came_fail h
  case load t x =>
    split at h
    · rename_i n ax hs e1
      simp only [aop, Option.map_eq_some_iff] at h
      obtain ⟨r', h1, h2⟩ := h
      cases h2
      obtain ⟨v', g1, g2⟩ := sim_load hr hs (lowX_VR e1 har) h1
      exact .of (VS.same hr g1 g2)
    · exact came_fail h
  case store t x y =>
    split at h
    · rename_i n ax ay hs e1 e2
      simp only [aop, Option.map_eq_some_iff] at h
      obtain ⟨H1, h1, h2⟩ := h
      cases h2
      obtain ⟨w', g1, g2⟩ := sim_store hr hs (lowX_VR e1 har) (lowX_VR e2 har) h1
      exact ⟨.skip, w', μ, by simp [g1], g2, .inr ⟨rfl, rfl⟩⟩
    · exact came_fail h
  case nilCheck x =>
    split at h
    · rename_i ax e1
      have vx := lowX_VR e1 har
      simp only [aop] at h
      generalize ax.ev T = u at h vx
      generalize a.eval x = u' at vx
      cases vx <;> first | (cases h; done) | skip
      case ptr b o loc hm => cases h; exact ⟨.value _, w, μ, rfl, Post.refl hr, .inl ⟨_, rfl, .ptr hm⟩⟩
      case tp cs c off h0 hd => cases h; exact ⟨.value _, w, μ, rfl, Post.refl hr, .inl ⟨_, rfl, .tp h0 hd⟩⟩
    · exact came_fail h
  case binOp op t x y yt =>
    split at h
    · rename_i ax ay e1 e2
      exact came_bin (yt := yt) hr har e1 e2 h
    · exact came_fail h
  case unOp op t x =>
    split at h
    · rename_i ax e1
      simp only [aop, Option.map_eq_some_iff] at h
      obtain ⟨r', h1, h2⟩ := h
      cases h2
      exact .of (vs_un hr (lowX_VR e1 har) h1)
    · exact came_fail h
  case convert src dst x =>
    split at h
    · rename_i ax k1 k e1 u1 u2
      have vx := lowX_VR e1 har
      simp only [aop] at h
      split at h
      · rename_i k2 n e2
        cases h
        rw [e2] at vx
        have := vx.int_inv
        exact .of (VS.same hr (v' := .int k (k.wrap n)) (by simp [this, convert, run_underlying u1, run_underlying u2, Conv.intToInt]) (.int _ _))
      · cases h
    · rename_i ax e1 u1 u2
      have vx := lowX_VR e1 har
      simp only [aop] at h
      split at h
      · rename_i s e2
        cases h
        rw [e2] at vx
        obtain ⟨s', e3, e4⟩ := vx.str_inv
        exact .of (VS.same hr (v' := .string s') (by simp [e3, convert, run_underlying u1, run_underlying u2]) (.str e4))
      · cases h
    · rename_i ax e e1 u1 u2
      split at h
      · rename_i u3
        simp only [aop, Option.bind_eq_some_iff, Option.map_eq_some_iff] at h
        obtain ⟨⟨n, cs⟩, h1, l, h2, h3⟩ := h
        cases h3
        exact .of (vs_ofBytes hr u1 u2 u3 (lowX_VR e1 har) h1 h2)
      · exact came_fail h
    · exact came_fail h
  case fieldAddr t x i =>
    split at h
    · rename_i ax fs e1 u
      split at h
      · rename_i f hf
        split at h
        · rename_i m hs
          split at h
          · rename_i hm
            simp only [aop, Option.map_eq_some_iff] at h
            obtain ⟨r', h1, h2⟩ := h
            cases h2
            exact .of (vs_fieldAddr hr u hf hs hm (lowX_VR e1 har) h1)
          · exact came_fail h
        · exact came_fail h
      · exact came_fail h
    · exact came_fail h
  case field t x i =>
    split at h
    · rename_i ax fs e1 u
      split at h
      · rename_i f hf
        split at h
        · rename_i n hs
          have vx := lowX_VR e1 har
          simp only [aop] at h
          split at h
          · rename_i cs e2
            simp only [Option.map_eq_some_iff, Option.bind_eq_some_iff] at h
            obtain ⟨r', ⟨c, h1, h2⟩, h3⟩ := h
            cases h3
            rw [e2] at vx
            exact .of (vs_field hr u hf hs vx h1 h2)
          · cases h
        · exact came_fail h
      · exact came_fail h
    · exact came_fail h
  case indexAddr t x i =>
    split at h
    · rename_i ax ai len e e1 e2 u
      split at h
      · rename_i es hs
        simp only [aop, Option.map_eq_some_iff, Option.bind_eq_some_iff] at h
        obtain ⟨k, h1, r', h2, h3⟩ := h
        cases h3
        exact .of (vs_idxArr hr u hs (lowX_VR e1 har) (lowX_VR e2 har) h1 h2)
      · exact came_fail h
    · rename_i ax ai e e1 e2 u
      split at h
      · rename_i es hs
        simp only [aop, Option.map_eq_some_iff] at h
        obtain ⟨r', h2, h3⟩ := h
        cases h3
        exact .of (vs_idxSl hr u hs (lowX_VR e1 har) (lowX_VR e2 har) h2)
      · exact came_fail h
    · exact came_fail h
  case index t x i =>
    split at h
    · rename_i ax ai len e e1 e2 u
      split at h
      · rename_i es n hes hs
        have vx := lowX_VR e1 har
        simp only [aop, Option.bind_eq_some_iff] at h
        obtain ⟨k, h1, h⟩ := h
        split at h
        · rename_i cs e3
          simp only [Option.map_eq_some_iff, Option.bind_eq_some_iff] at h
          obtain ⟨r', ⟨c, h2, h3⟩, h4⟩ := h
          cases h4
          rw [e3] at vx
          exact .of (vs_idxVal hr u hes hs vx (lowX_VR e2 har) h1 h2 h3)
        · cases h
      · exact came_fail h
    · rename_i ax ai e1 e2 u
      have vx := lowX_VR e1 har
      simp only [aop] at h
      split at h
      · rename_i s e3
        simp only [Option.map_eq_some_iff] at h
        obtain ⟨k, h1, h2⟩ := h
        cases h2
        rw [e3] at vx
        exact .of (vs_idxStr hr u vx (lowX_VR e2 har) h1)
      · cases h
    · exact came_fail h
  case slice t x l hh m =>
    split at h
    · rename_i ax al ah am e1 e2 e3 e4
      have vx := lowX_VR e1 har
      have vl := lowO_VR har e2
      have vh := lowO_VR har e3
      have vm := lowO_VR har e4
      split at h
      · rename_i len e u
        split at h
        · rename_i es hs
          have hm0 : m = none := by
            cases m with
            | none => rfl
            | some m => simp only [lowO, Option.map_eq_some_iff] at e4; obtain ⟨_, _, q⟩ := e4; cases q
          subst hm0
          simp only [aop] at h
          generalize ax.ev T = u1 at h vx
          split at h
          · rename_i b o _
            simp only [Option.bind_eq_some_iff] at h
            obtain ⟨cs, hc, h⟩ := h
            split at h
            · rename_i hfit
              simp only [Option.bind_eq_some_iff] at h
              obtain ⟨h1, k1, l1, k2, h3⟩ := h
              cases h3
              exact .of (vs_sliceArr hr u hs vx vl vh k1 k2 (.inl ⟨b, o, cs, rfl, hc, hfit, rfl⟩))
            · cases h
          · rename_i cs _
            simp only [Option.bind_eq_some_iff] at h
            obtain ⟨h1, k1, l1, k2, h3⟩ := h
            cases h3
            exact .of (vs_sliceArr hr u hs vx vl vh k1 k2 (.inr ⟨cs, rfl, rfl⟩))
          · cases h
        · exact came_fail h
      · rename_i e u
        split at h
        · rename_i es hs
          split at h
          · rename_i q
            simp only [aop, Option.map_eq_some_iff] at h
            obtain ⟨r', h1, h2⟩ := h
            cases h2
            exact .of (vs_sliceSl hr u hs vx vl vh vm (by simpa using q) h1)
          · exact came_fail h
        · exact came_fail h
      · rename_i u
        split at h
        · have hm0 : m = none := by
            cases m with
            | none => rfl
            | some m => simp only [lowO, Option.map_eq_some_iff] at e4; obtain ⟨_, _, q⟩ := e4; cases q
          subst hm0
          simp only [aop] at h
          split at h
          · rename_i s e5
            simp only [Option.bind_eq_some_iff] at h
            obtain ⟨h1, k1, l1, k2, h3⟩ := h
            cases h3
            rw [e5] at vx
            exact .of (vs_sliceStr hr u vx vl vh k1 k2)
          · cases h
        · exact came_fail h
      · exact came_fail h
    · exact came_fail h
  case extract x i =>
    split at h
    · rename_i ax e1
      have vx := lowX_VR e1 har
      simp only [aop] at h
      split at h
      · rename_i vs e2
        simp only [Option.map_eq_some_iff] at h
        obtain ⟨r', h1, h2⟩ := h
        cases h2
        rw [e2] at vx
        generalize a.eval x = u' at vx ⊢
        cases vx with
        | tup hv =>
          obtain ⟨v', g1, g2⟩ := hv.get h1
          exact .of (VS.same hr (v' := v') (by simp [Instr.extract, g1]) g2)
      · cases h
    · exact came_fail h
  case makeFunc f fi ca =>
    split at h
    · rename_i af ac e1 e2
      cases h
      have v1 := lowXs_VRs har e1
      have v2 := lowXs_VRs har e2
      have := VR.fn (f := f) v1 v2
      refine .of (VS.same hr (v' := .func f (fi.map a.eval) (ca.map a.eval)) rfl ?_)
      rw [show fi.map a.eval = (fi.toList.map a.eval).toArray from by rw [← Array.toList_map], show ca.map a.eval = (ca.toList.map a.eval).toArray from by rw [← Array.toList_map]]
      exact this
    · exact came_fail h
  case makeInterface t x =>
    split at h
    · rename_i ax e1
      split at h
      · rename_i q
        cases h
        refine .of (VS.same hr (v' := .iface t (a.eval x)) ?_ (.iface (lowX_VR e1 har)))
        unfold isIface at q
        unfold Instr.makeInterface
        split at q
        · cases q
        · rename_i d hne u
          simp only [Sem.run_bind, run_underlying u, Result.andThen_ok]
          rfl
        · cases q
      · exact came_fail h
    · exact came_fail h
  case makeSlice t l c =>
    split at h
    · rename_i al ac e e1 e2 u
      split at h
      · rename_i i z hi hz
        simp only [aop, Option.bind_eq_some_iff] at h
        obtain ⟨l', h1, c', h2, h⟩ := h
        split at h
        · rename_i q
          unfold zeroT at hz
          rw [hi] at hz
          simp only [Option.bind_some, Option.bind_eq_some_iff] at hz
          obtain ⟨zv, hz1, hz2⟩ := hz
          have := vs_mkSlice (lim := lim) hr u hi hz1 rfl hz2 q.2.2.2.2.1 q.2.2.2.2.2 (lowX_VR e1 har) (lowX_VR e2 har) h1 h2 ⟨q.1, q.2.1, q.2.2.1, q.2.2.2.1⟩
          by_cases hc : c' = 0
          · simp only [hc, if_true] at h this
            cases h
            exact .of this
          · simp only [if_neg hc] at h this
            cases h
            exact .of this
        · cases h
      · exact came_fail h
    · exact came_fail h
  case range t x =>
    split at h
    · rename_i ax e1
      split at h
      · rename_i kt et u
        simp only [aop] at h
        exact .of (vs_range hr u (lowX_VR e1 har) h)
      · exact came_fail h
    · exact came_fail h
  case next x s =>
    split at h
    · rename_i ax e1
      have vx := lowX_VR e1 har
      simp only [aop] at h
      split at h
      · rename_i b eb
        rw [eb] at vx
        exact .of (vs_next hr vx h)
      · cases h
    · exact came_fail h
  case entry x =>
    split at h
    · rename_i ax e1
      have vx := lowX_VR e1 har
      simp only [aop] at h
      split at h
      · rename_i b eb
        rw [eb] at vx
        exact .of (vs_entry hr vx h)
      · cases h
    · exact came_fail h
  case makeMap t r =>
    cases r with
    | none => simp only [aop] at h; cases h; exact .of (vs_mkMap hr)
    | some r => exact came_fail h
  case lookup t x k ok =>
    split at h
    · rename_i ax ak e1 e2
      unfold lowLookup at h
      split at h
      · rename_i kt et u
        split at h
        · rename_i c z hc hz
          unfold zeroA at hz
          rw [Option.bind_eq_some_iff] at hz
          obtain ⟨zv, hz1, hz2⟩ := hz
          simp only [aop, Option.bind_eq_some_iff] at h
          obtain ⟨es, h1, h2⟩ := h
          split at h2
          · cases h2
          · simp only [Option.map_eq_some_iff, Prod.mk.injEq] at h2
            obtain ⟨y, h3, h4, rfl⟩ := h2
            exact .of (vs_lookup hr u hc hz1 hz2 (lowX_VR e1 har) (lowX_VR e2 har) h1 h3 h4.symm)
        · exact came_fail h
      · exact came_fail h
    · exact came_fail h
  case mapUpdate t m k v =>
    split at h
    · rename_i am ak av e1 e2 e3
      unfold lowMapSet at h
      split at h
      · rename_i kt et u
        split at h
        · rename_i c hc
          have vm := lowX_VR e1 har
          simp only [aop] at h
          split at h
          · rename_i b em
            split at h
            · rename_i hlim
              split at h
              · rename_i es clock hb
                split at h
                · cases h
                · simp only [Option.map_eq_some_iff] at h
                  obtain ⟨x, h1, h2⟩ := h
                  rw [em] at vm
                  obtain ⟨w', g1, g2⟩ := sim_mapSet hr u hc vm (lowX_VR e2 har) (lowX_VR e3 har) hlim hb h1
                  cases x with
                  | none => cases h2; exact ⟨.skip, w', μ, by simp [g1], g2, .inr ⟨rfl, rfl⟩⟩
                  | some p => cases h2; exact ⟨.skip, w', μ, by simp [g1], g2, .inr ⟨rfl, rfl⟩⟩
              · cases h
            · cases h
          · cases h
        · exact came_fail h
      · exact came_fail h
    · exact came_fail h
  case insert t m k v =>
    split at h
    · rename_i am ak av e1 e2 e3
      unfold lowMapSet at h
      split at h
      · rename_i kt et u
        split at h
        · rename_i c hc
          have vm := lowX_VR e1 har
          simp only [aop] at h
          split at h
          · rename_i b em
            split at h
            · rename_i hlim
              split at h
              · rename_i es clock hb
                split at h
                · cases h
                · simp only [Option.map_eq_some_iff] at h
                  obtain ⟨x, h1, h2⟩ := h
                  rw [em] at vm
                  obtain ⟨w', g1, g2⟩ := sim_mapSet hr u hc vm (lowX_VR e2 har) (lowX_VR e3 har) hlim hb h1
                  cases x with
                  | none => cases h2; exact ⟨.skip, w', μ, by simp [g1], g2, .inr ⟨rfl, rfl⟩⟩
                  | some p => cases h2; exact ⟨.skip, w', μ, by simp [g1], g2, .inr ⟨rfl, rfl⟩⟩
              · cases h
            · cases h
          · cases h
        · exact came_fail h
      · exact came_fail h
    · exact came_fail h
  case typeAssert x xt t com =>
    split at h
    · rename_i ax e1
      unfold lowAssert at h
      split at h
      · rename_i q
        obtain ⟨d, hd, hi⟩ : ∃ d, P.underlying t = some d ∧ ∀ ms, d ≠ .interface ms := by
          unfold isIface at q
          split at q
          · cases q
          · rename_i d hne u; exact ⟨d, u, fun ms e => hne ms e⟩
          · cases q
        have vx := lowX_VR e1 har
        cases com with
        | false =>
          simp only [Bool.false_eq_true, if_false, aop] at h
          have hH : H' = H := by
            split at h
            · split at h
              · cases h; rfl
              · cases h
            · cases h; rfl
            · cases h; rfl
            · cases h
          subst hH
          exact .of (vs_assert (ok := none) (z := .nilFunc) hr hd hi vx (.inl ⟨rfl, rfl⟩) h)
        | true =>
          simp only [if_true] at h
          split at h
          · rename_i z hz
            unfold zeroA at hz
            rw [Option.bind_eq_some_iff] at hz
            obtain ⟨zv, hz1, hz2⟩ := hz
            simp only [aop] at h
            have hH : H' = H := by
              split at h
              · split at h
                · cases h; rfl
                · cases h
              · cases h; rfl
              · cases h; rfl
              · cases h
            subst hH
            exact .of (vs_assert (ok := some z) hr hd hi vx (.inr ⟨rfl, z, rfl, hz1, hz2⟩) h)
          · exact came_fail h
      · exact came_fail h
    · exact came_fail h
  case call c =>
    unfold lowCall at h
    split at h
    · exact came_fail h
    · rename_i xs hxs
      have hv := lowXs_VRs har hxs
      split at h
      · rename_i b hb
        have := came_builtin (ty := o.type) (cs := c.args.map fun | .const _ => true | _ => false) hr (vs := c.args.map a.eval) (by simpa using hv) h
        simp only [resolve, hb, pure_bind, invoke]
        exact this
      · split at h <;> simp [aop] at h
      · split at h <;> simp [aop] at h

end
end Go.Proofs.YtdbgebbofpgjmaaGreatA

/- What the words of this text say: a small machine without a tape, over the same code; and how its code is read off the program's. No statement about the program is proved here. -/
import Derived.Calls
namespace Go.Proofs.YtdbgebbofpgjmaaGreatA
open Go
set_option linter.unusedVariables false

/-- A value of the small machine. -/
inductive AV where
  | undef                                        -- whatever
  | noval                                        -- what an operation that was passed by leaves
  | bool (b : Bool)
  | int (k : IntKind) (n : Int)
  | str (s : List UInt8)
  | ptr (p : Option (Nat × Nat))                 -- a place: its block, its cell
  | tp (cs : List AV)                            -- a place that is only read: the cells from there on
  | nilsl                                        -- a slice without elements and without room
  | sl (b o n es : Nat)                          -- n elements (es cells each) from cell o of block b on
  | slc (b o n c es : Nat)                       -- the same, of which the room (c elements) is known
  | ro (n : Nat) (cs : List AV)                  -- n elements that are only read
  | ow (es n : Nat) (cs : List AV)               -- n elements of a result: nobody else has them
  | mapv (r : Option Nat)
  | fn (f : Fn) (first captured : List AV)
  | nilfn
  | iface (t : Nat) (v : AV)
  | niliface
  | agg (cs : List AV)
  | tup (vs : List AV)
  deriving Inhabited

/-- A block. -/
inductive ABlk where
  | cells (grow : Bool) (cs : List AV)
  | dead
  | map (es : List (AV × AV × Nat)) (clock : Nat)
  | iter (m : Option Nat) (since : Nat) (seen : List Nat) (last : Nat)   -- who goes through a map
  deriving Inhabited

def AV.cells : AV → List AV
  | .agg cs => cs
  | v => [v]
/-- May it lie in one cell? -/
def AV.one : AV → Bool
  | .agg _ | .tup _ | .undef | .noval | .ow .. | .tp _ => false
  | _ => true

inductive AX where
  | tmp (t : Nat)
  | cst (v : AV)
  deriving Inhabited

inductive ACallee where
  | fn (f : AX)
  | meth (recv : AX) (name : String)
  deriving Inhabited

/-- The kind of a cell that can be held against another one. -/
inductive CK where
  | b | i | s
  deriving DecidableEq, Inhabited

inductive AOp where
  | fail
  | mv (x : AX)
  | pick (c a b : AX)
  | alloc (zero : List AV)
  | box (x : AX)
  | build (zero : List AV) (parts : List (Nat × Nat × AX))
  | buildSlice (es len : Nat) (zero : List AV) (parts : List (Nat × Nat × AX))
  | load (n : Option Nat) (a : AX)
  | store (n : Nat) (a v : AX)
  | nilchk (x : AX)
  | bin (op : BinOp) (x y : AX)
  | eqagg (ks : List CK) (neg : Bool) (x y : AX)
  | eqbool (neg : Bool) (x y : AX)
  | eqptr (neg : Bool) (x y : AX)
  | eqmap (neg : Bool) (x y : AX)
  | un (op : UnOp) (x : AX)
  | conv (k : IntKind) (x : AX)
  | same (x : AX)                                 -- a string to a string
  | ofBytes (x : AX)                              -- a row of bytes to a string
  | fieldAddr (off : Nat) (x : AX)
  | field (off : Nat) (n : Option Nat) (x : AX)
  | idxArr (len es : Nat) (x i : AX)              -- the place of an element of an array in memory
  | idxSl (es : Nat) (x i : AX)
  | idxVal (len es : Nat) (n : Option Nat) (x i : AX)
  | idxStr (x i : AX)
  | sliceArr (len es : Nat) (x : AX) (l h m : Option AX)
  | sliceSl (es : Nat) (x : AX) (l h m : Option AX)
  | sliceStr (x : AX) (l h : Option AX)
  | extract (x : AX) (i : Nat)
  | mkFn (f : Fn) (first captured : List AX)
  | mkIface (t : Nat) (x : AX)
  | assertTo (x : AX) (t : Nat) (ok : Option AV)   -- to a type without methods; ok: v, ok := ..; the zero value
  | mkSlice (es bytes : Nat) (zero : List AV) (len cap : AX)
  | mkMap
  | lookup (c : CK) (zero : AV) (m k : AX) (ok : Bool)
  | mapSet (c : CK) (m k v : AX)
  | mapDel (c : CK) (m k : AX)
  | rangeM (x : AX)
  | nextM (x : AX)
  | entryM (x : AX)
  | lenSl (x : AX) | lenStr (x : AX) | lenConst (n : Nat) | lenMap (x : AX)
  | max (xs : List AX) | min (xs : List AX)
  | append (es bytes : Nat) (s x : AX)
  | cap (x : AX)
  | copy (es : Nat) (d s : AX)
  | appendZ (es bytes : Nat) (zero : List AV) (s n : AX)   -- so many zeros
  | call (f : ACallee) (args : List AX)
  deriving Inhabited

structure AOper where
  dst : Option Nat
  guard : Option (Nat × Bool)
  op : AOp
  deriving Inhabited

inductive AC where
  | skip
  | region (ops : List AOper)
  | draw (ops : List (Bool × AOper))               -- in any order that the edges allow; true: it may write
  | seq (a b : AC)
  | cond (c : AX) (t e : AC)
  | block (id : Nat) (body : AC)
  | loop (body : AC)
  | exit (id : Nat)
  | kill (ts : List Nat)                           -- from here on these are not read any more
  | ret
  | fail
  deriving Inhabited

inductive ARes where
  | tmp (t : Nat)
  | cell (t : Nat) (n : Option Nat)
  deriving Inhabited

inductive AExit where
  | normal | ret | exit (id : Nat)
  deriving DecidableEq, Inhabited

abbrev Heap := List ABlk
abbrev Tmps := List AV

inductive AMode where
  | heap | pure
  deriving DecidableEq, Inhabited

structure AFun where
  mode : AMode
  ntmps : Nat
  results : List ARes
  body : AC
  deriving Inhabited

inductive AF where
  | code (f : AFun)
  | prim (g : List AV → Nat → Heap → Option (AV × Heap))
  | ext (g : List AV → Heap → Option AV)           -- what the model does itself

/-- The program: its functions; the methods of a type. -/
structure AEnv where
  fn : Nat → Option AF
  meth : Nat → String → Option (Nat × Option (Option Nat))   -- the function; a pointer's target is read first (how many cells)

def AX.ev (T : Tmps) : AX → AV
  | .tmp t => T.getD t .undef
  | .cst v => v

def Heap.cells? (H : Heap) (b : Nat) : Option (List AV) :=
  match H[b]? with
  | some (.cells _ cs) => some cs
  | _ => none

/-- n cells from o on; all of them must be there. -/
def cut (cs : List AV) (o n : Nat) : Option (List AV) := if o + n ≤ cs.length then some ((cs.drop o).take n) else none

def shapeOf (n : Option Nat) (cs : List AV) : Option AV :=
  match n with
  | some _ => some (.agg cs)
  | none => match cs with | [v] => some v | _ => none

def loadAt (H : Heap) (n : Option Nat) : AV → Option AV
  | .ptr (some (b, o)) => (H.cells? b).bind fun cs => (cut cs o (n.getD 1)).bind (shapeOf n)
  | .tp cs => (cut cs 0 (n.getD 1)).bind (shapeOf n)
  | _ => none

def setFrom : List AV → Nat → List AV → List AV
  | cs, _, [] => cs
  | cs, o, v :: vs => setFrom (cs.set o v) (o + 1) vs

def storeAt (lim : Nat) (H : Heap) (n : Nat) (a v : AV) : Option Heap :=
  match a with
  | .ptr (some (b, o)) =>
    if lim ≤ b then
      match H[b]? with
      | some (.cells g cs) => if v.cells.length = n ∧ o + n ≤ cs.length ∧ v.cells.all AV.one = true then some (H.set b (.cells g (setFrom cs o v.cells))) else none
      | _ => none
    else none
  | _ => none

def fillAV (cells : List AV) : List (Nat × Nat × AV) → Option (List AV)
  | [] => some cells
  | (off, size, v) :: rest => if v.cells.length = size ∧ off + size ≤ cells.length ∧ v.cells.all AV.one = true then fillAV (setFrom cells off v.cells) rest else none

/-- Are two the same? (numbers, bools, texts and rows of these) -/
def eqAV : AV → AV → Option Bool
  | .bool a, .bool b => some (a == b)
  | .int j a, .int k b => if j = k then some (a == b) else none
  | .str a, .str b => some (a == b)
  | _, _ => none
def eqCell : CK → AV → AV → Option Bool
  | .b, .bool a, .bool b => some (a == b)
  | .i, .int j a, .int k b => if j = k then some (a == b) else none
  | .s, .str a, .str b => some (a == b)
  | _, _, _ => none
def eqRow : List CK → List AV → List AV → Option Bool
  | [], [], [] => some true
  | k :: ks, x :: xs, y :: ys => (eqCell k x y).bind fun b => if b then eqRow ks xs ys else if xs.length = ks.length ∧ ys.length = ks.length then some false else none
  | _, _, _ => none

def strLess : List UInt8 → List UInt8 → Bool
  | _, [] => false
  | [], _ :: _ => true
  | a :: x, b :: y => decide (a < b) || (a == b && strLess x y)

def binInt (op : BinOp) (k : IntKind) (a b : Int) : Option AV :=
  match op with
  | .add => some (.int k (k.wrap (a + b)))
  | .sub => some (.int k (k.wrap (a - b)))
  | .mul => some (.int k (k.wrap (a * b)))
  | .quo => if b = 0 then none else some (.int k (k.wrap (a.tdiv b)))
  | .rem => if b = 0 then none else some (.int k (a.tmod b))
  | .and => some (.int k (k.wrap (BitVec.ofInt k.bits a &&& BitVec.ofInt k.bits b).toNat))
  | .or => some (.int k (k.wrap (BitVec.ofInt k.bits a ||| BitVec.ofInt k.bits b).toNat))
  | .xor => some (.int k (k.wrap (BitVec.ofInt k.bits a ^^^ BitVec.ofInt k.bits b).toNat))
  | .eql => some (.bool (a == b))
  | .neq => some (.bool (a != b))
  | .lss => some (.bool (decide (a < b)))
  | .leq => some (.bool (decide (a ≤ b)))
  | .gtr => some (.bool (decide (a > b)))
  | .geq => some (.bool (decide (a ≥ b)))
  | _ => none

def binStr (op : BinOp) (a b : List UInt8) : Option AV :=
  match op with
  | .add => if a.length + b.length ≤ 1152921504606846976 then some (.str (a ++ b)) else none
  | .eql => some (.bool (a == b))
  | .neq => some (.bool (!(a == b)))
  | .lss => some (.bool (strLess a b))
  | .leq => some (.bool (strLess a b || a == b))
  | .gtr => some (.bool (!(strLess a b || a == b)))
  | .geq => some (.bool (!(strLess a b)))
  | _ => none

def binAV (op : BinOp) : AV → AV → Option AV
  | .int k a, .int k' b =>
    match op with
    | .shl => if b < 0 then none else some (.int k (k.wrap (a * 2 ^ (min b.toNat k.bits))))
    | .shr => if b < 0 then none else some (.int k (a.fdiv (2 ^ (min b.toNat k.bits))))
    | _ => if k = k' then binInt op k a b else none
  | .str a, .str b => binStr op a b
  | _, _ => none
/-- Two places, one of which is none. -/
def eqNil {α : Type} : Option α → Option α → Option Bool
  | none, b => some b.isNone
  | some _, none => some false
  | _, _ => none

def unAV (op : UnOp) : AV → Option AV
  | .int k n => match op with | .neg => some (.int k (k.wrap (0 - n))) | .xor => binInt .xor k (if k.signed then -1 else k.max) n | _ => none
  | .bool b => match op with | .not => some (.bool (!b)) | _ => none
  | _ => none

def AV.isInt : AV → Option Int
  | .int _ n => some n
  | _ => none

/-- An index that lies in n elements. -/
def idx (i : AV) (n : Nat) : Option Nat := i.isInt.bind fun i => if 0 ≤ i ∧ i < (n : Int) then some i.toNat else none
/-- A bound of a cut. -/
def bnd (x : Option AV) (dflt most : Nat) : Option Nat :=
  match x with
  | none => some dflt
  | some v => v.isInt.bind fun i => if 0 ≤ i ∧ i ≤ (most : Int) then some i.toNat else none

def cutSl (es : Nat) (x : AV) (l h m : Option AV) : Option AV :=
  match x, m with
  | .nilsl, none => (bnd h 0 0).bind fun h => (bnd l 0 h).bind fun l => some .nilsl
  | .nilsl, some m => (bnd (some m) 0 0).bind fun _ => (bnd h 0 0).bind fun h => (bnd l 0 h).bind fun l => some .nilsl
  | .sl b o n es', none => if es' = es then (bnd h n n).bind fun h => (bnd l 0 h).bind fun l => some (.sl b (o + l * es) (h - l) es) else none
  | .ro n cs, none => (bnd h n n).bind fun h => (bnd l 0 h).bind fun l => some (.ro (h - l) ((cs.drop (l * es)).take ((h - l) * es)))
  | .slc b o n c es', none => if es' = es then (bnd h n c).bind fun h => (bnd l 0 h).bind fun l => if l < c then some (.slc b (o + l * es) (h - l) (c - l) es) else none else none
  | .sl .., some m => (bnd (some m) 0 0).bind fun _ => (bnd h 0 0).bind fun h => (bnd l 0 h).bind fun l => some .nilsl
  | .ro .., some m => (bnd (some m) 0 0).bind fun _ => (bnd h 0 0).bind fun h => (bnd l 0 h).bind fun l => some .nilsl
  | _, _ => none

/-- The elements of a row (es cells each), as they are now. -/
def elems (H : Heap) (es : Nat) : AV → Option (Nat × List AV)
  | .nilsl => some (0, [])
  | .sl b o n es' => if es' = es then (H.cells? b).bind fun cs => (cut cs o (n * es)).map fun c => (n, c) else none
  | .slc b o n _ es' => if es' = es then (H.cells? b).bind fun cs => (cut cs o (n * es)).map fun c => (n, c) else none
  | .ro n cs => if cs.length = n * es then some (n, cs) else none
  | _ => none

def most : Nat := 1099511627776

def appendAV (lim : Nat) (H : Heap) (es bytes : Nat) (s x : AV) : Option (AV × Heap) :=
  (elems H es x).bind fun (m, new) =>
    if m = 0 then
      match s with
      | .nilsl => some (.nilsl, H)
      | .sl b o n es' => some (.sl b o n es', H)
      | .ro n cs => some (.ro n cs, H)
      | _ => none
    else
      match s with
      | .nilsl => if m * bytes ≤ most ∧ m ≤ most ∧ 0 < es ∧ new.all AV.one = true then some (.sl H.length 0 m es, H ++ [.cells true new]) else none
      | .sl b o n es' =>
        if es' = es ∧ 0 < es ∧ lim ≤ b ∧ (n + m) * bytes ≤ most ∧ n + m ≤ most ∧ new.all AV.one = true then
          match H[b]? with
          | some (.cells true cs) => (cut cs o (n * es)).map fun old => (.sl H.length 0 (n + m) es, H.set b .dead ++ [.cells true (old ++ new)])
          | _ => none
        else none
      | _ => none

/-- Over the elements of a row of ours. -/
def copyTo (lim : Nat) (H : Heap) (es b o es' n m : Nat) (src : List AV) : Option (AV × Heap) :=
  if es' = es ∧ lim ≤ b ∧ 0 < n ∧ src.all AV.one = true then
    match H[b]? with
    | some (.cells g cs) => if o ≤ cs.length then some (.int .i64 (Nat.min m n), H.set b (.cells g (cs.take o ++ src.take (Nat.min m n * es) ++ cs.drop (o + Nat.min m n * es)))) else none
    | _ => none
  else none

/-- Bytes to a text. -/
def bytesOf : List AV → Option (List UInt8)
  | [] => some []
  | .int .u8 n :: r => (bytesOf r).map (UInt8.ofNat n.toNat :: ·)
  | _ => none

def max2 (op : Bool) : AV → AV → Option AV
  | .int k a, .int k' b => if k = k' then some (.int k (if op then (if b > a then b else a) else (if b < a then b else a))) else none
  | _, _ => none
def maxAll (op : Bool) : List AV → Option AV
  | [] => none
  | x :: xs => xs.foldlM (max2 op) x

/-- The key of an entry: numbers and texts. -/
def findKey (c : CK) (k : AV) : List (AV × AV × Nat) → Nat → Option (Option (Nat × AV))
  | [], _ => some none
  | (k', v, _) :: r, i => (eqCell c k k').bind fun b => if b then some (some (i, v)) else findKey c k r (i + 1)
def isKey : CK → AV → Bool
  | .b, .bool _ => true
  | .i, .int _ _ => true
  | .s, .str _ => true
  | _, _ => false

def fieldAddrAV (off : Nat) : AV → Option AV
  | .ptr (some (b, o)) => some (.ptr (some (b, o + off)))
  | .tp cs => some (.tp (cs.drop off))
  | _ => none
def idxSlAV (es : Nat) (i : AV) : AV → Option AV
  | .sl b o n es' => if es' = es then (idx i n).map fun i => .ptr (some (b, o + i * es)) else none
  | .ro n cs => (idx i n).map fun i => .tp (cs.drop (i * es))
  | _ => none

def lenSlAV : AV → Option AV
  | .nilsl => some (.int .i64 0)
  | .sl _ _ n _ => some (.int .i64 n)
  | .slc _ _ n _ _ => some (.int .i64 n)
  | .ro n _ => some (.int .i64 n)
  | _ => none

/-- The next entry, where there is no choice. -/
def nextM (lim : Nat) (H : Heap) (b : Nat) : Option (AV × Heap) :=
  match H[b]? with
  | some (.iter none _ _ _) => some (.tup [.bool false], H)
  | some (.iter (some r) since seen last) =>
    match H[r]? with
    | some (.map es clock) =>
      if (!seen.isEmpty && !es.isEmpty && es.all fun e => decide (e.2.2 ≥ last)) = true then none else
      match es.filter fun e => !seen.contains e.2.2 with
      | [] => some (.tup [.bool false], H)
      | [e] => if e.2.2 < since ∧ lim ≤ b then some (.tup [.bool true, e.1, e.2.1], H.set b (.iter (some r) since (seen ++ [e.2.2]) clock)) else none
      | _ => none
    | _ => none
  | _ => none
/-- The entry at which it stands. -/
def entryM (H : Heap) (b : Nat) : Option (AV × Heap) :=
  match H[b]? with
  | some (.iter (some r) _ seen last) =>
    match seen.getLast?, H[r]? with
    | some st, some (.map es clock) => if clock = last then (es.find? fun e => e.2.2 == st).map fun e => (.tup [e.1, e.2.1], H) else none
    | _, _ => none
  | _ => none
def rangeM (H : Heap) : AV → Option (AV × Heap)
  | .mapv none => some (.ptr (some (H.length, 0)), H ++ [.iter none 0 [] 0])
  | .mapv (some r) => match H[r]? with | some (.map _ clock) => some (.ptr (some (H.length, 0)), H ++ [.iter (some r) clock [] clock]) | _ => none
  | _ => none

/-- Everything but calls. -/
def aop (lim : Nat) (H : Heap) (T : Tmps) : AOp → Option (AV × Heap)
  | .mv x => some (x.ev T, H)
  | .pick c a b => match c.ev T with | .bool t => some (if t then a.ev T else b.ev T, H) | _ => none
  | .alloc z => some (.ptr (some (H.length, 0)), H ++ [.cells false z])
  | .box x => if (x.ev T).cells.all AV.one = true then some (.ptr (some (H.length, 0)), H ++ [.cells false (x.ev T).cells]) else none
  | .build z ps => (fillAV z (ps.map fun (o, s, x) => (o, s, x.ev T))).map fun cs => (.agg cs, H)
  | .buildSlice es len z ps =>
    (fillAV z (ps.map fun (o, s, x) => (o, s, x.ev T))).map fun cs =>
      if len = 0 then (.nilsl, H) else (.sl H.length 0 len es, H ++ [.cells true cs])
  | .load n a => (loadAt H n (a.ev T)).map (·, H)
  | .store n a v => (storeAt lim H n (a.ev T) (v.ev T)).map (.noval, ·)
  | .nilchk x => match x.ev T with | .ptr (some _) | .tp _ => some (x.ev T, H) | _ => none
  | .bin op x y => (binAV op (x.ev T) (y.ev T)).map (·, H)
  | .eqagg ks neg x y => match x.ev T, y.ev T with | .agg a, .agg b => (eqRow ks a b).map fun r => (.bool (if neg then !r else r), H) | _, _ => none
  | .eqbool neg x y => match x.ev T, y.ev T with | .bool a, .bool b => some (.bool (if neg then !(a == b) else a == b), H) | _, _ => none
  | .eqptr neg x y => match x.ev T, y.ev T with | .ptr a, .ptr b => (eqNil a b).map fun r => (.bool (if neg then !r else r), H) | _, _ => none
  | .eqmap neg x y => match x.ev T, y.ev T with | .mapv a, .mapv b => (eqNil a b).map fun r => (.bool (if neg then !r else r), H) | _, _ => none
  | .un op x => (unAV op (x.ev T)).map (·, H)
  | .conv k x => match x.ev T with | .int _ n => some (.int k (k.wrap n), H) | _ => none
  | .same x => match x.ev T with | .str s => some (.str s, H) | _ => none
  | .ofBytes x => (elems H 1 (x.ev T)).bind fun (_, cs) => (bytesOf cs).map fun s => (.str s, H)
  | .fieldAddr off x => (fieldAddrAV off (x.ev T)).map (·, H)
  | .field off n x => match x.ev T with | .agg cs => ((cut cs off (n.getD 1)).bind (shapeOf n)).map (·, H) | _ => none
  | .idxArr len es x i => (idx (i.ev T) len).bind fun i => (fieldAddrAV (i * es) (x.ev T)).map (·, H)
  | .idxSl es x i => (idxSlAV es (i.ev T) (x.ev T)).map (·, H)
  | .idxVal len es n x i => (idx (i.ev T) len).bind fun i => match x.ev T with | .agg cs => ((cut cs (i * es) (n.getD 1)).bind (shapeOf n)).map (·, H) | _ => none
  | .idxStr x i => match x.ev T with | .str s => (idx (i.ev T) s.length).map fun i => (.int .u8 (s.getD i 0).toNat, H) | _ => none
  | .sliceArr len es x l h m => match m, x.ev T with
    | none, .ptr (some (b, o)) => (H.cells? b).bind fun cs => if o + len * es ≤ cs.length then (bnd (h.map (·.ev T)) len len).bind fun h => (bnd (l.map (·.ev T)) 0 h).bind fun l => some (.sl b (o + l * es) (h - l) es, H) else none
    | none, .tp cs => (bnd (h.map (·.ev T)) len len).bind fun h => (bnd (l.map (·.ev T)) 0 h).bind fun l => some (.ro (h - l) ((cs.drop (l * es)).take ((h - l) * es)), H)
    | _, _ => none
  | .sliceSl es x l h m => (cutSl es (x.ev T) (l.map (·.ev T)) (h.map (·.ev T)) (m.map (·.ev T))).map (·, H)
  | .sliceStr x l h => match x.ev T with
    | .str s => (bnd (h.map (·.ev T)) s.length s.length).bind fun h => (bnd (l.map (·.ev T)) 0 h).bind fun l => some (.str ((s.take h).drop l), H)
    | _ => none
  | .extract x i => match x.ev T with | .tup vs => vs[i]?.map (·, H) | _ => none
  | .mkFn f a c => some (.fn f (a.map (·.ev T)) (c.map (·.ev T)), H)
  | .mkIface t x => some (.iface t (x.ev T), H)
  | .assertTo x t ok => match x.ev T, ok with
    | .iface t' v, none => if t' = t then some (v, H) else none
    | .iface t' v, some z => some (if t' = t then .tup [v, .bool true] else .tup [z, .bool false], H)
    | .niliface, some z => some (.tup [z, .bool false], H)
    | _, _ => none
  | .mkSlice es bytes z len cap => (len.ev T).isInt.bind fun l => (cap.ev T).isInt.bind fun c =>
      if 0 ≤ l ∧ l ≤ c ∧ c ≤ (most : Int) ∧ c * bytes ≤ (most : Int) ∧ z.length = es ∧ 0 < es then
        some (if c = 0 then .nilsl else .sl H.length 0 l.toNat es, if c = 0 then H else H ++ [.cells true (List.replicate l.toNat z).flatten])
      else none
  | .mkMap => some (.mapv (some H.length), H ++ [.map [] 0])
  | .lookup c z m k ok =>
    let es? : Option (List (AV × AV × Nat)) := match m.ev T with | .mapv none => some [] | .mapv (some r) => (match H[r]? with | some (.map es _) => some es | _ => none) | _ => none
    es?.bind fun es => if isKey c (k.ev T) = false then none else (findKey c (k.ev T) es 0).map fun r =>
      let v := match r with | some (_, v) => v | none => z
      (if ok then .tup [v, .bool r.isSome] else v, H)
  | .mapSet c m k v => match m.ev T with
    | .mapv (some r) => if lim ≤ r then (match H[r]? with
      | some (.map es clock) => if isKey c (k.ev T) = false then none else (findKey c (k.ev T) es 0).map fun
        | some (i, _) => (.noval, H.set r (.map (es.modify i fun e => (k.ev T, v.ev T, e.2.2)) clock))
        | none => (.noval, H.set r (.map (es ++ [(k.ev T, v.ev T, clock)]) (clock + 1)))
      | _ => none) else none
    | _ => none
  | .mapDel c m k => match m.ev T with
    | .mapv (some r) => if lim ≤ r then (match H[r]? with
      | some (.map es clock) => if isKey c (k.ev T) = false then none else (findKey c (k.ev T) es 0).map fun
        | some (i, _) => (.tup [], H.set r (.map (es.eraseIdx i) clock))
        | none => (.tup [], H)
      | _ => none) else none
    | .mapv none => some (.tup [], H)
    | _ => none
  | .rangeM x => rangeM H (x.ev T)
  | .nextM x => match x.ev T with | .ptr (some (b, 0)) => nextM lim H b | _ => none
  | .entryM x => match x.ev T with | .ptr (some (b, 0)) => entryM H b | _ => none
  | .lenSl x => (lenSlAV (x.ev T)).map (·, H)
  | .lenStr x => match x.ev T with | .str s => some (.int .i64 s.length, H) | _ => none
  | .lenConst n => some (.int .i64 n, H)
  | .lenMap x => match x.ev T with
    | .mapv none => some (.int .i64 0, H)
    | .mapv (some r) => match H[r]? with | some (.map es _) => some (.int .i64 es.length, H) | _ => none
    | _ => none
  | .max xs => (maxAll true (xs.map (·.ev T))).map (·, H)
  | .min xs => (maxAll false (xs.map (·.ev T))).map (·, H)
  | .append es bytes s x => appendAV lim H es bytes (s.ev T) (x.ev T)
  | .cap x => match x.ev T with | .slc _ _ _ c _ => some (.int .i64 c, H) | _ => none
  | .copy es d s => (elems H es (s.ev T)).bind fun (m, src) => match d.ev T with
    | .sl b o n es' => copyTo lim H es b o es' n m src
    | .slc b o n _ es' => copyTo lim H es b o es' n m src
    | _ => none
  | .appendZ es bytes z s x => match s.ev T, x.ev T with
    | .slc b o n c es', .int _ k =>
      if es' = es ∧ 0 < es ∧ 0 < k ∧ (c : Int) < n + k ∧ (n : Int) + k ≤ most ∧ ((n : Int) + k) * bytes ≤ most ∧ z.length = es ∧ z.all AV.one = true then
        (H.cells? b).bind fun cs => (cut cs o (n * es)).map fun old => (.sl H.length 0 (n + k.toNat) es, H ++ [.cells true (old ++ (List.replicate k.toNat z).flatten)])
      else none
    | _, _ => none
  | .call .. | .fail => none

/-- All of a row. -/
def mapO (f : AV → Option AV) : List AV → Option (List AV)
  | [] => some []
  | v :: vs => (f v).bind fun v' => (mapO f vs).map (v' :: ·)
/-- A value as it is handed to a function that sees no memory of ours: all rows written out. -/
def frz (H : Heap) : Nat → AV → Option AV
  | 0, _ => none
  | d + 1, v =>
    match v with
    | .bool b => some (.bool b)
    | .int k n => some (.int k n)
    | .str s => some (.str s)
    | .ptr none => some (.ptr none)
    | .nilsl => some (.ro 0 [])
    | .sl b o n es => if n = 0 then some (.ro 0 []) else (H.cells? b).bind fun cs => (cut cs o (n * es)).bind fun c => (mapO (frz H d) c).map (.ro n ·)
    | .ro n cs => if n = 0 then some (.ro 0 []) else some (.ro n cs)
    | .mapv none => some (.mapv none)
    | .fn f [] [] => some (.fn f [] [])
    | .nilfn => some .nilfn
    | .niliface => some .niliface
    | .agg cs => (mapO (frz H d) cs).map .agg
    | _ => none
def ownL (f : AV → Option (AV × List Nat)) : List AV → Option (List AV × List Nat)
  | [] => some ([], [])
  | v :: vs => (f v).bind fun (v', u) => (ownL f vs).map fun (vs', u') => (v' :: vs', u ++ u')
/-- A result as it is handed back: all rows that nobody else has are written out; which blocks they lay in. -/
def own (H : Heap) : Nat → AV → Option (AV × List Nat)
  | 0, _ => none
  | d + 1, v =>
    match v with
    | .bool b => some (.bool b, [])
    | .int k n => some (.int k n, [])
    | .str s => some (.str s, [])
    | .noval => some (.noval, [])
    | .ptr none => some (.ptr none, [])
    | .nilsl => some (.nilsl, [])
    | .sl b o n es =>
      match H[b]? with
      | some (.cells true cs) => if o + n * es = cs.length ∧ 0 < es then (ownL (own H d) (cs.drop o)).map fun (c, used) => (.ow es n c, b :: used) else none
      | _ => none
    | .ro n cs => if n = 0 then some (.ro 0 [], []) else none
    | .mapv none => some (.mapv none, [])
    | .fn f [] [] => some (.fn f [] [], [])
    | .nilfn => some (.nilfn, [])
    | .niliface => some (.niliface, [])
    | .agg cs => (ownL (own H d) cs).map fun (c, u) => (.agg c, u)
    | .tup cs => (ownL (own H d) cs).map fun (c, u) => (.tup c, u)
    | _ => none

/-! What was handed back is laid into our memory. -/
mutual
def thaw : AV → Heap → AV × Heap
  | .ow es n cs, H => let (cs', H') := thaws cs H; (.sl H'.length 0 n es, H' ++ [.cells true cs'])
  | .agg cs, H => let (cs', H') := thaws cs H; (.agg cs', H')
  | .tup cs, H => let (cs', H') := thaws cs H; (.tup cs', H')
  | v, H => (v, H)
def thaws : List AV → Heap → List AV × Heap
  | [], H => ([], H)
  | v :: vs, H => let (v', H1) := thaw v H; let (vs', H2) := thaws vs H1; (v' :: vs', H2)
end

example (H : Heap) : thaws [] H = ([], H) := rfl
def noTwo : List Nat → Bool
  | [] => true
  | x :: xs => !xs.contains x && noTwo xs

def deep : Nat := 12

def resOne (H : Heap) (T : Tmps) : ARes → Option AV
  | .tmp t => T[t]?
  | .cell t n => (T[t]?).bind (loadAt H n)
def resL (H : Heap) (T : Tmps) : List ARes → Option (List AV)
  | [] => some []
  | r :: rs => (resOne H T r).bind fun v => (resL H T rs).map (v :: ·)
def resAll (H : Heap) (T : Tmps) (rs : List ARes) : Option AV :=
  (resL H T rs).map fun | [v] => v | vs => .tup vs

abbrev Step := Option (AExit × Tmps × Heap)

/-- The call of a function. 'ex': how its code is run. -/
def callF (E : AEnv) (ex : AC → Nat → Tmps → Heap → Step) (f : Nat) (args : List AV) (lim : Nat) (H : Heap) : Option (AV × Heap) :=
  match E.fn f with
  | none => none
  | some (.prim g) => g args lim H
  | some (.ext g) => (g args H).map (·, H)
  | some (.code fd) =>
    match fd.mode with
    | .heap =>
      match ex fd.body lim (args ++ List.replicate (fd.ntmps - args.length) .noval) H with
      | some (.normal, T, H') | some (.ret, T, H') => (resAll H' T fd.results).map (·, H')
      | _ => none
    | .pure =>
      (mapO (frz H deep) args).bind fun ds =>
        match ex fd.body 0 (ds ++ List.replicate (fd.ntmps - args.length) .noval) [] with
        | some (.normal, T, H') | some (.ret, T, H') =>
          (resAll H' T fd.results).bind fun v => (own H' deep v).bind fun (d, used) => if noTwo used then some (thaw d H) else none
        | _ => none

def callee (E : AEnv) (H : Heap) (T : Tmps) (c : ACallee) (args : List AV) : Option (Nat × List AV) :=
  match c with
  | .fn x => match x.ev T with | .fn (.func f) first captured => some (f, first ++ args ++ captured) | _ => none
  | .meth r name => match r.ev T with
    | .iface t v => (E.meth t name).bind fun
      | (f, none) => some (f, v :: args)
      | (f, some n) => (loadAt H n v).map fun v => (f, v :: args)
    | _ => none

def runOp (E : AEnv) (ex : AC → Nat → Tmps → Heap → Step) (lim : Nat) (T : Tmps) (H : Heap) (o : AOp) : Option (AV × Heap) :=
  match o with
  | .call c args => (callee E H T c (args.map (·.ev T))).bind fun (f, as) => callF E ex f as lim H
  | o => aop lim H T o

def putT (T : Tmps) (dst : Option Nat) (v : AV) : Tmps := match dst with | some d => T.set d v | none => T

/-- Shall it be done? -/
def wantedA (T : Tmps) (g : Option (Nat × Bool)) : Option Bool :=
  match g with
  | none => some true
  | some (t, want) => match T[t]? with | some (.bool b) => some (b == want) | some .noval => some false | _ => none

def stepOp (E : AEnv) (ex : AC → Nat → Tmps → Heap → Step) (lim : Nat) (o : AOper) (T : Tmps) (H : Heap) : Option (Tmps × Heap) :=
  (wantedA T o.guard).bind fun
    | false => some (putT T o.dst .noval, H)
    | true => (runOp E ex lim T H o.op).map fun (v, H') => (putT T o.dst v, H')

def runOps (E : AEnv) (ex : AC → Nat → Tmps → Heap → Step) (lim : Nat) : List AOper → Tmps → Heap → Option (Tmps × Heap)
  | [], T, H => some (T, H)
  | o :: os, T, H => (stepOp E ex lim o T H).bind fun (T', H') => runOps E ex lim os T' H'

/-- In whatever order: who isn't held against all others writes nothing that was there. -/
def stepD (E : AEnv) (ex : AC → Nat → Tmps → Heap → Step) (lim : Nat) (solo : Bool) (o : AOper) (T : Tmps) (H : Heap) : Option (Tmps × Heap) :=
  if solo then (stepOp E ex lim o T H).bind fun r => if H.length ≤ r.2.length then some r else none
  else (stepOp E ex H.length o T H).map fun r => (r.1, H ++ r.2.drop H.length)
def runDraw (E : AEnv) (ex : AC → Nat → Tmps → Heap → Step) (lim : Nat) : List (Bool × AOper) → Tmps → Heap → Option (Tmps × Heap)
  | [], T, H => some (T, H)
  | (solo, o) :: os, T, H => (stepD E ex lim solo o T H).bind fun r => runDraw E ex lim os r.1 r.2

def killT (T : Tmps) : List Nat → Tmps
  | [] => T
  | t :: ts => killT (T.set t .undef) ts

def exec (E : AEnv) : Nat → AC → Nat → Tmps → Heap → Step
  | 0, _, _, _, _ => none
  | n + 1, c, lim, T, H =>
    match c with
    | .skip => some (.normal, T, H)
    | .ret => some (.ret, T, H)
    | .exit id => some (.exit id, T, H)
    | .kill ts => some (.normal, killT T ts, H)
    | .fail => none
    | .region ops => (runOps E (exec E n) lim ops T H).map fun (T, H) => (.normal, T, H)
    | .draw ops => if lim ≤ H.length then (runDraw E (exec E n) lim ops T H).map fun (T, H) => (.normal, T, H) else none
    | .seq a b => match exec E n a lim T H with
      | some (.normal, T, H) => exec E n b lim T H
      | r => r
    | .cond c t e => match c.ev T with
      | .bool b => exec E n (if b then t else e) lim T H
      | _ => none
    | .block id b => (exec E n b lim T H).map fun
      | (.exit j, T, H) => (if j = id then .normal else .exit j, T, H)
      | r => r
    | .loop b => match exec E n b lim T H with
      | some (.normal, T, H) => exec E n (.loop b) lim T H
      | r => r

end Go.Proofs.YtdbgebbofpgjmaaGreatA

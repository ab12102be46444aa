/- The small machine, part B0. No statement about the program is proved here. -/
import Derived.Calls
import Derived.Below
import Derived.Laws.World
import Derived.Laws.Cells
import Derived.Laws.CopyRow
import Derived.Laws.StructEq
import Derived.ChangeKeysEq
import Derived.Laws.Slices
import Derived.Lib.SmallJoins
/- What the words of this text say: a small machine without a tape, over the same code; and how its code is read off the program's. No statement about the program is proved here. -/
namespace Go.Proofs.YtgbnbgkldeifkaaGreatA
open Go
set_option linter.unusedVariables false
inductive AV where
 | undef                                        -- whatever
 | noval                                        -- what an operation that was passed by leaves
 | bool (b:Bool)
 | int (k:IntKind) (n:Int)
 | str (s:List UInt8)
 | ptr (p:Option (Nat × Nat))                 -- a place:its block,its cell
 | tp (cs:List AV)                            -- a place that is only read:the cells from there on
 | nilsl                                        -- a slice without elements and without room
 | sl (b o n es:Nat)                          -- n elements (es cells each) from cell o of block b on
 | slc (b o n c es:Nat)                       -- the same,of which the room (c elements) is known
 | ro (n:Nat) (cs:List AV)                  -- n elements that are only read
 | ow (es n:Nat) (cs:List AV)               -- n elements of a result:nobody else has them
 | mapv (r:Option Nat)
 | fn (f:Fn) (first captured:List AV)
 | nilfn
 | iface (t:Nat) (v:AV)
 | niliface
 | agg (cs:List AV)
 | tup (vs:List AV)
 deriving Inhabited
inductive ABlk where
 | cells (grow:Bool) (cs:List AV)
 | dead
 | map (es:List (AV × AV × Nat)) (clock:Nat)
 | iter (m:Option Nat) (since:Nat) (seen:List Nat) (last:Nat)   -- who goes through a map
 deriving Inhabited
def AV.cells:AV→List AV
 | .agg cs=>cs
 | v=>[v]
def AV.one:AV→Bool
 | .agg _ | .tup _ | .undef | .noval | .ow .. | .tp _=>false
 | _=>true
inductive AX where
 | tmp (t:Nat)
 | cst (v:AV)
 deriving Inhabited
inductive ACallee where
 | fn (f:AX)
 | meth (recv:AX) (name:String)
 deriving Inhabited
inductive CK where
 | b | i | s
 deriving DecidableEq,Inhabited
inductive AOp where
 | fail
 | mv (x:AX)
 | pick (c a b:AX)
 | alloc (zero:List AV)
 | box (x:AX)
 | build (zero:List AV) (parts:List (Nat × Nat × AX))
 | buildSlice (es len:Nat) (zero:List AV) (parts:List (Nat × Nat × AX))
 | load (n:Option Nat) (a:AX)
 | store (n:Nat) (a v:AX)
 | nilchk (x:AX)
 | bin (op:BinOp) (x y:AX)
 | eqagg (ks:List CK) (neg:Bool) (x y:AX)
 | eqbool (neg:Bool) (x y:AX)
 | eqptr (neg:Bool) (x y:AX)
 | eqmap (neg:Bool) (x y:AX)
 | un (op:UnOp) (x:AX)
 | conv (k:IntKind) (x:AX)
 | same (x:AX)                                 -- a string to a string
 | ofBytes (x:AX)                              -- a row of bytes to a string
 | fieldAddr (off:Nat) (x:AX)
 | field (off:Nat) (n:Option Nat) (x:AX)
 | idxArr (len es:Nat) (x i:AX)              -- the place of an element of an array in memory
 | idxSl (es:Nat) (x i:AX)
 | idxVal (len es:Nat) (n:Option Nat) (x i:AX)
 | idxStr (x i:AX)
 | sliceArr (len es:Nat) (x:AX) (l h m:Option AX)
 | sliceSl (es:Nat) (x:AX) (l h m:Option AX)
 | sliceStr (x:AX) (l h:Option AX)
 | extract (x:AX) (i:Nat)
 | mkFn (f:Fn) (first captured:List AX)
 | mkIface (t:Nat) (x:AX)
 | assertTo (x:AX) (t:Nat) (ok:Option AV)   -- to a type without methods;ok:v,ok:=..;the zero value
 | mkSlice (es bytes:Nat) (zero:List AV) (len cap:AX)
 | mkMap
 | lookup (c:CK) (zero:AV) (m k:AX) (ok:Bool)
 | mapSet (c:CK) (m k v:AX)
 | mapDel (c:CK) (m k:AX)
 | rangeM (x:AX)
 | nextM (x:AX)
 | entryM (x:AX)
 | lenSl (x:AX) | lenStr (x:AX) | lenConst (n:Nat) | lenMap (x:AX)
 | max (xs:List AX) | min (xs:List AX)
 | append (es bytes:Nat) (s x:AX)
 | cap (x:AX)
 | copy (es:Nat) (d s:AX)
 | appendZ (es bytes:Nat) (zero:List AV) (s n:AX)   -- so many zeros
 | call (f:ACallee) (args:List AX)
 deriving Inhabited
structure AOper where
 dst:Option Nat
 guard:Option (Nat × Bool)
 op:AOp
 deriving Inhabited
inductive AC where
 | skip
 | region (ops:List AOper)
 | draw (hs:List Nat) (ops:List (Bool × AOper))   -- in any order that the edges allow;true:it may write;hs:what is hidden from who writes
 | seq (a b:AC)
 | cond (c:AX) (t e:AC)
 | block (id:Nat) (body:AC)
 | loop (body:AC)
 | exit (id:Nat)
 | kill (ts:List Nat)                           -- from here on these are not read any more
 | ret
 | fail
 deriving Inhabited
inductive ARes where
 | tmp (t:Nat)
 | cell (t:Nat) (n:Option Nat)
 deriving Inhabited
inductive AExit where
 | normal | ret | exit (id:Nat)
 deriving DecidableEq,Inhabited
abbrev Heap:=List ABlk
abbrev Tmps:=List AV
inductive AMode where
 | heap | pure
 deriving DecidableEq,Inhabited
structure AFun where
 mode:AMode
 ntmps:Nat
 results:List ARes
 body:AC
 deriving Inhabited
inductive AF where
 | code (f:AFun)
 | prim (g:List AV→Nat→Heap→Option (AV × Heap))
 | ext (g:List AV→Heap→Option AV)           -- what the model does itself
structure AEnv where
 fn:Nat→Option AF
 meth:Nat→String→Option (Nat × Option (Option Nat))   -- the function;a pointer's target is read first (how many cells)
def AX.ev (T:Tmps):AX→AV
 | .tmp t=>T.getD t .undef
 | .cst v=>v
def Heap.cells? (H:Heap) (b:Nat):Option (List AV) :=
 match H[b]? with
 | some (.cells _ cs)=>some cs
 | _=>none
def cut (cs:List AV) (o n:Nat):Option (List AV):=if o + n≤cs.length then some ((cs.drop o).take n) else none
def shapeOf (n:Option Nat) (cs:List AV):Option AV :=
 match n with
 | some _=>some (.agg cs)
 | none=>match cs with | [v]=>some v | _=>none
def loadAt (H:Heap) (n:Option Nat):AV→Option AV
 | .ptr (some (b,o))=>(H.cells? b).bind fun cs=>(cut cs o (n.getD 1)).bind (shapeOf n)
 | .tp cs=>(cut cs 0 (n.getD 1)).bind (shapeOf n)
 | _=>none
def setFrom:List AV→Nat→List AV→List AV
 | cs,_,[]=>cs
 | cs,o,v :: vs=>setFrom (cs.set o v) (o + 1) vs
def storeAt (lim:Nat) (H:Heap) (n:Nat) (a v:AV):Option Heap :=
 match a with
 | .ptr (some (b,o)) =>
  if lim≤b then
   match H[b]? with
   | some (.cells g cs)=>if v.cells.length=n∧o + n≤cs.length∧v.cells.all AV.one=true then some (H.set b (.cells g (setFrom cs o v.cells))) else none
   | _=>none
  else none
 | _=>none
def fillAV (cells:List AV):List (Nat × Nat × AV)→Option (List AV)
 | []=>some cells
 | (off,size,v) :: rest=>if v.cells.length=size∧off + size≤cells.length∧v.cells.all AV.one=true then fillAV (setFrom cells off v.cells) rest else none
def eqAV:AV→AV→Option Bool
 | .bool a,.bool b=>some (a == b)
 | .int j a,.int k b=>if j=k then some (a == b) else none
 | .str a,.str b=>some (a == b)
 | _,_=>none
def eqCell:CK→AV→AV→Option Bool
 | .b,.bool a,.bool b=>some (a == b)
 | .i,.int j a,.int k b=>if j=k then some (a == b) else none
 | .s,.str a,.str b=>some (a == b)
 | _,_,_=>none
def eqRow:List CK→List AV→List AV→Option Bool
 | [],[],[]=>some true
 | k :: ks,x :: xs,y :: ys=>(eqCell k x y).bind fun b=>if b then eqRow ks xs ys else if xs.length=ks.length∧ys.length=ks.length then some false else none
 | _,_,_=>none
def strLess:List UInt8→List UInt8→Bool
 | _,[]=>false
 | [],_ :: _=>true
 | a :: x,b :: y=>decide (a < b) || (a == b && strLess x y)
def binInt (op:BinOp) (k:IntKind) (a b:Int):Option AV :=
 match op with
 | .add=>some (.int k (k.wrap (a + b)))
 | .sub=>some (.int k (k.wrap (a - b)))
 | .mul=>some (.int k (k.wrap (a * b)))
 | .quo=>if b=0 then none else some (.int k (k.wrap (a.tdiv b)))
 | .rem=>if b=0 then none else some (.int k (a.tmod b))
 | .and=>some (.int k (k.wrap (BitVec.ofInt k.bits a &&& BitVec.ofInt k.bits b).toNat))
 | .or=>some (.int k (k.wrap (BitVec.ofInt k.bits a ||| BitVec.ofInt k.bits b).toNat))
 | .xor=>some (.int k (k.wrap (BitVec.ofInt k.bits a ^^^ BitVec.ofInt k.bits b).toNat))
 | .eql=>some (.bool (a == b))
 | .neq=>some (.bool (a != b))
 | .lss=>some (.bool (decide (a < b)))
 | .leq=>some (.bool (decide (a≤b)))
 | .gtr=>some (.bool (decide (a > b)))
 | .geq=>some (.bool (decide (a ≥ b)))
 | _=>none
def binStr (op:BinOp) (a b:List UInt8):Option AV :=
 match op with
 | .add=>if a.length + b.length≤1152921504606846976 then some (.str (a++b)) else none
 | .eql=>some (.bool (a == b))
 | .neq=>some (.bool (!(a == b)))
 | .lss=>some (.bool (strLess a b))
 | .leq=>some (.bool (strLess a b || a == b))
 | .gtr=>some (.bool (!(strLess a b || a == b)))
 | .geq=>some (.bool (!(strLess a b)))
 | _=>none
def binAV (op:BinOp):AV→AV→Option AV
 | .int k a,.int k' b =>
  match op with
  | .shl=>if b < 0 then none else some (.int k (k.wrap (a * 2 ^ (min b.toNat k.bits))))
  | .shr=>if b < 0 then none else some (.int k (a.fdiv (2 ^ (min b.toNat k.bits))))
  | _=>if k=k' then binInt op k a b else none
 | .str a,.str b=>binStr op a b
 | _,_=>none
def eqNil {α:Type}:Option α→Option α→Option Bool
 | none,b=>some b.isNone
 | some _,none=>some false
 | _,_=>none
def unAV (op:UnOp):AV→Option AV
 | .int k n=>match op with | .neg=>some (.int k (k.wrap (0 - n))) | .xor=>binInt .xor k (if k.signed then -1 else k.max) n | _=>none
 | .bool b=>match op with | .not=>some (.bool (!b)) | _=>none
 | _=>none
def AV.isInt:AV→Option Int
 | .int _ n=>some n
 | _=>none
def idx (i:AV) (n:Nat):Option Nat:=i.isInt.bind fun i=>if 0≤i∧i < (n:Int) then some i.toNat else none
def bnd (x:Option AV) (dflt most:Nat):Option Nat :=
 match x with
 | none=>some dflt
 | some v=>v.isInt.bind fun i=>if 0≤i∧i≤(most:Int) then some i.toNat else none
def cutSl (es:Nat) (x:AV) (l h m:Option AV):Option AV :=
 match x,m with
 | .nilsl,none=>(bnd h 0 0).bind fun h=>(bnd l 0 h).bind fun l=>some .nilsl
 | .nilsl,some m=>(bnd (some m) 0 0).bind fun _=>(bnd h 0 0).bind fun h=>(bnd l 0 h).bind fun l=>some .nilsl
 | .sl b o n es',none=>if es'=es then (bnd h n n).bind fun h=>(bnd l 0 h).bind fun l=>some (.sl b (o + l * es) (h - l) es) else none
 | .ro n cs,none=>(bnd h n n).bind fun h=>(bnd l 0 h).bind fun l=>some (.ro (h - l) ((cs.drop (l * es)).take ((h - l) * es)))
 | .slc b o n c es',none=>if es'=es then (bnd h n c).bind fun h=>(bnd l 0 h).bind fun l=>if l < c then some (.slc b (o + l * es) (h - l) (c - l) es) else none else none
 | .sl ..,some m=>(bnd (some m) 0 0).bind fun _=>(bnd h 0 0).bind fun h=>(bnd l 0 h).bind fun l=>some .nilsl
 | .ro ..,some m=>(bnd (some m) 0 0).bind fun _=>(bnd h 0 0).bind fun h=>(bnd l 0 h).bind fun l=>some .nilsl
 | _,_=>none
def elems (H:Heap) (es:Nat):AV→Option (Nat × List AV)
 | .nilsl=>some (0,[])
 | .sl b o n es'=>if es'=es then (H.cells? b).bind fun cs=>(cut cs o (n * es)).map fun c=>(n,c) else none
 | .slc b o n _ es'=>if es'=es then (H.cells? b).bind fun cs=>(cut cs o (n * es)).map fun c=>(n,c) else none
 | .ro n cs=>if cs.length=n * es then some (n,cs) else none
 | _=>none
def most:Nat:=140737488355328
def appendAV (lim:Nat) (H:Heap) (es bytes:Nat) (s x:AV):Option (AV × Heap) :=
 (elems H es x).bind fun (m,new) =>
  if m=0 then
   match s with
   | .nilsl=>some (.nilsl,H)
   | .sl b o n es'=>some (.sl b o n es',H)
   | .ro n cs=>some (.ro n cs,H)
   | _=>none
  else
   match s with
   | .nilsl=>if m * bytes≤most∧m≤most∧0 < es∧new.all AV.one=true then some (.sl H.length 0 m es,H++[.cells true new]) else none
   | .sl b o n es' =>
    if es'=es∧0 < es∧lim≤b∧(n + m) * bytes≤most∧n + m≤most∧new.all AV.one=true then
     match H[b]? with
     | some (.cells true cs)=>(cut cs o (n * es)).map fun old=>(.sl H.length 0 (n + m) es,H.set b .dead++[.cells true (old++new)])
     | _=>none
    else none
   | _=>none
def copyTo (lim:Nat) (H:Heap) (es b o es' n m:Nat) (src:List AV):Option (AV × Heap) :=
 if es'=es∧lim≤b∧0 < n∧src.all AV.one=true then
  match H[b]? with
  | some (.cells g cs)=>if o≤cs.length then some (.int .i64 (Nat.min m n),H.set b (.cells g (cs.take o++src.take (Nat.min m n * es)++cs.drop (o + Nat.min m n * es)))) else none
  | _=>none
 else none
def srcOf (n:Nat):AV→AV
 | .slc b o m c es=>.slc b o (Nat.min m n) c es
 | x=>x
def dstLen:AV→Nat
 | .sl _ _ n _=>n
 | .slc _ _ n _ _=>n
 | _=>0
def bytesOf:List AV→Option (List UInt8)
 | []=>some []
 | .int .u8 n :: r=>(bytesOf r).map (UInt8.ofNat n.toNat :: ·)
 | _=>none
def max2 (op:Bool):AV→AV→Option AV
 | .int k a,.int k' b=>if k=k' then some (.int k (if op then (if b > a then b else a) else (if b < a then b else a))) else none
 | _,_=>none
def maxAll (op:Bool):List AV→Option AV
 | []=>none
 | x :: xs=>xs.foldlM (max2 op) x
def findKey (c:CK) (k:AV):List (AV × AV × Nat)→Nat→Option (Option (Nat × AV))
 | [],_=>some none
 | (k',v,_) :: r,i=>(eqCell c k k').bind fun b=>if b then some (some (i,v)) else findKey c k r (i + 1)
def isKey:CK→AV→Bool
 | .b,.bool _=>true
 | .i,.int _ _=>true
 | .s,.str _=>true
 | _,_=>false
def fieldAddrAV (off:Nat):AV→Option AV
 | .ptr (some (b,o))=>some (.ptr (some (b,o + off)))
 | .tp cs=>some (.tp (cs.drop off))
 | _=>none
def idxSlAV (es:Nat) (i:AV):AV→Option AV
 | .sl b o n es'=>if es'=es then (idx i n).map fun i=>.ptr (some (b,o + i * es)) else none
 | .ro n cs=>(idx i n).map fun i=>.tp (cs.drop (i * es))
 | _=>none
def lenSlAV:AV→Option AV
 | .nilsl=>some (.int .i64 0)
 | .sl _ _ n _=>some (.int .i64 n)
 | .slc _ _ n _ _=>some (.int .i64 n)
 | .ro n _=>some (.int .i64 n)
 | _=>none
def nextM (lim:Nat) (H:Heap) (b:Nat):Option (AV × Heap) :=
 match H[b]? with
 | some (.iter none _ _ _)=>some (.tup [.bool false],H)
 | some (.iter (some r) since seen last) =>
  match H[r]? with
  | some (.map es clock) =>
   if (!seen.isEmpty && !es.isEmpty && es.all fun e=>decide (e.2.2 ≥ last))=true then none else
   match es.filter fun e=>!seen.contains e.2.2 with
   | []=>some (.tup [.bool false],H)
   | [e]=>if e.2.2 < since∧lim≤b then some (.tup [.bool true,e.1,e.2.1],H.set b (.iter (some r) since (seen++[e.2.2]) clock)) else none
   | _=>none
  | _=>none
 | _=>none
def entryM (H:Heap) (b:Nat):Option (AV × Heap) :=
 match H[b]? with
 | some (.iter (some r) _ seen last) =>
  match seen.getLast?,H[r]? with
  | some st,some (.map es clock)=>if clock=last then (es.find? fun e=>e.2.2 == st).map fun e=>(.tup [e.1,e.2.1],H) else none
  | _,_=>none
 | _=>none
def rangeM (H:Heap):AV→Option (AV × Heap)
 | .mapv none=>some (.ptr (some (H.length,0)),H++[.iter none 0 [] 0])
 | .mapv (some r)=>match H[r]? with | some (.map _ clock)=>some (.ptr (some (H.length,0)),H++[.iter (some r) clock [] clock]) | _=>none
 | _=>none
def aop (lim:Nat) (H:Heap) (T:Tmps):AOp→Option (AV × Heap)
 | .mv x=>some (x.ev T,H)
 | .pick c a b=>match c.ev T with | .bool t=>some (if t then a.ev T else b.ev T,H) | _=>none
 | .alloc z=>some (.ptr (some (H.length,0)),H++[.cells false z])
 | .box x=>if (x.ev T).cells.all AV.one=true then some (.ptr (some (H.length,0)),H++[.cells false (x.ev T).cells]) else none
 | .build z ps=>(fillAV z (ps.map fun (o,s,x)=>(o,s,x.ev T))).map fun cs=>(.agg cs,H)
 | .buildSlice es len z ps =>
  (fillAV z (ps.map fun (o,s,x)=>(o,s,x.ev T))).map fun cs =>
   if len=0 then (.nilsl,H) else (.sl H.length 0 len es,H++[.cells true cs])
 | .load n a=>(loadAt H n (a.ev T)).map (·,H)
 | .store n a v=>(storeAt lim H n (a.ev T) (v.ev T)).map (.noval,·)
 | .nilchk x=>match x.ev T with | .ptr (some _) | .tp _=>some (x.ev T,H) | _=>none
 | .bin op x y=>(binAV op (x.ev T) (y.ev T)).map (·,H)
 | .eqagg ks neg x y=>match x.ev T,y.ev T with | .agg a,.agg b=>(eqRow ks a b).map fun r=>(.bool (if neg then !r else r),H) | _,_=>none
 | .eqbool neg x y=>match x.ev T,y.ev T with | .bool a,.bool b=>some (.bool (if neg then !(a == b) else a == b),H) | _,_=>none
 | .eqptr neg x y=>match x.ev T,y.ev T with | .ptr a,.ptr b=>(eqNil a b).map fun r=>(.bool (if neg then !r else r),H) | _,_=>none
 | .eqmap neg x y=>match x.ev T,y.ev T with | .mapv a,.mapv b=>(eqNil a b).map fun r=>(.bool (if neg then !r else r),H) | _,_=>none
 | .un op x=>(unAV op (x.ev T)).map (·,H)
 | .conv k x=>match x.ev T with | .int _ n=>some (.int k (k.wrap n),H) | _=>none
 | .same x=>match x.ev T with | .str s=>some (.str s,H) | _=>none
 | .ofBytes x=>(elems H 1 (x.ev T)).bind fun (_,cs)=>(bytesOf cs).map fun s=>(.str s,H)
 | .fieldAddr off x=>(fieldAddrAV off (x.ev T)).map (·,H)
 | .field off n x=>match x.ev T with | .agg cs=>((cut cs off (n.getD 1)).bind (shapeOf n)).map (·,H) | _=>none
 | .idxArr len es x i=>(idx (i.ev T) len).bind fun i=>(fieldAddrAV (i * es) (x.ev T)).map (·,H)
 | .idxSl es x i=>(idxSlAV es (i.ev T) (x.ev T)).map (·,H)
 | .idxVal len es n x i=>(idx (i.ev T) len).bind fun i=>match x.ev T with | .agg cs=>((cut cs (i * es) (n.getD 1)).bind (shapeOf n)).map (·,H) | _=>none
 | .idxStr x i=>match x.ev T with | .str s=>(idx (i.ev T) s.length).map fun i=>(.int .u8 (s.getD i 0).toNat,H) | _=>none
 | .sliceArr len es x l h m=>match m,x.ev T with
  | none,.ptr (some (b,o))=>(H.cells? b).bind fun cs=>if o + len * es≤cs.length then (bnd (h.map (·.ev T)) len len).bind fun h=>(bnd (l.map (·.ev T)) 0 h).bind fun l=>some (.sl b (o + l * es) (h - l) es,H) else none
  | none,.tp cs=>(bnd (h.map (·.ev T)) len len).bind fun h=>(bnd (l.map (·.ev T)) 0 h).bind fun l=>some (.ro (h - l) ((cs.drop (l * es)).take ((h - l) * es)),H)
  | _,_=>none
 | .sliceSl es x l h m=>(cutSl es (x.ev T) (l.map (·.ev T)) (h.map (·.ev T)) (m.map (·.ev T))).map (·,H)
 | .sliceStr x l h=>match x.ev T with
  | .str s=>(bnd (h.map (·.ev T)) s.length s.length).bind fun h=>(bnd (l.map (·.ev T)) 0 h).bind fun l=>some (.str ((s.take h).drop l),H)
  | _=>none
 | .extract x i=>match x.ev T with | .tup vs=>vs[i]?.map (·,H) | _=>none
 | .mkFn f a c=>some (.fn f (a.map (·.ev T)) (c.map (·.ev T)),H)
 | .mkIface t x=>some (.iface t (x.ev T),H)
 | .assertTo x t ok=>match x.ev T,ok with
  | .iface t' v,none=>if t'=t then some (v,H) else none
  | .iface t' v,some z=>some (if t'=t then .tup [v,.bool true] else .tup [z,.bool false],H)
  | .niliface,some z=>some (.tup [z,.bool false],H)
  | _,_=>none
 | .mkSlice es bytes z len cap=>(len.ev T).isInt.bind fun l=>(cap.ev T).isInt.bind fun c =>
  if 0≤l∧l≤c∧c≤(most:Int)∧c * bytes≤(most:Int)∧z.length=es∧0 < es then
   some (if c=0 then .nilsl else .sl H.length 0 l.toNat es,if c=0 then H else H++[.cells true (List.replicate l.toNat z).flatten])
  else none
 | .mkMap=>some (.mapv (some H.length),H++[.map [] 0])
 | .lookup c z m k ok =>
  let es?:Option (List (AV × AV × Nat)):=match m.ev T with | .mapv none=>some [] | .mapv (some r)=>(match H[r]? with | some (.map es _)=>some es | _=>none) | _=>none
  es?.bind fun es=>if isKey c (k.ev T)=false then none else (findKey c (k.ev T) es 0).map fun r =>
   let v:=match r with | some (_,v)=>v | none=>z
   (if ok then .tup [v,.bool r.isSome] else v,H)
 | .mapSet c m k v=>match m.ev T with
  | .mapv (some r)=>if lim≤r then (match H[r]? with
   | some (.map es clock)=>if isKey c (k.ev T)=false then none else (findKey c (k.ev T) es 0).map fun
    | some (i,_)=>(.noval,H.set r (.map (es.modify i fun e=>(k.ev T,v.ev T,e.2.2)) clock))
    | none=>(.noval,H.set r (.map (es++[(k.ev T,v.ev T,clock)]) (clock + 1)))
   | _=>none) else none
  | _=>none
 | .mapDel c m k=>match m.ev T with
  | .mapv (some r)=>if lim≤r then (match H[r]? with
   | some (.map es clock)=>if isKey c (k.ev T)=false then none else (findKey c (k.ev T) es 0).map fun
    | some (i,_)=>(.tup [],H.set r (.map (es.eraseIdx i) clock))
    | none=>(.tup [],H)
   | _=>none) else none
  | .mapv none=>some (.tup [],H)
  | _=>none
 | .rangeM x=>rangeM H (x.ev T)
 | .nextM x=>match x.ev T with | .ptr (some (b,0))=>nextM lim H b | _=>none
 | .entryM x=>match x.ev T with | .ptr (some (b,0))=>entryM H b | _=>none
 | .lenSl x=>(lenSlAV (x.ev T)).map (·,H)
 | .lenStr x=>match x.ev T with | .str s=>some (.int .i64 s.length,H) | _=>none
 | .lenConst n=>some (.int .i64 n,H)
 | .lenMap x=>match x.ev T with
  | .mapv none=>some (.int .i64 0,H)
  | .mapv (some r)=>match H[r]? with | some (.map es _)=>some (.int .i64 es.length,H) | _=>none
  | _=>none
 | .max xs=>(maxAll true (xs.map (·.ev T))).map (·,H)
 | .min xs=>(maxAll false (xs.map (·.ev T))).map (·,H)
 | .append es bytes s x=>appendAV lim H es bytes (s.ev T) (x.ev T)
 | .cap x=>match x.ev T with | .slc _ _ _ c _=>some (.int .i64 c,H) | _=>none
 | .copy es d s=>(elems H es (srcOf (dstLen (d.ev T)) (s.ev T))).bind fun (m,src)=>match d.ev T with
  | .sl b o n es'=>copyTo lim H es b o es' n m src
  | .slc b o n _ es'=>copyTo lim H es b o es' n m src
  | _=>none
 | .appendZ es bytes z s x=>match s.ev T,x.ev T with
  | .slc b o n c es',.int _ k =>
   if es'=es∧0 < es∧0 < k∧(c:Int) < n + k∧(n:Int) + k≤most∧((n:Int) + k) * bytes≤most∧z.length=es∧z.all AV.one=true then
    (H.cells? b).bind fun cs=>(cut cs o (n * es)).map fun old=>(.sl H.length 0 (n + k.toNat) es,H++[.cells true (old++(List.replicate k.toNat z).flatten)])
   else none
  | _,_=>none
 | .call .. | .fail=>none
def mapO (f:AV→Option AV):List AV→Option (List AV)
 | []=>some []
 | v :: vs=>(f v).bind fun v'=>(mapO f vs).map (v' :: ·)
def frz (H:Heap):Nat→AV→Option AV
 | 0,_=>none
 | d + 1,v =>
  match v with
  | .bool b=>some (.bool b)
  | .int k n=>some (.int k n)
  | .str s=>some (.str s)
  | .ptr none=>some (.ptr none)
  | .nilsl=>some (.ro 0 [])
  | .sl b o n es=>if n=0 then some (.ro 0 []) else (H.cells? b).bind fun cs=>(cut cs o (n * es)).bind fun c=>(mapO (frz H d) c).map (.ro n ·)
  | .ro n cs=>if n=0 then some (.ro 0 []) else some (.ro n cs)
  | .mapv none=>some (.mapv none)
  | .fn f [] []=>some (.fn f [] [])
  | .nilfn=>some .nilfn
  | .niliface=>some .niliface
  | .agg cs=>(mapO (frz H d) cs).map .agg
  | _=>none
def ownL (f:AV→Option (AV × List Nat)):List AV→Option (List AV × List Nat)
 | []=>some ([],[])
 | v :: vs=>(f v).bind fun (v',u)=>(ownL f vs).map fun (vs',u')=>(v' :: vs',u++u')
def own (H:Heap):Nat→AV→Option (AV × List Nat)
 | 0,_=>none
 | d + 1,v =>
  match v with
  | .bool b=>some (.bool b,[])
  | .int k n=>some (.int k n,[])
  | .str s=>some (.str s,[])
  | .noval=>some (.noval,[])
  | .ptr none=>some (.ptr none,[])
  | .nilsl=>some (.nilsl,[])
  | .sl b o n es =>
   match H[b]? with
   | some (.cells true cs)=>if o + n * es=cs.length∧0 < es then (ownL (own H d) (cs.drop o)).map fun (c,used)=>(.ow es n c,b :: used) else none
   | _=>none
  | .ro n cs=>if n=0 then some (.ro 0 [],[]) else none
  | .mapv none=>some (.mapv none,[])
  | .fn f [] []=>some (.fn f [] [],[])
  | .nilfn=>some (.nilfn,[])
  | .niliface=>some (.niliface,[])
  | .agg cs=>(ownL (own H d) cs).map fun (c,u)=>(.agg c,u)
  | .tup cs=>(ownL (own H d) cs).map fun (c,u)=>(.tup c,u)
  | _=>none
mutual
def thaw:AV→Heap→AV × Heap
 | .ow es n cs,H=>let (cs',H'):=thaws cs H;(.sl H'.length 0 n es,H'++[.cells true cs'])
 | .agg cs,H=>let (cs',H'):=thaws cs H;(.agg cs',H')
 | .tup cs,H=>let (cs',H'):=thaws cs H;(.tup cs',H')
 | v,H=>(v,H)
def thaws:List AV→Heap→List AV × Heap
 | [],H=>([],H)
 | v :: vs,H=>let (v',H1):=thaw v H;let (vs',H2):=thaws vs H1;(v' :: vs',H2)
end
example (H:Heap):thaws [] H=([],H):=rfl
def noTwo:List Nat→Bool
 | []=>true
 | x :: xs=>!xs.contains x && noTwo xs
def deep:Nat:=12
def resOne (H:Heap) (T:Tmps):ARes→Option AV
 | .tmp t=>T[t]?
 | .cell t n=>(T[t]?).bind (loadAt H n)
def resL (H:Heap) (T:Tmps):List ARes→Option (List AV)
 | []=>some []
 | r :: rs=>(resOne H T r).bind fun v=>(resL H T rs).map (v :: ·)
def resAll (H:Heap) (T:Tmps) (rs:List ARes):Option AV :=
 (resL H T rs).map fun | [v]=>v | vs=>.tup vs
abbrev Step:=Option (AExit × Tmps × Heap)
def callF (E:AEnv) (ex:AC→Nat→Tmps→Heap→Step) (f:Nat) (args:List AV) (lim:Nat) (H:Heap):Option (AV × Heap) :=
 match E.fn f with
 | none=>none
 | some (.prim g)=>g args lim H
 | some (.ext g)=>(g args H).map (·,H)
 | some (.code fd) =>
  match fd.mode with
  | .heap =>
   match ex fd.body lim (args++List.replicate (fd.ntmps - args.length) .noval) H with
   | some (.normal,T,H') | some (.ret,T,H')=>(resAll H' T fd.results).map (·,H')
   | _=>none
  | .pure =>
   (mapO (frz H deep) args).bind fun ds =>
    match ex fd.body 0 (ds++List.replicate (fd.ntmps - args.length) .noval) [] with
    | some (.normal,T,H') | some (.ret,T,H') =>
     (resAll H' T fd.results).bind fun v=>(own H' deep v).bind fun (d,used)=>if noTwo used then some (thaw d H) else none
    | _=>none
def callee (E:AEnv) (H:Heap) (T:Tmps) (c:ACallee) (args:List AV):Option (Nat × List AV) :=
 match c with
 | .fn x=>match x.ev T with | .fn (.func f) first captured=>some (f,first++args++captured) | _=>none
 | .meth r name=>match r.ev T with
  | .iface t v=>(E.meth t name).bind fun
   | (f,none)=>some (f,v :: args)
   | (f,some n)=>(loadAt H n v).map fun v=>(f,v :: args)
  | _=>none
def runOp (E:AEnv) (ex:AC→Nat→Tmps→Heap→Step) (lim:Nat) (T:Tmps) (H:Heap) (o:AOp):Option (AV × Heap) :=
 match o with
 | .call c args=>(callee E H T c (args.map (·.ev T))).bind fun (f,as)=>callF E ex f as lim H
 | o=>aop lim H T o
def putT (T:Tmps) (dst:Option Nat) (v:AV):Tmps:=match dst with | some d=>T.set d v | none=>T
def wantedA (T:Tmps) (g:Option (Nat × Bool)):Option Bool :=
 match g with
 | none=>some true
 | some (t,want)=>match T[t]? with | some (.bool b)=>some (b == want) | some .noval=>some false | _=>none
def stepOp (E:AEnv) (ex:AC→Nat→Tmps→Heap→Step) (lim:Nat) (o:AOper) (T:Tmps) (H:Heap):Option (Tmps × Heap) :=
 (wantedA T o.guard).bind fun
  | false=>some (putT T o.dst .noval,H)
  | true=>(runOp E ex lim T H o.op).map fun (v,H')=>(putT T o.dst v,H')
def runOps (E:AEnv) (ex:AC→Nat→Tmps→Heap→Step) (lim:Nat):List AOper→Tmps→Heap→Option (Tmps × Heap)
 | [],T,H=>some (T,H)
 | o :: os,T,H=>(stepOp E ex lim o T H).bind fun (T',H')=>runOps E ex lim os T' H'
def hide:List Nat→Heap→Heap
 | [],H=>H
 | b :: B,H=>(hide B H).set b .dead
def unhide:List Nat→Heap→Heap→Heap
 | [],_,H'=>H'
 | b :: B,H,H'=>(unhide B H H').set b (H.getD b .dead)
def hideO:Option (List Nat)→Heap→Heap
 | none,H=>H
 | some B,H=>hide B H
def unhideO:Option (List Nat)→Heap→Heap→Heap
 | none,_,H'=>H'
 | some B,H,H'=>unhide B H H'
def hidB (T:Tmps) (n:Nat):List Nat→Option (List Nat)
 | []=>some []
 | t :: ts=>match T[t]? with
  | some (.ptr (some (b,_)))=>if b < n then (hidB T n ts).map (b :: ·) else none
  | some (.tp _)=>hidB T n ts
  | _=>none
def hidden (T:Tmps) (n:Nat):List Nat→Option (Option (List Nat))
 | []=>some none
 | t :: ts=>(hidB T n (t :: ts)).map some
def seen (T:Tmps) (o:AOper):Option (List Nat)→Bool
 | none=>true
 | some B=>match o.op with
  | .load _ x=>match wantedA T o.guard with
   | some false=>true
   | _=>match x.ev T with
    | .ptr (some (b,_))=>B.contains b
    | .tp _=>true
    | _=>false
  | _=>true
def stepD (E:AEnv) (ex:AC→Nat→Tmps→Heap→Step) (lim:Nat) (B:Option (List Nat)) (solo:Bool) (o:AOper) (T:Tmps) (H:Heap):Option (Tmps × Heap) :=
 if solo then (stepOp E ex lim o T (hideO B H)).bind fun r=>if H.length≤r.2.length then some (r.1,unhideO B H r.2) else none
 else if seen T o B=true then (stepOp E ex H.length o T H).map fun r=>(r.1,H++r.2.drop H.length) else none
def runDraw (E:AEnv) (ex:AC→Nat→Tmps→Heap→Step) (lim:Nat) (B:Option (List Nat)):List (Bool × AOper)→Tmps→Heap→Option (Tmps × Heap)
 | [],T,H=>some (T,H)
 | (solo,o) :: os,T,H=>(stepD E ex lim B solo o T H).bind fun r=>runDraw E ex lim B os r.1 r.2
def killT (T:Tmps):List Nat→Tmps
 | []=>T
 | t :: ts=>killT (T.set t .undef) ts
def exec (E:AEnv):Nat→AC→Nat→Tmps→Heap→Step
 | 0,_,_,_,_=>none
 | n + 1,c,lim,T,H =>
  match c with
  | .skip=>some (.normal,T,H)
  | .ret=>some (.ret,T,H)
  | .exit id=>some (.exit id,T,H)
  | .kill ts=>some (.normal,killT T ts,H)
  | .fail=>none
  | .region ops=>(runOps E (exec E n) lim ops T H).map fun (T,H)=>(.normal,T,H)
  | .draw hs ops=>if lim≤H.length then (hidden T H.length hs).bind fun B=>(runDraw E (exec E n) lim B ops T H).map fun (T,H)=>(.normal,T,H) else none
  | .seq a b=>match exec E n a lim T H with
   | some (.normal,T,H)=>exec E n b lim T H
   | r=>r
  | .cond c t e=>match c.ev T with
   | .bool b=>exec E n (if b then t else e) lim T H
   | _=>none
  | .block id b=>(exec E n b lim T H).map fun
   | (.exit j,T,H)=>(if j=id then .normal else .exit j,T,H)
   | r=>r
  | .loop b=>match exec E n b lim T H with
   | some (.normal,T,H)=>exec E n (.loop b) lim T H
   | r=>r
end Go.Proofs.YtgbnbgkldeifkaaGreatA
/- How the small machine's values and memory lie in the program's, and that this lasts. No statement about the program is proved here. -/
namespace Go.Proofs.YtgbnbgkldeifkaaGreatA
open Go
set_option linter.unusedVariables false
structure Loc where
 c:Nat
 k:Nat
 sz:Nat
abbrev Mu:=List (Option Loc)
section
variable (w0:World) (ro:Nat→Prop)
mutual
inductive TR:AV→Value→Prop
 | bool (b):TR (.bool b) (.bool b)
 | int (k n):TR (.int k n) (.int k n)
 | str {l s} (h:s.data.toList=l):TR (.str l) (.string s)
 | ptrn:TR (.ptr none) (.pointer none)
 | ro0 {cs} (a cap) (h:cs=[]):TR (.ro 0 cs) (.slice a 0 cap)
 | ro {n cs c off cap} (h0:ro c) (hn:n≤cap) (h:RD cs c off):TR (.ro n cs) (.slice (some ⟨c,off,none⟩) n cap)
 | mapn:TR (.mapv none) (.map none)
 | fn (f):TR (.fn f [] []) (.func f #[] #[])
 | nilfn:TR .nilfn .nilFunc
 | niliface:TR .niliface .nilIface
 | agg {cs vs} (h:TRs cs vs):TR (.agg cs) (.agg vs.toArray)
inductive TRs:List AV→List Value→Prop
 | nil:TRs [] []
 | cons {v v' vs vs'} (h:TR v v') (t:TRs vs vs'):TRs (v :: vs) (v' :: vs')
inductive RD:List AV→Nat→Nat→Prop
 | nil (c off):RD [] c off
 | cons {v v' vs c off} (h0:w0.cell? ⟨c,off,none⟩=some v') (h:TR v v') (t:RD vs c (off + 1)):RD (v :: vs) c off
end
mutual
inductive VR (μ:Mu):AV→Value→Prop
 | undef (v):VR μ .undef v
 | noval:VR μ .noval Go.undef
 | bool (b):VR μ (.bool b) (.bool b)
 | int (k n):VR μ (.int k n) (.int k n)
 | str {l s} (h:s.data.toList=l):VR μ (.str l) (.string s)
 | ptrn:VR μ (.ptr none) (.pointer none)
 | ptr {b o loc} (h:μ[b]?=some (some loc)):VR μ (.ptr (some (b,o))) (.pointer (some ⟨loc.c,loc.k + o,none⟩))
 | tp {cs c off} (h0:ro c) (h:RD w0 ro cs c off):VR μ (.tp cs) (.pointer (some ⟨c,off,none⟩))
 | nilsl (a):VR μ .nilsl (.slice a 0 0)
 | sl {b o n es loc cap} (h:μ[b]?=some (some loc)) (hn:n≤cap) (hc:loc.k + o + cap * es≤loc.sz):VR μ (.sl b o n es) (.slice (some ⟨loc.c,loc.k + o,none⟩) n cap)
 | sl0 {b o es} (a):VR μ (.sl b o 0 es) (.slice a 0 0)
 | slc {b o n c es loc} (h:μ[b]?=some (some loc)) (hn:n≤c) (hc:loc.k + o + c * es≤loc.sz):VR μ (.slc b o n c es) (.slice (some ⟨loc.c,loc.k + o,none⟩) n c)
 | ro0 {cs} (a cap) (h:cs=[]):VR μ (.ro 0 cs) (.slice a 0 cap)
 | ro {n cs c off cap} (h0:ro c) (hn:n≤cap) (h:RD w0 ro cs c off):VR μ (.ro n cs) (.slice (some ⟨c,off,none⟩) n cap)
 | mapn:VR μ (.mapv none) (.map none)
 | map {b loc} (h:μ[b]?=some (some loc)):VR μ (.mapv (some b)) (.map (some loc.c))
 | fn {f as bs as' bs'} (h:VRs μ as as') (h':VRs μ bs bs'):VR μ (.fn f as bs) (.func f as'.toArray bs'.toArray)
 | nilfn:VR μ .nilfn .nilFunc
 | iface {t v v'} (h:VR μ v v'):VR μ (.iface t v) (.iface t v')
 | niliface:VR μ .niliface .nilIface
 | agg {cs vs} (h:VRs μ cs vs):VR μ (.agg cs) (.agg vs.toArray)
 | tup {cs vs} (h:VRs μ cs vs):VR μ (.tup cs) (.tuple vs.toArray)
inductive VRs (μ:Mu):List AV→List Value→Prop
 | nil:VRs μ [] []
 | cons {v v' vs vs'} (h:VR μ v v') (t:VRs μ vs vs'):VRs μ (v :: vs) (v' :: vs')
end
end
section
variable {w0:World} {ro:Nat→Prop}
mutual
theorem TR.toVR {μ:Mu}:∀ {v v'},TR w0 ro v v'→VR w0 ro μ v v'
 | _,_,.bool b=>.bool b
 | _,_,.int k n=>.int k n
 | _,_,.str h=>.str h
 | _,_,.ptrn=>.ptrn
 | _,_,.ro0 a c h=>.ro0 a c h
 | _,_,.ro h0 hn h=>.ro h0 hn h
 | _,_,.mapn=>.mapn
 | _,_,.fn f=>.fn (as':=[]) (bs':=[]) .nil .nil
 | _,_,.nilfn=>.nilfn
 | _,_,.niliface=>.niliface
 | _,_,.agg h=>.agg (TRs.toVRs h)
theorem TRs.toVRs {μ:Mu}:∀ {v v'},TRs w0 ro v v'→VRs w0 ro μ v v'
 | _,_,.nil=>.nil
 | _,_,.cons h t=>.cons (TR.toVR h) (TRs.toVRs t)
end
def Stays (w0:World) (ro:Nat→Prop) (w1:World) (ro1:Nat→Prop):Prop:=∀ c,ro c→ro1 c∧w1.heap[c]?=w0.heap[c]?
theorem cell_stays {w0 w1:World} {c off:Nat} (h:w1.heap[c]?=w0.heap[c]?):w1.cell? ⟨c,off,none⟩=w0.cell? ⟨c,off,none⟩:=by
 unfold World.cell?
 simp only [h]
mutual
theorem TR.stays {w1:World} {ro1:Nat→Prop} (S:Stays w0 ro w1 ro1):∀ {v v'},TR w0 ro v v'→TR w1 ro1 v v'
 | _,_,.bool b=>.bool b
 | _,_,.int k n=>.int k n
 | _,_,.str h=>.str h
 | _,_,.ptrn=>.ptrn
 | _,_,.ro0 a c h=>.ro0 a c h
 | _,_,.ro h0 hn h=>.ro (S _ h0).1 hn (RD.stays S h0 h)
 | _,_,.mapn=>.mapn
 | _,_,.fn f=>.fn f
 | _,_,.nilfn=>.nilfn
 | _,_,.niliface=>.niliface
 | _,_,.agg h=>.agg (TRs.stays S h)
theorem TRs.stays {w1:World} {ro1:Nat→Prop} (S:Stays w0 ro w1 ro1):∀ {v v'},TRs w0 ro v v'→TRs w1 ro1 v v'
 | _,_,.nil=>.nil
 | _,_,.cons h t=>.cons (TR.stays S h) (TRs.stays S t)
theorem RD.stays {w1:World} {ro1:Nat→Prop} (S:Stays w0 ro w1 ro1) {c:Nat} (hc:ro c):∀ {v off},RD w0 ro v c off→RD w1 ro1 v c off
 | _,_,.nil c off=>.nil c off
 | _,_,.cons h0 h t=>.cons ((cell_stays (S _ hc).2).trans h0) (TR.stays S h) (RD.stays S hc t)
end
def Ext (μ μ':Mu):Prop:=∀ (b:Nat) (loc:Loc),μ[b]?=some (some loc)→μ'[b]?=some (some loc)
theorem Ext.refl (μ:Mu):Ext μ μ:=fun _ _ h=>h
theorem Ext.trans {a b c:Mu} (h:Ext a b) (k:Ext b c):Ext a c:=fun _ _ e=>k _ _ (h _ _ e)
theorem Ext.app (μ ν:Mu):Ext μ (μ++ν):=fun b loc h=>by
 have hb:b < μ.length:=by
  rcases Nat.lt_or_ge b μ.length with q | q
  · exact q
  · rw [List.getElem?_eq_none q] at h;cases h
 rw [List.getElem?_append_left hb];exact h
mutual
theorem VR.ext {μ μ':Mu} (E:Ext μ μ'):∀ {v v'},VR w0 ro μ v v'→VR w0 ro μ' v v'
 | _,_,.undef v=>.undef v
 | _,_,.noval=>.noval
 | _,_,.bool b=>.bool b
 | _,_,.int k n=>.int k n
 | _,_,.str h=>.str h
 | _,_,.ptrn=>.ptrn
 | _,_,.ptr h=>.ptr (E _ _ h)
 | _,_,.tp h0 h=>.tp h0 h
 | _,_,.nilsl a=>.nilsl a
 | _,_,.sl h hn hc=>.sl (E _ _ h) hn hc
 | _,_,.sl0 a=>.sl0 a
 | _,_,.slc h hn hc=>.slc (E _ _ h) hn hc
 | _,_,.ro0 a c h=>.ro0 a c h
 | _,_,.ro h0 hn h=>.ro h0 hn h
 | _,_,.mapn=>.mapn
 | _,_,.map h=>.map (E _ _ h)
 | _,_,.fn h h'=>.fn (VRs.ext E h) (VRs.ext E h')
 | _,_,.nilfn=>.nilfn
 | _,_,.iface h=>.iface (VR.ext E h)
 | _,_,.niliface=>.niliface
 | _,_,.agg h=>.agg (VRs.ext E h)
 | _,_,.tup h=>.tup (VRs.ext E h)
theorem VRs.ext {μ μ':Mu} (E:Ext μ μ'):∀ {v v'},VRs w0 ro μ v v'→VRs w0 ro μ' v v'
 | _,_,.nil=>.nil
 | _,_,.cons h t=>.cons (VR.ext E h) (VRs.ext E t)
end
theorem VRs.len {μ:Mu}:∀ {v v'},VRs w0 ro μ v v'→v.length=v'.length
 | _,_,.nil=>rfl
 | _,_,.cons _ t=>by simp [VRs.len t]
theorem VRs.get {μ:Mu}:∀ {vs:List AV} {vs':List Value},VRs w0 ro μ vs vs'→∀ {i:Nat} {v:AV},vs[i]?=some v→∃ v':Value,vs'[i]?=some v'∧VR w0 ro μ v v'
 | _,_,.nil,i,v,h=>by simp at h
 | _,_,.cons h t,0,v,e=>by simp at e;subst e;exact ⟨_,rfl,h⟩
 | _,_,.cons h t,i + 1,v,e=>by simp at e;simpa using VRs.get t e
theorem VRs.app {μ:Mu}:∀ {a a' b b'},VRs w0 ro μ a a'→VRs w0 ro μ b b'→VRs w0 ro μ (a++b) (a'++b')
 | _,_,_,_,.nil,k=>k
 | _,_,_,_,.cons h t,k=>.cons h (VRs.app t k)
theorem VRs.take {μ:Mu}:∀ {a a'} (n:Nat),VRs w0 ro μ a a'→VRs w0 ro μ (a.take n) (a'.take n)
 | _,_,0,_=>by simp;exact .nil
 | _,_,n + 1,.nil=>by simp;exact .nil
 | _,_,n + 1,.cons h t=>.cons h (VRs.take n t)
theorem VRs.drop {μ:Mu}:∀ {a a'} (n:Nat),VRs w0 ro μ a a'→VRs w0 ro μ (a.drop n) (a'.drop n)
 | _,_,0,h=>by simpa using h
 | _,_,n + 1,.nil=>by simp;exact .nil
 | _,_,n + 1,.cons h t=>by simpa using VRs.drop n t
theorem VRs.set {μ:Mu}:∀ {a a'} (i:Nat) {v v'},VRs w0 ro μ a a'→VR w0 ro μ v v'→VRs w0 ro μ (a.set i v) (a'.set i v')
 | _,_,_,_,_,.nil,_=>by simp;exact .nil
 | _,_,0,_,_,.cons h t,k=>.cons k t
 | _,_,i + 1,_,_,.cons h t,k=>.cons h (VRs.set i t k)
theorem VRs.of_get {μ:Mu}:∀ {vs:List AV} {vs':List Value},vs.length=vs'.length→(∀ (i:Nat) (v:AV),vs[i]?=some v→∃ v',vs'[i]?=some v'∧VR w0 ro μ v v')→VRs w0 ro μ vs vs'
 | [],[],_,_=>.nil
 | [],_ :: _,h,_=>by simp at h
 | _ :: _,[],h,_=>by simp at h
 | v :: vs,v' :: vs',h,k=>by
  obtain ⟨u,hu,r⟩:=k 0 v rfl
  simp at hu;subst hu
  exact .cons r (VRs.of_get (by simpa using h) fun i x hx=>by simpa using k (i + 1) x (by simpa using hx))
theorem RD.get:∀ {cs:List AV} {c off:Nat},RD w0 ro cs c off→∀ {i:Nat} {v:AV},cs[i]?=some v→∃ v',w0.cell? ⟨c,off + i,none⟩=some v'∧TR w0 ro v v'
 | _,_,_,.nil _ _,i,v,h=>by simp at h
 | _,_,_,.cons h0 h t,0,v,e=>by simp at e;subst e;exact ⟨_,h0,h⟩
 | _,_,_,.cons h0 h t,i + 1,v,e=>by
  simp at e
  obtain ⟨v',a,b⟩:=RD.get t e
  exact ⟨v',by rw [← a];congr 2;omega,b⟩
theorem RD.drop:∀ {cs c off} (n:Nat),RD w0 ro cs c off→RD w0 ro (cs.drop n) c (off + n)
 | _,_,_,0,h=>by simpa using h
 | _,_,_,n + 1,.nil _ _=>by simp;exact .nil _ _
 | _,_,off,n + 1,.cons h0 h t=>by
  have:=RD.drop n t
  rw [show off + 1 + n=off + (n + 1) from by omega] at this
  simpa using this
theorem RD.take:∀ {cs c off} (n:Nat),RD w0 ro cs c off→RD w0 ro (cs.take n) c off
 | _,_,_,0,h=>by simp;exact .nil _ _
 | _,_,_,n + 1,.nil _ _=>by simp;exact .nil _ _
 | _,_,_,n + 1,.cons h0 h t=>.cons h0 h (RD.take n t)
theorem RD.of_get:∀ {cs:List AV} {c off:Nat},(∀ (i:Nat) (v:AV),cs[i]?=some v→∃ v',w0.cell? ⟨c,off + i,none⟩=some v'∧TR w0 ro v v')→RD w0 ro cs c off
 | [],c,off,_=>.nil _ _
 | v :: vs,c,off,k=>by
  obtain ⟨u,hu,r⟩:=k 0 v rfl
  refine .cons hu r (RD.of_get fun i x hx=>?_)
  obtain ⟨u',hu',r'⟩:=k (i + 1) x (by simpa using hx)
  exact ⟨u',by rw [← hu'];congr 2;omega,r'⟩
def Value.one:Value→Bool
 | .agg _ | .tuple _=>false
 | _=>true
theorem VR.one {μ:Mu} {v v'} (h:VR w0 ro μ v v') (k:v.one=true):Value.one v'=true:=by
 cases h <;> first | rfl | simp [AV.one] at k
theorem VR.cells {μ:Mu} {v v'} (h:VR w0 ro μ v v') (k:v.cells.all AV.one=true):VRs w0 ro μ v.cells v'.cells.toList:=by
 cases h <;> first | (simp [AV.cells,Value.cells];assumption) | (simp only [AV.cells,Value.cells];refine .cons ?_ .nil;constructor <;> assumption) | (simp [AV.cells,AV.one] at k)
def BR (w0:World) (ro:Nat→Prop) (μ:Mu) (loc:Loc) (w:World):Option ABlk→Prop
 | some (.cells _ cs)=>¬ ro loc.c∧∃ arr t,w.heap[loc.c]?=some (.cells arr t (0,0))∧arr.size=loc.sz∧loc.k + cs.length≤arr.size ∧
  ∀ (j:Nat) (v:AV),cs[j]?=some v→v.one=true∧∃ v',arr[loc.k + j]?=some v'∧VR w0 ro μ v v'
 | some (.map es clock)=>¬ ro loc.c∧∃ ces,w.heap[loc.c]?=some (.map ces clock)∧ces.size=es.length ∧
  ∀ (i:Nat) (k v:AV) (b:Nat),es[i]?=some (k,v,b)→∃ e:MapEntry,ces[i]?=some e∧e.born=b∧VR w0 ro μ k e.key∧VR w0 ro μ v e.val
 | some (.iter m since seen last)=>¬ ro loc.c∧loc.k=0∧∃ m':Option Nat,w.heap[loc.c]?=some (.mapIter m' since seen.toArray last) ∧
  match m,m' with | none,none=>True | some b,some c=>∃ l:Loc,μ[b]?=some (some l)∧l.c=c | _,_=>False
 | some .dead=>True
 | none=>False
def alive (H:Heap) (b:Nat):Prop:=(∃ g cs,H[b]?=some (.cells g cs))∨(∃ es c,H[b]?=some (.map es c))∨∃ m s l k,H[b]?=some (.iter m s l k)
structure HR (w0:World) (ro:Nat→Prop) (μ:Mu) (H:Heap) (w:World):Prop where
 len:μ.length=H.length
 grow:w0.heap.size≤w.heap.size
 old:∀ c,ro c→c < w0.heap.size∧w.heap[c]?=w0.heap[c]?
 blk:∀ (b:Nat) (loc:Loc),μ[b]?=some (some loc)→BR w0 ro μ loc w H[b]?
 inj:∀ (b b':Nat) (loc loc':Loc),alive H b→alive H b'→μ[b]?=some (some loc)→μ[b']?=some (some loc')→loc.c=loc'.c→b=b'
def Owned (μ:Mu) (H:Heap) (lim c:Nat):Prop:=∃ (b:Nat) (loc:Loc),lim≤b∧alive H b∧μ[b]?=some (some loc)∧loc.c=c
structure Post (w0:World) (ro:Nat→Prop) (lim:Nat) (μ:Mu) (H:Heap) (w:World) (μ':Mu) (H':Heap) (w':World):Prop where
 app:∃ ν,μ'=μ++ν
 hr:HR w0 ro μ' H' w'
 os:w'.os=w.os
 tape:w'.tape=w.tape
 output:w'.output=w.output
 size:w.heap.size≤w'.heap.size
 frame:∀ c,c < w.heap.size→¬ Owned μ H lim c→w'.heap[c]?=w.heap[c]?
 sub:∀ c,c < w.heap.size→Owned μ' H' lim c→Owned μ H lim c
 low:∀ b,b < lim→b < H.length→H'[b]?=H[b]?
 more:H.length≤H'.length
theorem Post.ext {lim:Nat} {μ μ':Mu} {H H':Heap} {w w':World} (h:Post w0 ro lim μ H w μ' H' w'):Ext μ μ':=by
 obtain ⟨ν,rfl⟩:=h.app
 exact Ext.app _ _
theorem Post.refl {lim:Nat} {μ:Mu} {H:Heap} {w:World} (h:HR w0 ro μ H w):Post w0 ro lim μ H w μ H w :=
 ⟨⟨[],by simp⟩,h,rfl,rfl,rfl,Nat.le_refl _,fun _ _ _=>rfl,fun _ _ h=>h,fun _ _ _=>rfl,Nat.le_refl _⟩
theorem Post.trans {lim:Nat} {μ:Mu} {H:Heap} {w:World} {μ1:Mu} {H1:Heap} {w1:World} {μ2:Mu} {H2:Heap} {w2:World} (h:Post w0 ro lim μ H w μ1 H1 w1) (k:Post w0 ro lim μ1 H1 w1 μ2 H2 w2):Post w0 ro lim μ H w μ2 H2 w2 where
 app:=by
  obtain ⟨ν,rfl⟩:=h.app
  obtain ⟨ν',rfl⟩:=k.app
  exact ⟨ν++ν',by simp⟩
 hr:=k.hr
 os:=k.os.trans h.os
 tape:=k.tape.trans h.tape
 output:=k.output.trans h.output
 size:=Nat.le_trans h.size k.size
 frame:=fun c hc ho=>(k.frame c (Nat.lt_of_lt_of_le hc h.size) fun o=>ho (h.sub c hc o)).trans (h.frame c hc ho)
 sub:=fun c hc o=>h.sub c hc (k.sub c (Nat.lt_of_lt_of_le hc h.size) o)
 low:=fun b hb hl=>(k.low b hb (Nat.lt_of_lt_of_le hl h.more)).trans (h.low b hb hl)
 more:=Nat.le_trans h.more k.more
theorem HR.get {μ:Mu} {H:Heap} {w:World} {b:Nat} {loc:Loc} (h:HR w0 ro μ H w) (hm:μ[b]?=some (some loc)):b < H.length:=by
 rw [← h.len]
 rcases Nat.lt_or_ge b μ.length with q | q
 · exact q
 · rw [List.getElem?_eq_none q] at hm;cases hm
theorem BR.ext {μ:Mu} {μ':Mu} {loc:Loc} {w:World} {blk:Option ABlk} (E:Ext μ μ') (h:BR w0 ro μ loc w blk):BR w0 ro μ' loc w blk:=by
 match blk,h with
 | some (.cells g cs),⟨h0,arr,t,h1,h2,h3,h4⟩=>exact ⟨h0,arr,t,h1,h2,h3,fun j v e=>let ⟨o,v',a,r⟩:=h4 j v e;⟨o,v',a,r.ext E⟩⟩
 | some (.map es c),⟨h0,ces,h1,h2,h3⟩=>exact ⟨h0,ces,h1,h2,fun i k v b e=>let ⟨x,a,b,r,s⟩:=h3 i k v b e;⟨x,a,b,r.ext E,s.ext E⟩⟩
 | some (.iter m s l k),⟨h0,hk,m',h1,h2⟩=>exact ⟨h0,hk,m',h1,by
  cases m <;> cases m' <;> first | exact h2 | (obtain ⟨q,h3,h4⟩:=h2;exact ⟨q,E _ _ h3,h4⟩)⟩
 | some .dead,_=>trivial
theorem BR.world {μ:Mu} {loc:Loc} {w:World} {w':World} {blk:Option ABlk} (e:w'.heap[loc.c]?=w.heap[loc.c]?) (h:BR w0 ro μ loc w blk):BR w0 ro μ loc w' blk:=by
 match blk,h with
 | some (.cells g cs),⟨h0,arr,t,h1,h2⟩=>exact ⟨h0,arr,t,e.trans h1,h2⟩
 | some (.map es c),⟨h0,ces,h1,h2⟩=>exact ⟨h0,ces,e.trans h1,h2⟩
 | some (.iter m s l k),⟨h0,hk,m',h1,h2⟩=>exact ⟨h0,hk,m',e.trans h1,h2⟩
 | some .dead,_=>trivial
theorem BR.lt {μ:Mu} {loc:Loc} {w:World} {H:Heap} {b:Nat} (ha:alive H b) (h:BR w0 ro μ loc w H[b]?):loc.c < w.heap.size:=by
 have:∀ o,w.heap[loc.c]?=some o→loc.c < w.heap.size:=fun o e=>(Array.getElem?_eq_some_iff.1 e).1
 rcases ha with ⟨g,cs,e⟩ | ⟨es,c,e⟩ | ⟨m,s,l,k,e⟩
 · rw [e] at h;obtain ⟨_,arr,t,h1,_⟩:=h;exact this _ h1
 · rw [e] at h;obtain ⟨_,ces,h1,_⟩:=h;exact this _ h1
 · rw [e] at h;obtain ⟨_,_,m',h1,_⟩:=h;exact this _ h1
theorem HR.later {μ:Mu} {H:Heap} {w:World} {w':World} (h:HR w0 ro μ H w) (hs:w.heap.size≤w'.heap.size) (hk:∀ c,c < w.heap.size→w'.heap[c]?=w.heap[c]?):HR w0 ro μ H w' where
 len:=h.len
 grow:=Nat.le_trans h.grow hs
 old:=fun c hc=>⟨(h.old c hc).1,(hk c (Nat.lt_of_lt_of_le (h.old c hc).1 h.grow)).trans (h.old c hc).2⟩
 blk:=fun b loc hm=>by
  have hb:=h.blk b loc hm
  cases e:H[b]? with
  | none=>rw [e] at hb;exact hb.elim
  | some x =>
   rw [e] at hb
   cases x with
   | dead=>trivial
   | cells g cs=>exact BR.world (hk _ (BR.lt (H:=H) (b:=b) (.inl ⟨g,cs,e⟩) (by rw [e];exact hb))) hb
   | map es c=>exact BR.world (hk _ (BR.lt (H:=H) (b:=b) (.inr (.inl ⟨es,c,e⟩)) (by rw [e];exact hb))) hb
   | iter m s l k=>exact BR.world (hk _ (BR.lt (H:=H) (b:=b) (.inr (.inr ⟨m,s,l,k,e⟩)) (by rw [e];exact hb))) hb
 inj:=h.inj
theorem getElem?_snoc {α:Type} (l:List α) (x:α) (i:Nat):(l++[x])[i]?=if i=l.length then some x else l[i]?:=by
 rcases Nat.lt_trichotomy i l.length with h | h | h
 · rw [if_neg (by omega),List.getElem?_append_left h]
 · subst h;simp
 · rw [if_neg (by omega),List.getElem?_eq_none (by simp;omega),List.getElem?_eq_none (by omega)]
theorem HR.new {μ:Mu} {H:Heap} {w:World} {w1:World} {loc:Loc} {blk:ABlk} (h:HR w0 ro μ H w) (hs:w.heap.size≤w1.heap.size) (hk:∀ c,c < w.heap.size→w1.heap[c]?=w.heap[c]?)
 (hc:w.heap.size≤loc.c) (hb:BR w0 ro (μ++[some loc]) loc w1 (some blk)):HR w0 ro (μ++[some loc]) (H++[blk]) w1:=by
 have hl:=h.later hs hk
 refine ⟨by simp [h.len],hl.grow,hl.old,fun b l hm=>?_,fun b b' l l' ha ha' hm hm' e=>?_⟩
 · rw [getElem?_snoc] at hm ⊢
   rw [← h.len]
   split at hm
   · rename_i q;rw [if_pos q];cases hm;exact hb
   · rename_i q;rw [if_neg q];exact (hl.blk b l hm).ext (Ext.app _ _)
 · have lt:∀ b l,alive (H++[blk]) b→b ≠ μ.length→μ[b]?=some (some l)→l.c < w.heap.size:=fun b l ha q hm=>by
    have ha':alive H b:=by
     unfold alive at ha ⊢
     rw [getElem?_snoc,if_neg (by rw [← h.len];exact q)] at ha
     exact ha
    exact BR.lt ha' (h.blk b l hm)
   have back:∀ b,alive (H++[blk]) b→b ≠ μ.length→alive H b:=fun b ha q=>by
    unfold alive at ha ⊢
    rw [getElem?_snoc,if_neg (by rw [← h.len];exact q)] at ha
    exact ha
   rw [getElem?_snoc] at hm hm'
   split at hm <;> split at hm'
   · omega
   · rename_i q q';cases hm;have:=lt b' l' ha' q' hm';omega
   · rename_i q q';cases hm';have:=lt b l ha q hm;omega
   · rename_i q q';exact h.inj b b' l l' (back b ha q) (back b' ha' q') hm hm' e
theorem Post.new {lim:Nat} {μ:Mu} {H:Heap} {w:World} {w1:World} {loc:Loc} {blk:ABlk} (h:HR w0 ro μ H w) (hs:w.heap.size≤w1.heap.size) (hk:∀ c,c < w.heap.size→w1.heap[c]?=w.heap[c]?)
 (hos:w1.os=w.os) (htape:w1.tape=w.tape) (hout:w1.output=w.output)
 (hc:w.heap.size≤loc.c) (hb:BR w0 ro (μ++[some loc]) loc w1 (some blk)):Post w0 ro lim μ H w (μ++[some loc]) (H++[blk]) w1 where
 app:=⟨_,rfl⟩
 hr:=h.new hs hk hc hb
 os:=hos
 tape:=htape
 output:=hout
 size:=hs
 frame:=fun c hc _=>hk c hc
 sub:=fun c hlt ⟨b,l,hb,ha,hm,e⟩=>by
  rw [getElem?_snoc] at hm
  split at hm
  · cases hm;omega
  · rename_i q
    refine ⟨b,l,hb,?_,hm,e⟩
    unfold alive at ha ⊢
    rw [getElem?_snoc,if_neg (by rw [← h.len];exact q)] at ha
    exact ha
 low:=fun b _ hl=>by rw [List.getElem?_append_left hl]
 more:=by simp
theorem getElem?_set' {α:Type} (l:List α) (i j:Nat) (x:α) (hi:i < l.length):(l.set i x)[j]?=if j=i then some x else l[j]?:=by
 rw [List.getElem?_set]
 by_cases e:i=j
 · subst e;simp [hi]
 · rw [if_neg e,if_neg (Ne.symm e)]
theorem HR.turn {μ:Mu} {H:Heap} {w:World} {w1:World} {b:Nat} {loc:Loc} {blk:ABlk} (h:HR w0 ro μ H w) (hm:μ[b]?=some (some loc)) (ha:alive H b) (hs:w1.heap.size=w.heap.size)
 (hk:∀ c,c ≠ loc.c→w1.heap[c]?=w.heap[c]?) (hb:BR w0 ro μ loc w1 (some blk)):HR w0 ro μ (H.set b blk) w1:=by
 have hro:∀ c,ro c→c ≠ loc.c:=fun c hc e=>by
  have:=h.blk b loc hm
  rcases ha with ⟨g,cs,q⟩ | ⟨es,k,q⟩ | ⟨m,s,l,k,q⟩ <;> rw [q] at this <;> exact this.1 (e ▸ hc)
 have hbl:=h.get hm
 refine ⟨by simp [h.len],by rw [hs];exact h.grow,fun c hc=>⟨(h.old c hc).1,(hk c (hro c hc)).trans (h.old c hc).2⟩,fun b' l hm'=>?_,fun b1 b2 l1 l2 a1 a2 m1 m2 e=>?_⟩
 · rw [getElem?_set' _ _ _ _ hbl]
   split
   · rename_i q;subst q;rw [hm] at hm';cases hm';exact hb
   · rename_i q
     have hb':=h.blk b' l hm'
     cases e:H[b']? with
     | none=>rw [e] at hb';exact hb'.elim
     | some x =>
      rw [e] at hb'
      cases x with
      | dead=>trivial
      | cells g cs=>exact BR.world (hk _ fun e'=>q (h.inj b' b l loc (.inl ⟨g,cs,e⟩) ha hm' hm e')) hb'
      | map es c=>exact BR.world (hk _ fun e'=>q (h.inj b' b l loc (.inr (.inl ⟨es,c,e⟩)) ha hm' hm e')) hb'
      | iter m s l2 k=>exact BR.world (hk _ fun e'=>q (h.inj b' b l loc (.inr (.inr ⟨m,s,l2,k,e⟩)) ha hm' hm e')) hb'
 · have back:∀ b',alive (H.set b blk) b'→alive H b':=fun b' a=>by
    by_cases q:b'=b
    · subst q;exact ha
    · unfold alive at a ⊢
      rw [getElem?_set' _ _ _ _ hbl,if_neg q] at a
      exact a
   exact h.inj b1 b2 l1 l2 (back _ a1) (back _ a2) m1 m2 e
theorem Post.turn {lim:Nat} {μ:Mu} {H:Heap} {w:World} {w1:World} {b:Nat} {loc:Loc} {blk:ABlk} (h:HR w0 ro μ H w) (hlim:lim≤b) (hm:μ[b]?=some (some loc)) (ha:alive H b) (hs:w1.heap.size=w.heap.size)
 (hk:∀ c,c ≠ loc.c→w1.heap[c]?=w.heap[c]?) (hos:w1.os=w.os) (htape:w1.tape=w.tape) (hout:w1.output=w.output)
 (hb:BR w0 ro μ loc w1 (some blk)):Post w0 ro lim μ H w μ (H.set b blk) w1 where
 app:=⟨[],by simp⟩
 hr:=h.turn hm ha hs hk hb
 os:=hos
 tape:=htape
 output:=hout
 size:=by omega
 frame:=fun c _ ho=>hk c fun e=>ho ⟨b,loc,hlim,ha,hm,e.symm⟩
 sub:=fun c _ ⟨b',l,q,a,m,e⟩=>⟨b',l,q,by
  by_cases qq:b'=b
  · subst qq;exact ha
  · unfold alive at a ⊢
    rw [getElem?_set' _ _ _ _ (h.get hm),if_neg qq] at a
    exact a,m,e⟩
 low:=fun b' q _=>by rw [getElem?_set' _ _ _ _ (h.get hm),if_neg (by omega)]
 more:=by simp
end
end Go.Proofs.YtgbnbgkldeifkaaGreatA
/- The small machine's operations come to what the program's come to (loads, stores, new variables, fields, elements). No statement about the program is proved here. -/
namespace Go.Proofs.YtgbnbgkldeifkaaGreatA
open Go Go.RowKit
set_option linter.unusedVariables false
section
variable {w0:World} {ro:Nat→Prop} {P:Program} {μ:Mu} {H:Heap} {w:World} {T:Tmps} {lim:Nat}
def ofConst:Value→Option AV
 | .bool b=>some (.bool b)
 | .int k n=>some (.int k n)
 | .string s=>some (.str s.data.toList)
 | .pointer none=>some (.ptr none)
 | .slice _ 0 0=>some .nilsl
 | .map none=>some (.mapv none)
 | .nilFunc=>some .nilfn
 | .nilIface=>some .niliface
 | _=>none
theorem ofConst_VR {v:Value} {a:AV} (h:ofConst v=some a):VR w0 ro μ a v:=by
 unfold ofConst at h
 split at h <;> cases h <;> constructor
 rfl
theorem ofConst_one {v:Value} {a:AV} (h:ofConst v=some a):a.one=true:=by
 unfold ofConst at h
 split at h <;> cases h <;> rfl
def ofConsts:List Value→Option (List AV)
 | []=>some []
 | v :: vs=>(ofConst v).bind fun a=>(ofConsts vs).map (a :: ·)
theorem ofConsts_VRs:∀ {vs:List Value} {as:List AV},ofConsts vs=some as→VRs w0 ro μ as vs∧∀ a ∈ as,a.one=true
 | [],as,h=>by simp [ofConsts] at h;subst h;exact ⟨.nil,by simp⟩
 | v :: vs,as,h=>by
  simp only [ofConsts,Option.bind_eq_some_iff,Option.map_eq_some_iff] at h
  obtain ⟨a,h1,as',h2,rfl⟩:=h
  have ih:=ofConsts_VRs h2
  exact ⟨.cons (ofConst_VR h1) ih.1,by simp;exact ⟨ofConst_one h1,ih.2⟩⟩
def ofConstA:Value→Option AV
 | .agg cs=>(ofConsts cs.toList).map .agg
 | v=>ofConst v
theorem ofConstA_VR {v:Value} {a:AV} (h:ofConstA v=some a):VR w0 ro μ a v:=by
 unfold ofConstA at h
 split at h
 · rename_i cs
   rw [Option.map_eq_some_iff] at h
   obtain ⟨as,h1,rfl⟩:=h
   have:=VR.agg (ofConsts_VRs (w0:=w0) (ro:=ro) (μ:=μ) h1).1
   simpa using this
 · exact ofConst_VR h
def lowX:Operand→Option AX
 | .tmp t=>some (.tmp t)
 | .const v=>(ofConstA v).map .cst
 | .func f=>some (.cst (.fn (.func f) [] []))
 | .global _=>none
def AR (w0:World) (ro:Nat→Prop) (μ:Mu) (T:Tmps) (a:Act):Prop:=a.defers=[]∧VRs w0 ro μ T a.tmps.toList
theorem AR.ext {μ':Mu} {a:Act} (E:Ext μ μ') (h:AR w0 ro μ T a):AR w0 ro μ' T a:=⟨h.1,h.2.ext E⟩
theorem AR.put {a:Act} {v:AV} {v':Value} (h:AR w0 ro μ T a) (dst:Option Nat) (k:VR w0 ro μ v v'):AR w0 ro μ (putT T dst v) (a.put dst v'):=by
 cases dst with
 | none=>exact h
 | some d =>
  refine ⟨h.1,?_⟩
  have:=h.2.set d k
  simpa [putT,Act.put,Array.toList_setIfInBounds] using this
theorem getD_VR {T:Tmps} {a:Act} (h:AR w0 ro μ T a) (t:Nat):VR w0 ro μ (T.getD t .undef) (a.tmps.getD t Go.undef):=by
 cases e:T[t]? with
 | none=>simp [List.getD,e];exact .undef _
 | some v =>
  obtain ⟨v',h1,h2⟩:=h.2.get e
  simp only [List.getD,e,Option.getD_some]
  have:a.tmps.getD t Go.undef=v':=by
   rw [Array.getElem?_toList] at h1
   rw [Array.getD_eq_getD_getElem?,h1];rfl
  rw [this];exact h2
theorem lowX_VR {x:Operand} {ax:AX} {a:Act} (h:lowX x=some ax) (har:AR w0 ro μ T a):VR w0 ro μ (ax.ev T) (a.eval x):=by
 cases x with
 | tmp t=>simp [lowX] at h;subst h;exact getD_VR har t
 | const v =>
  simp only [lowX,Option.map_eq_some_iff] at h
  obtain ⟨c,h1,rfl⟩:=h
  exact ofConstA_VR h1
 | global g=>simp [lowX] at h
 | func f=>simp [lowX] at h;subst h;exact .fn (as':=[]) (bs':=[]) .nil .nil
def lowXs:List Operand→Option (List AX)
 | []=>some []
 | x :: xs=>(lowX x).bind fun a=>(lowXs xs).map (a :: ·)
theorem lowXs_VRs {a:Act} (har:AR w0 ro μ T a):∀ {xs:List Operand} {as:List AX},lowXs xs=some as→VRs w0 ro μ (as.map (·.ev T)) (xs.map a.eval)
 | [],as,h=>by simp [lowXs] at h;subst h;exact .nil
 | x :: xs,as,h=>by
  simp only [lowXs,Option.bind_eq_some_iff,Option.map_eq_some_iff] at h
  obtain ⟨a1,h1,as',h2,rfl⟩:=h
  exact .cons (lowX_VR h1 har) (lowXs_VRs har h2)
def aggT (P:Program) (t:TypeId):Option Bool :=
 match P.underlying t with
 | some (.struct _) | some (.array _ _)=>some true
 | some _=>some false
 | none=>none
def sizeT (P:Program) (t:TypeId):Option Nat:=(P.info? t).map (·.size)
def shp (P:Program) (t:TypeId):Option (Option Nat) :=
 match aggT P t,sizeT P t with
 | some true,some n=>some (some n)
 | some false,some 1=>some none
 | _,_=>none
theorem run_sizeT {t:TypeId} {n:Nat} (h:sizeT P t=some n) (w:World):(sizeOf t).run P w=.ok n w:=by
 unfold sizeT at h
 rw [Option.map_eq_some_iff] at h
 obtain ⟨i,h1,rfl⟩:=h
 simp [sizeOf,typeInfo,h1]
theorem run_aggT {t:TypeId} {b:Bool} (h:aggT P t=some b) (w:World):(isAgg t).run P w=.ok b w:=by
 unfold aggT at h
 unfold isAgg underlying
 cases e:P.underlying t with
 | none=>rw [e] at h;cases h
 | some d=>rw [e] at h;cases d <;> cases h <;> simp [e]
theorem cut_eq {cs c:List AV} {o n:Nat} (h:cut cs o n=some c):o + n≤cs.length∧c=(cs.drop o).take n:=by
 unfold cut at h
 split at h
 · rename_i q;cases h;exact ⟨q,rfl⟩
 · cases h
theorem cut_len {cs c:List AV} {o n:Nat} (h:cut cs o n=some c):c.length=n:=by
 obtain ⟨h1,rfl⟩:=cut_eq h
 simp;omega
theorem cut_get {cs c:List AV} {o n j:Nat} {v:AV} (h:cut cs o n=some c) (k:c[j]?=some v):cs[o + j]?=some v:=by
 obtain ⟨h1,rfl⟩:=cut_eq h
 rw [List.getElem?_take] at k
 split at k
 · rw [List.getElem?_drop] at k;exact k
 · cases k
def Lie (w0:World) (ro:Nat→Prop) (μ:Mu) (w:World) (a:Addr) (cs:List AV):Prop:=∃ vs,VRs w0 ro μ cs vs∧∀ (j:Nat) (v:Value),vs[j]?=some v→w.cell? (a.add j)=some v
theorem add_at (c o j:Nat):(⟨c,o,none⟩:Addr).add j=⟨c,o + j,none⟩:=by
 unfold Addr.add
 split
 · subst_vars;rfl
 · rfl
theorem lie_of {a:Addr}:∀ {cs:List AV},(∀ (j:Nat) (v:AV),cs[j]?=some v→∃ v',w.cell? (a.add j)=some v'∧VR w0 ro μ v v')→Lie w0 ro μ w a cs:=by
 intro cs h
 have hex:∀ (l:List AV) (k:Nat),(∀ (j:Nat) (v:AV),l[j]?=some v→∃ v',w.cell? (a.add (k + j))=some v'∧VR w0 ro μ v v')→∃ vs,VRs w0 ro μ l vs∧∀ (j:Nat) (v:Value),vs[j]?=some v→w.cell? (a.add (k + j))=some v:=by
  intro l
  induction l with
  | nil=>exact fun k _=>⟨[],.nil,fun j v e=>by simp at e⟩
  | cons x l ih =>
   intro k hk
   obtain ⟨x',hx,rx⟩:=hk 0 x rfl
   obtain ⟨vs,r,q⟩:=ih (k + 1) fun j v e=>by
    have:=hk (j + 1) v (by simpa using e)
    rwa [show k + (j + 1)=k + 1 + j from by omega] at this
   refine ⟨x' :: vs,.cons rx r,fun j v e=>?_⟩
   cases j with
   | zero=>simp at e;subst e;exact hx
   | succ j =>
    have:=q j v (by simpa using e)
    rwa [show k + 1 + j=k + (j + 1) from by omega] at this
 have:=hex cs 0 (by simpa using h)
 simpa [Lie] using this
theorem HR.lie {b o n:Nat} {cs c:List AV} {loc:Loc} (hr:HR w0 ro μ H w) (hm:μ[b]?=some (some loc)) (h1:H.cells? b=some cs) (h2:cut cs o n=some c):Lie w0 ro μ w ⟨loc.c,loc.k + o,none⟩ c:=by
 have hb:=hr.blk b loc hm
 unfold Heap.cells? at h1
 split at h1
 · rename_i g cs' e
   cases h1
   rw [e] at hb
   obtain ⟨_,arr,t,h3,h4,h5,h6⟩:=hb
   refine lie_of fun j v hj=>?_
   obtain ⟨_,v',h7,h8⟩:=h6 (o + j) v (cut_get h2 hj)
   refine ⟨v',?_,h8⟩
   rw [add_at]
   simp [World.cell?,h3]
   rw [← h7];congr 1;omega
 · cases h1
theorem RD.lie {cs c:List AV} {d off o n:Nat} (hr:HR w0 ro μ H w) (h0:ro d) (h:RD w0 ro cs d off) (h2:cut cs o n=some c):Lie w0 ro μ w ⟨d,off + o,none⟩ c:=by
 refine lie_of fun j v hj=>?_
 obtain ⟨v',h7,h8⟩:=h.get (cut_get h2 hj)
 refine ⟨v',?_,h8.toVR⟩
 rw [add_at,← h7,cell_stays (hr.old d h0).2]
 congr 2
 omega
theorem shape_VR {n:Option Nat} {cs:List AV} {vs:List Value} {r:AV} (h:shapeOf n cs=some r) (k:VRs w0 ro μ cs vs) :
 match n with | some _=>VR w0 ro μ r (.agg vs.toArray) | none=>∃ v,vs=[v]∧VR w0 ro μ r v:=by
 cases n with
 | some n=>simp [shapeOf] at h;subst h;exact .agg k
 | none =>
  simp only [shapeOf] at h
  split at h
  · cases h;cases k with | cons a t=>cases t;exact ⟨_,rfl,a⟩
  · cases h
theorem sim_loadVar {t:TypeId} {n:Option Nat} {a:Addr} {c:List AV} {r:AV} (hs:shp P t=some n) (hl:Lie w0 ro μ w a c) (hn:c.length=n.getD 1) (h:shapeOf n c=some r) :
 ∃ v',(loadVar t a).run P w=.ok v' w∧VR w0 ro μ r v':=by
 obtain ⟨vs,hv,hc⟩:=hl
 have hsh:=shape_VR h hv
 unfold shp at hs
 split at hs
 · rename_i m e1 e2
   cases hs
   have hll:=run_loadCells_list (P:=P) w a vs hc
   rw [← hv.len,hn] at hll
   simp only [Option.getD_some] at hll
   refine ⟨_,?_,hsh⟩
   simp [loadVar,run_aggT e1,run_sizeT e2,hll]
 · rename_i e1 e2
   cases hs
   obtain ⟨v,rfl,hv'⟩:=hsh
   refine ⟨v,?_,hv'⟩
   have:=hc 0 v rfl
   simp [Addr.add] at this
   simp [loadVar,run_aggT e1,this]
 · cases hs
theorem sim_load {t:TypeId} {n:Option Nat} {av r:AV} {v:Value} (hr:HR w0 ro μ H w) (hs:shp P t=some n) (hv:VR w0 ro μ av v) (h:loadAt H n av=some r) :
 ∃ v',(Instr.loadAt t v).run P w=.ok v' w∧VR w0 ro μ r v':=by
 unfold loadAt at h
 split at h
 · rename_i b o
   rw [Option.bind_eq_some_iff] at h
   obtain ⟨cs,h1,h2⟩:=h
   rw [Option.bind_eq_some_iff] at h2
   obtain ⟨c,h2,h3⟩:=h2
   cases hv with
   | ptr hm =>
    obtain ⟨v',e,k⟩:=sim_loadVar hs (hr.lie hm h1 h2) (cut_len h2) h3
    exact ⟨v',by simp [Instr.loadAt,Instr.sureAddr,e],k⟩
 · rename_i cs
   rw [Option.bind_eq_some_iff] at h
   obtain ⟨c,h2,h3⟩:=h
   cases hv with
   | tp h0 hrd =>
    have:=hrd.lie hr h0 h2
    simp only [Nat.add_zero] at this
    obtain ⟨v',e,k⟩:=sim_loadVar hs this (cut_len h2) h3
    exact ⟨v',by simp [Instr.loadAt,Instr.sureAddr,e],k⟩
 · cases h
theorem setFrom_len:∀ (vs cs:List AV) (o:Nat),(setFrom cs o vs).length=cs.length
 | [],cs,o=>rfl
 | v :: vs,cs,o=>by rw [setFrom,setFrom_len vs];simp
theorem setFrom_get:∀ (vs cs:List AV) (o j:Nat),o + vs.length≤cs.length→(setFrom cs o vs)[j]?=if o≤j∧j < o + vs.length then vs[j - o]? else cs[j]?
 | [],cs,o,j,_=>by
  rw [if_neg (by simp only [List.length_nil];omega)];rfl
 | v :: vs,cs,o,j,h=>by
  rw [setFrom,setFrom_get vs _ (o + 1) j (by simp at h ⊢;omega),List.getElem?_set]
  simp only [List.length_cons] at h ⊢
  by_cases q:o≤j∧j < o + (vs.length + 1)
  · rw [if_pos q]
    by_cases q2:o=j
    · subst q2
      rw [if_neg (by omega),if_pos rfl,if_pos (by omega)]
      simp
    · rw [if_pos (by omega),show j - o=(j - (o + 1)) + 1 from by omega]
      simp
  · rw [if_neg q,if_neg (by omega),if_neg (by omega)]
theorem row_get (arr:List Value) (o:Nat) (vs:List Value) (h:o + vs.length≤arr.length) (j:Nat) :
 (arr.take o++vs++arr.drop (o + vs.length))[j]?=if o≤j∧j < o + vs.length then vs[j - o]? else arr[j]?:=by
 by_cases q1:j < o
 · rw [if_neg (by omega),List.append_assoc,List.getElem?_append_left (by simp;omega),List.getElem?_take,if_pos q1]
 · by_cases q2:j < o + vs.length
   · rw [if_pos ⟨by omega,q2⟩,List.append_assoc,List.getElem?_append_right (by simp;omega),List.getElem?_append_left (by simp;omega)]
     congr 1
     simp;omega
   · rw [if_neg (by omega),List.getElem?_append_right (by simp;omega),List.getElem?_drop]
     congr 1
     simp;omega
theorem oneCell_of {vs:List AV} {vs':List Value} (h:VRs w0 ro μ vs vs') (k:∀ v ∈ vs,v.one=true):∀ v ∈ vs',v.oneCell'=true:=by
 intro v hv
 obtain ⟨i,hi,rfl⟩:=List.mem_iff_getElem.1 hv
 have hl:=h.len
 have e:vs[i]?=some (vs[i]'(by omega)):=List.getElem?_eq_getElem _
 obtain ⟨v',h1,h2⟩:=h.get e
 rw [List.getElem?_eq_getElem hi] at h1
 cases h1
 have:=h2.one (k _ (List.getElem_mem _))
 revert this
 cases vs'[i] <;> simp [Value.one,Value.oneCell']
theorem sim_storeCells {b o:Nat} {g:Bool} {cs vs:List AV} {vs':List Value} {loc:Loc} (hr:HR w0 ro μ H w) (hlim:lim≤b) (hm:μ[b]?=some (some loc)) (hb:H[b]?=some (.cells g cs))
 (hv:VRs w0 ro μ vs vs') (hone:∀ v ∈ vs,v.one=true) (hfit:o + vs.length≤cs.length) :
 ∃ w',(storeCells ⟨loc.c,loc.k + o,none⟩ vs' 0).run P w=.ok () w'∧Post w0 ro lim μ H w μ (H.set b (.cells g (setFrom cs o vs))) w':=by
 have hbr:=hr.blk b loc hm
 rw [hb] at hbr
 obtain ⟨hnro,arr,t,h3,h4,h5,h6⟩:=hbr
 have hlen:=hv.len
 have hrun:=run_storeCells_at (P:=P) loc.c (loc.k + o) t vs' 0 arr w h3 (by omega) (oneCell_of hv hone)
 refine ⟨_,hrun,?_⟩
 simp only [Nat.add_zero]
 have hh:=setRow_heap w loc.c arr (arr.toList.take (loc.k + o)++vs'++arr.toList.drop (loc.k + o + vs'.length)).toArray t (0,0) h3
 refine Post.turn hr hlim hm (.inl ⟨g,cs,hb⟩) ?_ ?_ rfl rfl rfl ?_
 · simp [World.setRow]
 · intro c hc
   simp only [World.setRow,Array.getElem?_modify]
   rw [if_neg (fun e=>hc e.symm)]
 · refine ⟨hnro,_,t,hh,?_,?_,?_⟩
   · simp;omega
   · rw [setFrom_len];simp;omega
   · intro j v hj
     rw [setFrom_get _ _ _ _ hfit] at hj
     rw [List.getElem?_toArray,row_get _ _ _ (by simp;omega)]
     split at hj
     · rename_i q
       rw [if_pos (by omega)]
       obtain ⟨v',k1,k2⟩:=hv.get hj
       refine ⟨hone v (List.mem_of_getElem? hj),v',?_,k2⟩
       rw [← k1];congr 1;omega
     · rename_i q
       rw [if_neg (by omega)]
       obtain ⟨k0,v',k1,k2⟩:=h6 j v hj
       exact ⟨k0,v',by rw [Array.getElem?_toList];exact k1,k2⟩
theorem sim_store {t:TypeId} {n:Nat} {a v:AV} {a' v':Value} {H':Heap} (hr:HR w0 ro μ H w) (hs:sizeT P t=some n) (ha:VR w0 ro μ a a') (hv:VR w0 ro μ v v') (h:storeAt lim H n a v=some H') :
 ∃ w',(Instr.storeAt t a' v').run P w=.ok () w'∧Post w0 ro lim μ H w μ H' w':=by
 unfold storeAt at h
 split at h
 · rename_i b o
   split at h
   · rename_i hlim
     split at h
     · rename_i g cs e
       split at h
       · rename_i q
         cases h
         cases ha with
         | ptr hm =>
          have hc:=hv.cells q.2.2
          obtain ⟨w',h1,h2⟩:=sim_storeCells (P:=P) hr hlim hm e hc (fun x hx=>List.all_eq_true.1 q.2.2 x hx) (by rw [q.1];exact q.2.1)
          refine ⟨w',?_,h2⟩
          have hsz:v'.cells.size=n:=by
           have:=hc.len
           simp only [Array.length_toList] at this
           exact this.symm.trans q.1
          simp [Instr.storeAt,Instr.sureAddr,storeVar,run_sizeT hs,hsz,h1]
       · cases h
     · cases h
   · cases h
 · cases h
theorem sim_newRow {vs:List AV} {arr:Array Value} {t:TypeId} {g:Bool} (lim:Nat) (hr:HR w0 ro μ H w) (hv:VRs w0 ro μ vs (arr.toList.take vs.length)) (hl:vs.length≤arr.size) (hone:∀ v ∈ vs,v.one=true) :
 Post w0 ro lim μ H w (μ++[some ⟨w.heap.size,0,arr.size⟩]) (H++[.cells g vs]) (w.alloc (.cells arr t (0,0))):=by
 refine Post.new hr (by simp) (fun c hc=>Below.heap_alloc _ _ _ hc) rfl rfl rfl (Nat.le_refl _) ⟨fun h=>?_,arr,t,?_,rfl,by simpa using hl,fun j v hj=>⟨hone v (List.mem_of_getElem? hj),?_⟩⟩
 · have:=(hr.old _ h).1;have:=hr.grow;simp at *;omega
 · show (w.heap.push _)[w.heap.size]?=_
   simp
 · obtain ⟨v',h1,h2⟩:=hv.get hj
   refine ⟨v',?_,h2.ext (Ext.app _ _)⟩
   rw [List.getElem?_take] at h1
   split at h1
   · simpa using h1
   · cases h1
theorem new_VR {arr:Array Value} (hr:HR w0 ro μ H w):VR w0 ro (μ++[some ⟨w.heap.size,0,arr.size⟩]) (.ptr (some (H.length,0))) (.pointer (some ⟨w.heap.size,0,none⟩)):=by
 have:=VR.ptr (w0:=w0) (ro:=ro) (μ:=μ++[some (⟨w.heap.size,0,arr.size⟩:Loc)]) (b:=H.length) (o:=0) (loc:=⟨w.heap.size,0,arr.size⟩) (by rw [← hr.len];simp)
 simpa using this
theorem zero_run {t:TypeId} {z:Value} (h:(P.info? t).bind (·.zero)=some z) (w:World):(zeroValue t).run P w=.ok z w:=by
 rw [Option.bind_eq_some_iff] at h
 obtain ⟨i,h1,h2⟩:=h
 simp [zeroValue,typeInfo,h1,h2]
end
end Go.Proofs.YtgbnbgkldeifkaaGreatA
/- The small machine's == on rows of cells comes to what the program's comes to. No statement about the program is proved here. -/
namespace Go.Proofs.YtgbnbgkldeifkaaGreatA
open Go Go.RowKit
set_option linter.unusedVariables false
def kindsL (f:TypeId→Option (List CK)):List Field→Nat→Option (List CK)
 | [],_=>some []
 | x :: fs, off => if x.name ≠ "_" ∧ x.offset = off then (f x.type).bind fun ks => (kindsL f fs (off + ks.length)).map (ks ++ ·) else none
def kindsT (P:Program):Nat→TypeId→Option (List CK)
 | 0,_=>none
 | d + 1,t =>
  let r:=match P.underlying t with
   | some .bool=>some [CK.b]
   | some (.int _)=>some [CK.i]
   | some .string=>some [CK.s]
   | some (.array n e)=>(kindsT P d e).map fun ks=>(List.replicate n ks).flatten
   | some (.struct fs)=>if P.stoodInHeld t=false then kindsL (kindsT P d) fs.toList 0 else none
   | _=>none
  r.bind fun ks=>if sizeT P t=some ks.length then some ks else none
section
variable {w0:World} {ro:Nat→Prop} {P:Program} {μ:Mu} {w:World}
theorem eqRow_len:∀ {ks:List CK} {xs ys:List AV} {r:Bool},eqRow ks xs ys=some r→xs.length=ks.length∧ys.length=ks.length
 | [],[],[],_,_=>⟨rfl,rfl⟩
 | k :: ks,x :: xs,y :: ys,r,h=>by
  simp only [eqRow,Option.bind_eq_some_iff] at h
  obtain ⟨b,h1,h2⟩:=h
  cases b with
  | true=>simp at h2;have:=eqRow_len h2;simp;exact this
  | false =>
   simp only [Bool.false_eq_true,if_false] at h2
   split at h2
   · rename_i q;simp;exact q
   · cases h2
 | [],_ :: _,_,_,h=>by simp [eqRow] at h
 | [],[],_ :: _,_,h=>by simp [eqRow] at h
 | _ :: _,[],_,_,h=>by simp [eqRow] at h
 | _ :: _,_ :: _,[],_,h=>by simp [eqRow] at h
theorem eqRow_app:∀ {k1 k2:List CK} {xs ys:List AV} {r:Bool},eqRow (k1++k2) xs ys=some r →
 ∃ b,eqRow k1 (xs.take k1.length) (ys.take k1.length)=some b∧(b=false→r=false)∧(b=true→eqRow k2 (xs.drop k1.length) (ys.drop k1.length)=some r)
 | [],k2,xs,ys,r,h=>⟨true,by simp [eqRow],by simp,fun _=>by simpa using h⟩
 | k :: k1,k2,[],ys,r,h=>by simp [eqRow] at h
 | k :: k1,k2,x :: xs,[],r,h=>by simp [eqRow] at h
 | k :: k1,k2,x :: xs,y :: ys,r,h=>by
  simp only [List.cons_append,eqRow,Option.bind_eq_some_iff] at h
  obtain ⟨b,h1,h2⟩:=h
  cases b with
  | true =>
   simp only [if_true] at h2
   obtain ⟨b',g1,g2,g3⟩:=eqRow_app h2
   exact ⟨b',by simp [eqRow,h1,g1],g2,by simpa using g3⟩
  | false =>
   simp only [Bool.false_eq_true,if_false] at h2
   split at h2
   · rename_i q
     cases h2
     refine ⟨false,?_,by simp,by simp⟩
     have q1:(List.take k1.length xs).length=k1.length:=by have:=q.1;simp at this ⊢;omega
     have q2:(List.take k1.length ys).length=k1.length:=by have:=q.2;simp at this ⊢;omega
     simp [eqRow,h1]
     simp at q1 q2
     omega
   · cases h2
def partV (P:Program) (t:TypeId) (vs:List Value):Value :=
 match aggT P t with
 | some true=>.agg vs.toArray
 | _=>vs.headD Go.undef
theorem run_partV {t:TypeId} {n off:Nat} {b:Bool} {cs:Array Value} (hs:sizeT P t=some n) (ha:aggT P t=some b) (hb:b=false→n=1) (hfit:off + n≤cs.size) (w:World) :
 (part t cs off).run P w=.ok (partV P t ((cs.toList.drop off).take n)) w:=by
 unfold part partV
 cases b with
 | true =>
  simp only [Sem.run_bind,run_aggT ha,Result.andThen_ok,if_true,run_sizeT hs,Sem.run_pure,ha]
  congr 2
  apply Array.ext'
  simp
 | false =>
  have h1:=hb rfl
  subst h1
  have hlt:off < cs.size:=by omega
  simp only [Sem.run_bind,run_aggT ha,Result.andThen_ok,Bool.false_eq_true,if_false,ha,Array.getElem?_eq_getElem hlt,Sem.run_pure]
  congr 1
  rw [List.drop_eq_getElem_cons (by simpa using hlt)]
  simp
theorem kinds_agg {d:Nat} {t:TypeId} {ks:List CK} (h:kindsT P d t=some ks):sizeT P t=some ks.length∧∃ b,aggT P t=some b∧(b=false→ks.length=1):=by
 cases d with
 | zero=>simp [kindsT] at h
 | succ d =>
  simp only [kindsT,Option.bind_eq_some_iff] at h
  obtain ⟨ks',h1,h2⟩:=h
  split at h2
  · rename_i q
    cases h2
    refine ⟨q,?_⟩
    unfold aggT
    split at h1
    · rename_i e;rw [e];cases h1;exact ⟨false,rfl,fun _=>rfl⟩
    · rename_i e;rw [e];cases h1;exact ⟨false,rfl,fun _=>rfl⟩
    · rename_i e;rw [e];cases h1;exact ⟨false,rfl,fun _=>rfl⟩
    · rename_i e;rw [e];exact ⟨true,rfl,by simp⟩
    · rename_i e;rw [e];exact ⟨true,rfl,by simp⟩
    · cases h1
  · cases h2
theorem eqCell_bool {x y:AV} {r:Bool} (h:eqCell .b x y=some r):∃ a b,x=.bool a∧y=.bool b∧r=(a == b):=by
 cases x <;> cases y <;> simp [eqCell] at h
 exact ⟨_,_,rfl,rfl,h.symm⟩
theorem eqCell_int {x y:AV} {r:Bool} (h:eqCell .i x y=some r):∃ k a b,x=.int k a∧y=.int k b∧r=(a == b):=by
 cases x <;> cases y <;> simp [eqCell] at h
 obtain ⟨rfl,h⟩:=h
 exact ⟨_,_,_,rfl,rfl,h.symm⟩
theorem eqCell_str {x y:AV} {r:Bool} (h:eqCell .s x y=some r):∃ a b,x=.str a∧y=.str b∧r=(a == b):=by
 cases x <;> cases y <;> simp [eqCell] at h
 exact ⟨_,_,rfl,rfl,h.symm⟩
theorem eqRow_one {k:CK} {xs ys:List AV} {r:Bool} (h:eqRow [k] xs ys=some r):∃ x y,xs=[x]∧ys=[y]∧eqCell k x y=some r:=by
 have hl:=eqRow_len h
 match xs,ys,hl with
 | [x],[y],_ =>
  simp only [eqRow,Option.bind_eq_some_iff] at h
  obtain ⟨b,h1,h2⟩:=h
  refine ⟨x,y,rfl,rfl,?_⟩
  cases b <;> simp at h2 <;> subst h2 <;> exact h1
theorem run_eqKindsF (d:Nat) (IH:∀ (t:TypeId) (ks:List CK),kindsT P d t=some ks→∀ (e:Nat) (w:World) (xs ys:List AV) (xs' ys':List Value) (r:Bool),
 VRs w0 ro μ xs xs'→VRs w0 ro μ ys ys'→eqRow ks xs ys=some r→(Op.equalIn (e + d) t (partV P t xs') (partV P t ys')).run P w=.ok r w):∀ (fs:List Field) (off:Nat) (ks:List CK),kindsL (kindsT P d) fs off=some ks→∀ (e:Nat) (w:World) (xs ys:List AV) (xs' ys':List Value) (r:Bool),
 VRs w0 ro μ xs xs'→VRs w0 ro μ ys ys'→off + ks.length≤xs.length→off + ks.length≤ys.length→eqRow ks (xs.drop off) (ys.drop off)=some r→(Op.eqFields (e + d) xs'.toArray ys'.toArray fs).run P w=.ok r w
 | [],off,ks,h=>by
  intro e w xs ys xs' ys' r hx hy lx ly hr
  simp [kindsL] at h
  subst h
  have hl:=eqRow_len hr
  simp only [List.length_nil] at hl
  obtain ⟨ha,hb⟩:=hl
  rw [List.length_eq_zero_iff] at ha hb
  rw [ha,hb] at hr
  simp [eqRow] at hr
  subst hr
  simp [Op.eqFields]
 | f :: fs,off,ks,h=>by
  intro e w xs ys xs' ys' r hx hy lx ly hr
  simp only [kindsL] at h
  split at h
  · rename_i q
    obtain ⟨hn,rfl⟩:=q
    simp only [Option.bind_eq_some_iff,Option.map_eq_some_iff] at h
    obtain ⟨k1,h1,k2,h2,rfl⟩:=h
    obtain ⟨hs,b,hb,hb1⟩:=kinds_agg h1
    obtain ⟨b',g1,g2,g3⟩:=eqRow_app hr
    rw [List.length_append] at lx ly
    have hxl:=hx.len;have hyl:=hy.len
    have px:=run_partV (P:=P) hs hb hb1 (cs:=xs'.toArray) (off:=f.offset) (by simp only [List.size_toArray];omega) w
    have py:=run_partV (P:=P) hs hb hb1 (cs:=ys'.toArray) (off:=f.offset) (by simp only [List.size_toArray];omega) w
    have hq:=IH f.type k1 h1 e w _ _ _ _ b' ((hx.drop f.offset).take k1.length) ((hy.drop f.offset).take k1.length) g1
    simp only [Op.eqFields,if_pos hn,Sem.run_bind,px,py,hq,Result.andThen_ok]
    cases b' with
    | false=>simp [g2 rfl]
    | true =>
     simp only [Bool.not_true,Bool.false_eq_true,if_false]
     have g:=g3 rfl
     rw [List.drop_drop,List.drop_drop] at g
     exact run_eqKindsF d IH fs (f.offset + k1.length) k2 h2 e w xs ys xs' ys' r hx hy (by omega) (by omega) g
  · cases h
theorem run_eqKinds:∀ (d:Nat) (t:TypeId) (ks:List CK),kindsT P d t=some ks→∀ (e:Nat) (w:World) (xs ys:List AV) (xs' ys':List Value) (r:Bool),
 VRs w0 ro μ xs xs'→VRs w0 ro μ ys ys'→eqRow ks xs ys=some r→(Op.equalIn (e + d) t (partV P t xs') (partV P t ys')).run P w=.ok r w
 | 0,_,_,h=>by simp [kindsT] at h
 | d + 1, t,ks,h=>by
  intro e w xs ys xs' ys' r hx hy hr
  have hk:=h
  simp only [kindsT,Option.bind_eq_some_iff] at h
  obtain ⟨ks',h1,h2⟩:=h
  split at h2
  · rename_i q
    cases h2
    rw [← Nat.add_assoc]
    split at h1
    · rename_i u
      cases h1
      obtain ⟨x,y,rfl,rfl,hc⟩:=eqRow_one hr
      obtain ⟨a,b,rfl,rfl,rfl⟩:=eqCell_bool hc
      cases hx with | cons p p'=>cases p;cases p';cases hy with | cons p p'=>cases p;cases p';simp [partV,aggT,u];exact run_equalIn_bool' w _ t a b u
    · rename_i k u
      cases h1
      obtain ⟨x,y,rfl,rfl,hc⟩:=eqRow_one hr
      obtain ⟨k',a,b,rfl,rfl,rfl⟩:=eqCell_int hc
      cases hx with | cons p p'=>cases p;cases p';cases hy with | cons p p'=>cases p;cases p';simp [partV,aggT,u];exact run_equalIn_int w _ t k' k a b u
    · rename_i u
      cases h1
      obtain ⟨x,y,rfl,rfl,hc⟩:=eqRow_one hr
      obtain ⟨a,b,rfl,rfl,rfl⟩:=eqCell_str hc
      cases hx with
      | cons p p' =>
       cases p with
       | str ea =>
        cases p'
        cases hy with
        | cons p p' =>
         cases p with
         | str eb =>
          cases p'
          simp only [partV,aggT,u,List.headD_cons]
          rw [run_equalIn_string w _ t _ _ u,ByteArray.toList_eq,ByteArray.toList_eq,ea,eb]
    · rename_i n el u
      rw [Option.map_eq_some_iff] at h1
      obtain ⟨k1,h3,rfl⟩:=h1
      obtain ⟨hs,b,hb,hb1⟩:=kinds_agg h3
      have hi:∃ i,P.info? el=some i∧i.size=k1.length:=by
       unfold sizeT at hs;rw [Option.map_eq_some_iff] at hs;exact hs
      obtain ⟨i,hi,hsz⟩:=hi
      have hco:P.cellsOf el=k1.length:=by simp [Program.cellsOf,hi,hsz]
      have hax:aggT P t=some true:=by simp [aggT,u]
      simp only [partV,hax]
      rw [run_equalIn_array w (e + d) _ _ u hi,hco]
      have lx:=(eqRow_len hr).1;have ly:=(eqRow_len hr).2
      rw [hx.len] at lx;rw [hy.len] at ly
      have key:∀ (m j:Nat),j + m=n→eqRow (List.replicate m k1).flatten (xs.drop (j * k1.length)) (ys.drop (j * k1.length))=some r →
       (Op.eqItems (e + d) el k1.length xs'.toArray ys'.toArray (List.range' j m)).run P w=.ok r w:=by
       intro m
       induction m with
       | zero =>
        intro j hj hr'
        have hl:=eqRow_len hr'
        simp only [List.replicate_zero,List.flatten_nil,List.length_nil] at hl hr'
        obtain ⟨ha,hb⟩:=hl
        rw [List.length_eq_zero_iff] at ha hb
        rw [ha,hb] at hr'
        simp [eqRow] at hr'
        subst hr'
        simp [Op.eqItems]
       | succ m ih =>
        intro j hj hr'
        rw [List.replicate_succ,List.flatten_cons] at hr'
        obtain ⟨b',g1,g2,g3⟩:=eqRow_app hr'
        have hfl:((List.replicate n k1).flatten).length=n * k1.length:=by simp
        have hjl:j * k1.length + k1.length≤n * k1.length:=by
         have:(j + 1) * k1.length≤n * k1.length:=Nat.mul_le_mul_right _ (by omega)
         rw [Nat.succ_mul] at this;exact this
        have px:=run_partV (P:=P) hs hb hb1 (cs:=xs'.toArray) (off:=j * k1.length) (by simp only [List.size_toArray];omega) w
        have py:=run_partV (P:=P) hs hb hb1 (cs:=ys'.toArray) (off:=j * k1.length) (by simp only [List.size_toArray];omega) w
        have hq:=run_eqKinds d el k1 h3 e w _ _ _ _ b' ((hx.drop (j * k1.length)).take k1.length) ((hy.drop (j * k1.length)).take k1.length) g1
        rw [List.range'_succ]
        simp only [Op.eqItems,Sem.run_bind,px,py,hq,Result.andThen_ok]
        cases b' with
        | false=>simp [g2 rfl]
        | true =>
         simp only [Bool.not_true,Bool.false_eq_true,if_false]
         have g:=g3 rfl
         rw [List.drop_drop,List.drop_drop] at g
         refine ih (j + 1) (by omega) ?_
         rw [Nat.succ_mul]
         exact g
      have:=key n 0 (by omega) (by simpa using hr)
      rw [List.range_eq_range']
      exact this
    · rename_i fs u
      split at h1
      · rename_i hst
        have hf:P.fieldsOf t=fs:=by simp [Program.fieldsOf,u]
        have hax:aggT P t=some true:=by simp [aggT,u]
        simp only [partV,hax]
        rw [run_equalIn_struct w (e + d) t _ _ (by rw [hf];exact u) hst,hf]
        have:=run_eqKindsF d (run_eqKinds d) fs.toList 0 ks h1 e w xs ys xs' ys' r hx hy (by have:=(eqRow_len hr).1;omega) (by have:=(eqRow_len hr).2;omega) (by simpa using hr)
        exact this
      · cases h1
    · cases h1
  · cases h2
end
end Go.Proofs.YtgbnbgkldeifkaaGreatA
/- The small machine's operations come to what the program's come to (numbers, texts, fields, elements, cuts). No statement about the program is proved here. -/
namespace Go.Proofs.YtgbnbgkldeifkaaGreatA
open Go Go.RowKit
set_option linter.unusedVariables false
section
variable {w0:World} {ro:Nat→Prop} {P:Program} {μ:Mu} {H:Heap} {w:World} {T:Tmps} {lim:Nat}
def VS (w0:World) (ro:Nat→Prop) (P:Program) (lim:Nat) (μ:Mu) (H:Heap) (w:World) (s:Sem Value) (r:AV) (H':Heap):Prop :=
 ∃ v' w' μ',s.run P w=.ok v' w'∧Post w0 ro lim μ H w μ' H' w'∧VR w0 ro μ' r v'
theorem VS.same {s:Sem Value} {r:AV} {v':Value} (hr:HR w0 ro μ H w) (h:s.run P w=.ok v' w) (k:VR w0 ro μ r v'):VS w0 ro P lim μ H w s r H :=
 ⟨v',w,μ,h,Post.refl hr,k⟩
theorem VR.int_inv {k:IntKind} {n:Int} {v:Value} (h:VR w0 ro μ (.int k n) v):v=.int k n:=by cases h;rfl
theorem VR.bool_inv {b:Bool} {v:Value} (h:VR w0 ro μ (.bool b) v):v=.bool b:=by cases h;rfl
theorem VR.str_inv {l:List UInt8} {v:Value} (h:VR w0 ro μ (.str l) v):∃ s,v=.string s∧s.data.toList=l:=by cases h;exact ⟨_,rfl,‹_›⟩
theorem isInt_eq {v:AV} {n:Int} (h:v.isInt=some n):∃ k,v=.int k n:=by
 cases v <;> simp [AV.isInt] at h
 subst h;exact ⟨_,rfl⟩
theorem idx_eq {v:AV} {n i:Nat} (h:idx v n=some i):∃ k,v=.int k i∧i < n:=by
 simp only [idx,Option.bind_eq_some_iff] at h
 obtain ⟨j,h1,h2⟩:=h
 obtain ⟨k,rfl⟩:=isInt_eq h1
 split at h2
 · rename_i q
   cases h2
   exact ⟨k,by rw [Int.toNat_of_nonneg q.1],by omega⟩
 · cases h2
theorem bytesLess_eq:∀ (a b:List UInt8),Op.bytesLess a b=strLess a b
 | _,[]=>by cases ‹List UInt8› <;> rfl
 | [],_ :: _=>rfl
 | a :: x,b :: y=>by simp only [Op.bytesLess,strLess,bytesLess_eq x y]
theorem vs_int {op:BinOp} {t:TypeId} {x y:Operand} {k:IntKind} {a b:Int} {r:AV} (hr:HR w0 ro μ H w) (h:binInt op k a b=some r) (hs:op ≠ .shl∧op ≠ .shr) :
 VS w0 ro P lim μ H w (do eqGuard op t x y (.int k a) (.int k b);binOp op t (.int k a) (.int k b)) r H:=by
 rw [eqGuard_at_int]
 cases op <;> first | (exact absurd rfl hs.1) | (exact absurd rfl hs.2) | skip
 all_goals simp only [binInt] at h
 all_goals try (split at h)
 all_goals try (cases h;done)
 all_goals try (cases h)
 all_goals first
  | exact VS.same hr (by simp [binOp,Op.intArith,Op.intBits,Op.intCmp];rfl) (by constructor)
  | (rename_i q;exact VS.same hr (by simp [binOp,Op.intDiv,q];rfl) (by constructor))
theorem vs_shift {op:BinOp} {t:TypeId} {x y:Operand} {k k':IntKind} {a b:Int} {r:AV} (hr:HR w0 ro μ H w) (h:binAV op (.int k a) (.int k' b)=some r) (hs:op=.shl∨op=.shr) :
 VS w0 ro P lim μ H w (do eqGuard op t x y (.int k a) (.int k' b);binOp op t (.int k a) (.int k' b)) r H:=by
 rw [eqGuard_at_int]
 rcases hs with rfl | rfl
 all_goals
  simp only [binAV] at h
  split at h
  · cases h
  · rename_i q
    cases h
    exact VS.same hr (by simp [binOp,Op.shift,q];rfl) (by constructor)
theorem vs_str {op:BinOp} {t:TypeId} {x y:Operand} {a b:ByteArray} {r:AV} (hr:HR w0 ro μ H w) (h:binStr op a.data.toList b.data.toList=some r) :
 VS w0 ro P lim μ H w (do eqGuard op t x y (.string a) (.string b);binOp op t (.string a) (.string b)) r H:=by
 rw [eqGuard_at_string]
 cases op <;> simp only [binStr] at h
 all_goals try (cases h;done)
 case add =>
  split at h
  · rename_i q
    cases h
    refine VS.same hr (v':=.string (a++b)) ?_ (.str (by simp))
    have q':¬ ((a.size + b.size:Nat):Int) > IntKind.i64.max:=by
     have:a.size=a.data.toList.length:=rfl
     have:b.size=b.data.toList.length:=rfl
     rw [IntKind.max_i64];omega
    simp only [binOp,Op.stringOp,Sem.run_bind,Sem.run_pure,Result.andThen_ok]
    rw [if_neg q']
    rfl
  · cases h
 all_goals
  cases h
  refine VS.same hr (by simp only [binOp,Op.stringOp,Sem.run_bind,Sem.run_pure,Result.andThen_ok,ByteArray.toList_eq,bytesLess_eq];rfl) (by constructor)
theorem vs_bin {op:BinOp} {t:TypeId} {x y:Operand} {u v r:AV} {u' v':Value} (hr:HR w0 ro μ H w) (hu:VR w0 ro μ u u') (hv:VR w0 ro μ v v') (h:binAV op u v=some r) :
 VS w0 ro P lim μ H w (do eqGuard op t x y u' v';binOp op t u' v') r H:=by
 match u,v,h with
 | .int k a,.int k' b,h =>
  cases hu;cases hv
  by_cases hs:op=.shl∨op=.shr
  · exact vs_shift hr h hs
  · have hs':op ≠ .shl∧op ≠ .shr:=⟨fun e=>hs (.inl e),fun e=>hs (.inr e)⟩
    have h':k=k'∧binInt op k a b=some r:=by
     simp only [binAV] at h
     cases op <;> first | (exact absurd rfl hs'.1) | (exact absurd rfl hs'.2) | (simpa using h)
    obtain ⟨rfl,h'⟩:=h'
    exact vs_int hr h' hs'
 | .str a,.str b,h =>
  obtain ⟨s,rfl,rfl⟩:=hu.str_inv
  obtain ⟨s',rfl,rfl⟩:=hv.str_inv
  exact vs_str hr h
theorem vs_eqagg {op:BinOp} {t:TypeId} {x y:Operand} {a b:List AV} {r neg:Bool} {d:Nat} {ks:List CK} {u' v':Value} (hr:HR w0 ro μ H w) (hop:op=if neg then .neq else .eql)
 (hk:kindsT P d t=some ks) (hd:d≤10000) (hg:P.eqGuardType P.depth t=false) (ha:aggT P t=some true) (hu:VR w0 ro μ (.agg a) u') (hv:VR w0 ro μ (.agg b) v') (h:eqRow ks a b=some r) :
 VS w0 ro P lim μ H w (do eqGuard op t x y u' v';binOp op t u' v') (.bool (if neg then !r else r)) H:=by
 cases hu with
 | agg ca =>
  cases hv with
  | agg cb =>
   have:=run_eqKinds d t ks hk (10000 - d) w a b _ _ r ca cb h
   rw [Nat.sub_add_cancel hd] at this
   simp only [partV,ha] at this
   refine VS.same hr (v':=.bool (if neg then !r else r)) ?_ (.bool _)
   rw [Sem.run_bind,run_eqGuard_agg w op t x y _ _ hg]
   subst hop
   cases neg
   · simp only [Result.andThen_ok,Bool.false_eq_true,if_false]
     rw [run_eql_struct,this];rfl
   · simp only [Result.andThen_ok,if_true]
     rw [run_neq_struct,this];rfl
theorem vs_eqbool {op:BinOp} {t:TypeId} {x y:Operand} {a b neg:Bool} {u' v':Value} (hr:HR w0 ro μ H w) (hop:op=if neg then .neq else .eql)
 (ht:P.underlying t=some .bool) (hu:VR w0 ro μ (.bool a) u') (hv:VR w0 ro μ (.bool b) v') :
 VS w0 ro P lim μ H w (do eqGuard op t x y u' v';binOp op t u' v') (.bool (if neg then !(a == b) else a == b)) H:=by
 cases hu;cases hv
 have h:=run_equal_bool (P:=P) w t a b ht
 refine VS.same hr (v':=.bool (if neg then !(a == b) else a == b)) ?_ (.bool _)
 rw [eqGuard_at_bool]
 subst hop
 cases neg <;> simp [binOp,h]
theorem vs_eqptr {op:BinOp} {t e:TypeId} {x y:Operand} {a b:Option (Nat × Nat)} {neg r:Bool} {u' v':Value} (hr:HR w0 ro μ H w) (hop:op=if neg then .neq else .eql)
 (ht:P.underlying t=some (.pointer e)) (hu:VR w0 ro μ (.ptr a) u') (hv:VR w0 ro μ (.ptr b) v') (h:eqNil a b=some r) :
 VS w0 ro P lim μ H w (do eqGuard op t x y u' v';binOp op t u' v') (.bool (if neg then !r else r)) H:=by
 have hn0:∀ d p,(Op.equalIn (d + 1) t (.pointer none) (.pointer p)).run P w=.ok p.isNone w:=fun d p=>by simp [Op.equalIn,run_underlying ht]
 have hs0:∀ d p,(Op.equalIn (d + 1) t (.pointer (some p)) (.pointer none)).run P w=.ok false w:=fun d p=>by simp [Op.equalIn,run_underlying ht]
 have hn:∀ p,(Op.equal t (.pointer none) (.pointer p)).run P w=.ok p.isNone w:=fun p=>hn0 9999 p
 have hs:∀ p,(Op.equal t (.pointer (some p)) (.pointer none)).run P w=.ok false w:=fun p=>hs0 9999 p
 refine VS.same hr (v':=.bool (if neg then !r else r)) ?_ (.bool _)
 subst hop
 cases hu <;> cases hv <;> simp [eqNil] at h <;> subst h <;> rw [eqGuard_at_pointer] <;> cases neg <;> simp [binOp,hn,hs]
theorem vs_eqmap {op:BinOp} {t k e:TypeId} {x y:Operand} {a b:Option Nat} {neg r:Bool} {u' v':Value} (hr:HR w0 ro μ H w) (hop:op=if neg then .neq else .eql)
 (ht:P.underlying t=some (.map k e)) (hu:VR w0 ro μ (.mapv a) u') (hv:VR w0 ro μ (.mapv b) v') (h:eqNil a b=some r) :
 VS w0 ro P lim μ H w (do eqGuard op t x y u' v';binOp op t u' v') (.bool (if neg then !r else r)) H:=by
 have hn0:∀ d p,(Op.equalIn (d + 1) t (.map none) (.map p)).run P w=.ok p.isNone w:=fun d p=>by simp [Op.equalIn,run_underlying ht]
 have hs0:∀ d p,(Op.equalIn (d + 1) t (.map (some p)) (.map none)).run P w=.ok false w:=fun d p=>by simp [Op.equalIn,run_underlying ht]
 have hn:∀ p,(Op.equal t (.map none) (.map p)).run P w=.ok p.isNone w:=fun p=>hn0 9999 p
 have hs:∀ p,(Op.equal t (.map (some p)) (.map none)).run P w=.ok false w:=fun p=>hs0 9999 p
 have hg:∀ p v,eqGuard op t x y (.map p) v=pure ():=fun p v=>by cases op <;> rfl
 refine VS.same hr (v':=.bool (if neg then !r else r)) ?_ (.bool _)
 subst hop
 cases hu <;> cases hv <;> simp [eqNil] at h <;> subst h <;> rw [hg] <;> cases neg <;> simp [binOp,hn,hs]
theorem vs_un {op:UnOp} {u r:AV} {u':Value} (hr:HR w0 ro μ H w) (hu:VR w0 ro μ u u') (h:unAV op u=some r):VS w0 ro P lim μ H w (Op.unary op u') r H:=by
 match u,h with
 | .int k n,h =>
  cases hu
  cases op <;> simp only [unAV] at h <;> try (cases h;done)
  · cases h;exact VS.same hr (v':=.int k (k.wrap (0 - n))) rfl (.int _ _)
  · simp only [binInt] at h
    cases h
    exact VS.same hr (by simp [Op.unary,Op.intBits];rfl) (by constructor)
 | .bool b,h =>
  cases hu
  cases op <;> simp only [unAV] at h <;> try (cases h;done)
  cases h;exact VS.same hr (by simp [Op.unary];rfl) (by constructor)
theorem vs_field {t:TypeId} {fs:Array Field} {f:Field} {i:Nat} {n:Option Nat} {cs c:List AV} {r:AV} {u':Value} (hr:HR w0 ro μ H w) (ht:P.underlying t=some (.struct fs)) (hf:fs[i]?=some f)
 (hs:shp P f.type=some n) (hu:VR w0 ro μ (.agg cs) u') (h1:cut cs f.offset (n.getD 1)=some c) (h2:shapeOf n c=some r):VS w0 ro P lim μ H w (Instr.field t u' i) r H:=by
 cases hu with
 | @agg _ vs hv =>
  have hsub:=(hv.drop f.offset).take (n.getD 1)
  obtain ⟨q,rfl⟩:=cut_eq h1
  have hsh:=shape_VR h2 hsub
  have hl:=hv.len
  unfold shp at hs
  split at hs
  · rename_i m e1 e2
    cases hs
    refine VS.same hr (v':=.agg ((vs.drop f.offset).take m).toArray) ?_ hsh
    simp only [Instr.field,Sem.run_bind,run_underlying ht,Result.andThen_ok,hf,asAgg,Sem.run_pure,part,run_aggT e1,if_true,run_sizeT e2]
    congr 2
    apply Array.ext'
    simp
  · rename_i e1 e2
    cases hs
    obtain ⟨v,hv1,hv2⟩:=hsh
    refine VS.same hr (v':=v) ?_ hv2
    have:vs[f.offset]?=some v:=by
     have:((vs.drop f.offset).take 1)[0]?=some v:=by
      simp only [Option.getD_none] at hv1
      rw [hv1];rfl
     simpa using this
    simp [Instr.field,run_underlying ht,hf,asAgg,part,run_aggT e1,this]
  · cases hs
theorem vs_fieldAddr {t:TypeId} {fs:Array Field} {f:Field} {i m:Nat} {u r:AV} {u':Value} (hr:HR w0 ro μ H w) (ht:P.underlying t=some (.struct fs)) (hf:fs[i]?=some f)
 (hs:sizeT P f.type=some m) (hm:m ≠ 0) (hu:VR w0 ro μ u u')
 (h:fieldAddrAV f.offset u=some r):VS w0 ro P lim μ H w (Instr.fieldAt t u' i) r H:=by
 have hrun:∀ a,(Instr.fieldAt t (.pointer (some a)) i).run P w=.ok (.pointer (some (a.add f.offset))) w:=fun a=>by
  simp [Instr.fieldAt,run_underlying ht,hf,Instr.sureAddr,fieldPlace,run_sizeT hs,hm]
 cases hu <;> first | (cases h;done) | skip
 case ptr e=>cases h;refine VS.same hr (hrun _) ?_;rw [add_at,Nat.add_assoc];exact .ptr e
 case tp h0 hd=>cases h;refine VS.same hr (hrun _) ?_;rw [add_at];exact .tp h0 (hd.drop _)
theorem vs_idxArr {t e:TypeId} {len es i:Nat} {u r:AV} {u' i':Value} (hr:HR w0 ro μ H w) (ht:P.underlying t=some (.array len e)) (hs:sizeT P e=some es) (hu:VR w0 ro μ u u') {iv:AV} (hi:VR w0 ro μ iv i') (hx:idx iv len=some i)
 (h:fieldAddrAV (i * es) u=some r):VS w0 ro P lim μ H w (Instr.indexAt t u' i') r H:=by
 obtain ⟨k,rfl,hlt⟩:=idx_eq hx
 cases hi
 have hrun:∀ a,(Instr.indexAt t (.pointer (some a)) (.int k i)).run P w=.ok (.pointer (some (a.add (i * es)))) w:=fun a=>by
  have q:(0:Int)≤i∧(i:Int) < (len:Int):=by omega
  have q':¬ len≤i:=by omega
  simp [Instr.indexAt,asIntOf,run_underlying ht,Instr.sureAddr,run_sizeT hs,q']
 cases hu <;> first | (cases h;done) | skip
 case ptr e=>cases h;refine VS.same hr (hrun _) ?_;rw [add_at,Nat.add_assoc];exact .ptr e
 case tp h0 hd=>cases h;refine VS.same hr (hrun _) ?_;rw [add_at];exact .tp h0 (hd.drop _)
theorem vs_idxSl {t e:TypeId} {es:Nat} {u r iv:AV} {u' i':Value} (hr:HR w0 ro μ H w) (ht:P.underlying t=some (.slice e)) (hs:sizeT P e=some es) (hu:VR w0 ro μ u u') (hi:VR w0 ro μ iv i')
 (h:idxSlAV es iv u=some r):VS w0 ro P lim μ H w (Instr.indexAt t u' i') r H:=by
 have hrun:∀ a n cap (i:Nat) k,i < n→(Instr.indexAt t (.slice (some a) n cap) (.int k i)).run P w=.ok (.pointer (some (a.add (i * es)))) w:=fun a n cap i k q=>by
  have q':¬ n≤i:=by omega
  simp [Instr.indexAt,asIntOf,run_underlying ht,run_sizeT hs,q']
 cases hu <;> first | (cases h;done) | skip
 case sl e hn hz =>
  simp only [idxSlAV] at h
  split at h
  · rename_i q
    subst q
    rw [Option.map_eq_some_iff] at h
    obtain ⟨i,hx,rfl⟩:=h
    obtain ⟨k,rfl,hlt⟩:=idx_eq hx
    cases hi
    refine VS.same hr (hrun _ _ _ _ _ hlt) ?_;rw [add_at,Nat.add_assoc];exact .ptr e
  · cases h
 case sl0 a =>
  simp only [idxSlAV] at h
  split at h
  · rw [Option.map_eq_some_iff] at h
    obtain ⟨i,hx,rfl⟩:=h
    obtain ⟨k,rfl,hlt⟩:=idx_eq hx
    omega
  · cases h
 case ro0 a cap e0 =>
  simp only [idxSlAV] at h
  rw [Option.map_eq_some_iff] at h
  obtain ⟨i,hx,rfl⟩:=h
  obtain ⟨k,rfl,hlt⟩:=idx_eq hx
  omega
 case ro h0 hn hd =>
  simp only [idxSlAV] at h
  rw [Option.map_eq_some_iff] at h
  obtain ⟨i,hx,rfl⟩:=h
  obtain ⟨k,rfl,hlt⟩:=idx_eq hx
  cases hi
  refine VS.same hr (hrun _ _ _ _ _ hlt) ?_;rw [add_at];exact .tp h0 (hd.drop _)
theorem vs_idxVal {t e:TypeId} {len es i:Nat} {n:Option Nat} {cs c:List AV} {r iv:AV} {u' i':Value} (hr:HR w0 ro μ H w) (ht:P.underlying t=some (.array len e)) (hes:sizeT P e=some es) (hs:shp P e=some n)
 (hu:VR w0 ro μ (.agg cs) u') (hi:VR w0 ro μ iv i') (hx:idx iv len=some i) (h1:cut cs (i * es) (n.getD 1)=some c) (h2:shapeOf n c=some r):VS w0 ro P lim μ H w (Instr.index t u' i') r H:=by
 obtain ⟨k,rfl,hlt⟩:=idx_eq hx
 cases hi
 have q0:(0:Int)≤i∧(i:Int) < (len:Int):=by omega
 cases hu with
 | @agg _ vs hv =>
  have hsub:=(hv.drop (i * es)).take (n.getD 1)
  obtain ⟨q,rfl⟩:=cut_eq h1
  have hsh:=shape_VR h2 hsub
  have hl:=hv.len
  have hst:(Instr.index t (.agg vs.toArray) (.int k i)).run P w=(part e vs.toArray (i * es)).run P w:=by
   have q':¬ len≤i:=by omega
   simp [Instr.index,asIntOf,run_underlying ht,q',run_sizeT hes]
  unfold shp at hs
  split at hs
  · rename_i m e1 e2
    cases hs
    refine VS.same hr (v':=.agg ((vs.drop (i * es)).take m).toArray) ?_ hsh
    rw [hst]
    simp only [Sem.run_bind,Result.andThen_ok,Sem.run_pure,part,run_aggT e1,if_true,run_sizeT e2]
    congr 2
    apply Array.ext'
    simp
  · rename_i e1 e2
    cases hs
    obtain ⟨v,hv1,hv2⟩:=hsh
    refine VS.same hr (v':=v) ?_ hv2
    have:vs[i * es]?=some v:=by
     have:((vs.drop (i * es)).take 1)[0]?=some v:=by
      simp only [Option.getD_none] at hv1
      rw [hv1];rfl
     simpa using this
    rw [hst]
    simp [part,run_aggT e1,this]
  · cases hs
theorem vs_idxStr {t:TypeId} {l:List UInt8} {i:Nat} {iv:AV} {u' i':Value} (hr:HR w0 ro μ H w) (ht:P.underlying t=some .string) (hu:VR w0 ro μ (.str l) u') (hi:VR w0 ro μ iv i') (hx:idx iv l.length=some i) :
 VS w0 ro P lim μ H w (Instr.index t u' i') (.int .u8 (l.getD i 0).toNat) H:=by
 obtain ⟨k,rfl,hlt⟩:=idx_eq hx
 cases hi
 obtain ⟨s,rfl,rfl⟩:=hu.str_inv
 refine VS.same hr (v':=.int .u8 ((s.data.toList.getD i 0).toNat)) ?_ (.int _ _)
 have hsz:i < s.size:=hlt
 have:s[i]?=some (s.data.toList.getD i 0):=by
  rw [getElem?_pos s i hsz]
  simp only [List.getD]
  rw [List.getElem?_eq_getElem hlt]
  rfl
 simp only [Instr.index,asIntOf,Sem.run_bind,Sem.run_pure,Result.andThen_ok,run_underlying ht]
 rw [if_pos (by omega),Int.toNat_natCast,this]
 rfl
theorem bnd_run {x:Option AV} {x':Option Value} {d m r:Nat} (hx:match x,x' with | none,none=>True | some u,some u'=>VR w0 ro μ u u' | _,_=>False) (h:bnd x d m=some r) :
 (x'=none∧r=d)∨(∃ k,x'=some (.int k r)∧r≤m):=by
 cases x with
 | none=>cases x' with
  | none=>simp [bnd] at h;exact .inl ⟨rfl,h.symm⟩
  | some u=>exact hx.elim
 | some u=>cases x' with
  | none=>exact hx.elim
  | some u' =>
   simp only [bnd,Option.bind_eq_some_iff] at h
   obtain ⟨j,h1,h2⟩:=h
   obtain ⟨k,rfl⟩:=isInt_eq h1
   cases hx
   split at h2
   · rename_i q;cases h2;exact .inr ⟨k,by rw [Int.toNat_of_nonneg q.1],by omega⟩
   · cases h2
def OptVR (w0:World) (ro:Nat→Prop) (μ:Mu) (x:Option AV) (x':Option Value):Prop:=match x,x' with | none,none=>True | some u,some u'=>VR w0 ro μ u u' | _,_=>False
theorem run_bound {k:IntKind} {i y:Nat} {c:BoundsCode} (h:i≤y) (w:World):(Instr.sliceBound (.int k i) y c).run P w=.ok i w:=by
 have:(0:Int)≤i∧(i:Int)≤(y:Int):=by omega
 simp [Instr.sliceBound,asIntOf,this]
theorem run_bounds2 {isS:Bool} {len cap l h:Nat} {x y:Option AV} {x' y':Option Value} (hx:OptVR w0 ro μ x x') (hy:OptVR w0 ro μ y y') (h1:bnd y len len=some h) (h2:bnd x 0 h=some l) (hc:len≤cap) (w:World) :
 (Instr.sliceBounds isS len cap x' y' none).run P w=.ok (l,h,cap) w∧h≤len∧l≤h:=by
 have r1:=bnd_run hy h1
 have r2:=bnd_run hx h2
 rcases r1 with ⟨rfl,rfl⟩ | ⟨k,rfl,hle⟩ <;> rcases r2 with ⟨rfl,rfl⟩ | ⟨k',rfl,hle'⟩
 · exact ⟨by simp [Instr.sliceBounds],by omega,by omega⟩
 · exact ⟨by simp [Instr.sliceBounds,run_bound hle'],by omega,hle'⟩
 · exact ⟨by simp [Instr.sliceBounds,run_bound (show h≤cap by omega)],hle,by omega⟩
 · exact ⟨by simp [Instr.sliceBounds,run_bound (show h≤cap by omega),run_bound hle'],hle,hle'⟩
theorem run_boundsC {isS:Bool} {len cap l h:Nat} {x y:Option AV} {x' y':Option Value} (hx:OptVR w0 ro μ x x') (hy:OptVR w0 ro μ y y') (h1:bnd y len cap=some h) (h2:bnd x 0 h=some l) (hc:len≤cap) (w:World) :
 (Instr.sliceBounds isS len cap x' y' none).run P w=.ok (l,h,cap) w∧h≤cap∧l≤h:=by
 have r1:=bnd_run hy h1
 have r2:=bnd_run hx h2
 rcases r1 with ⟨rfl,rfl⟩ | ⟨k,rfl,hle⟩ <;> rcases r2 with ⟨rfl,rfl⟩ | ⟨k',rfl,hle'⟩
 · exact ⟨by simp [Instr.sliceBounds],by omega,by omega⟩
 · exact ⟨by simp [Instr.sliceBounds,run_bound hle'],by omega,hle'⟩
 · exact ⟨by simp [Instr.sliceBounds,run_bound (show h≤cap by omega)],hle,by omega⟩
 · exact ⟨by simp [Instr.sliceBounds,run_bound (show h≤cap by omega),run_bound hle'],hle,hle'⟩
theorem run_bounds3 {isS:Bool} {len cap l h m:Nat} {x y:Option AV} {z:AV} {x' y':Option Value} {z':Value} (hx:OptVR w0 ro μ x x') (hy:OptVR w0 ro μ y y') (hy1:y.isSome=true) (hz:VR w0 ro μ z z') (h0:bnd (some z) 0 0=some m) (h1:bnd y 0 0=some h) (h2:bnd x 0 h=some l) (w:World) :
 (Instr.sliceBounds isS len cap x' y' (some z')).run P w=.ok (0,0,0) w:=by
 have r0:=bnd_run (x:=some z) (x':=some z') hz h0
 have r1:=bnd_run hy h1
 have r2:=bnd_run hx h2
 rcases r0 with ⟨q,_⟩ | ⟨k0,q,hm⟩
 · cases q
 · cases q
   obtain rfl:m=0:=by omega
   rcases r1 with ⟨rfl,rfl⟩ | ⟨k,rfl,hle⟩
   · cases y with
     | none=>cases hy1
     | some u=>exact hy.elim
   · obtain rfl:h=0:=by omega
     rcases r2 with ⟨rfl,rfl⟩ | ⟨k',rfl,hle'⟩
     · have b1:=fun c=>run_bound (P:=P) (k:=k0) (c:=c) (Nat.zero_le cap) w
       have b2:=fun c=>run_bound (P:=P) (k:=k) (c:=c) (Nat.zero_le 0) w
       simp only [Int.ofNat_zero] at b1 b2
       simp [Instr.sliceBounds,b1,b2]
     · obtain rfl:l=0:=by omega
       have b1:=fun c=>run_bound (P:=P) (k:=k0) (c:=c) (Nat.zero_le cap) w
       have b2:=fun c=>run_bound (P:=P) (k:=k) (c:=c) (Nat.zero_le 0) w
       have b3:=fun c=>run_bound (P:=P) (k:=k') (c:=c) (Nat.zero_le 0) w
       simp only [Int.ofNat_zero] at b1 b2 b3
       simp [Instr.sliceBounds,b1,b2,b3]
theorem sl_after {b o n es l h cap:Nat} {loc:Loc} (hm:μ[b]?=some (some loc)) (hl:l≤h) (hn:h≤n) (hc:n≤cap) (hz:loc.k + o + cap * es≤loc.sz) :
 VR w0 ro μ (.sl b (o + l * es) (h - l) es) (.slice (some (if cap=l then ⟨loc.c,loc.k + o,none⟩ else (⟨loc.c,loc.k + o,none⟩:Addr).add (l * es))) (h - l) (cap - l)):=by
 by_cases q:cap=l
 · have h1:h - l=0:=by omega
   have h2:cap - l=0:=by omega
   rw [h1,h2];exact .sl0 _
 · rw [if_neg q,add_at,Nat.add_assoc]
   refine .sl hm (by omega) ?_
   have:(cap - l) * es + l * es=cap * es:=by rw [← Nat.add_mul];congr 1;omega
   omega
theorem vs_sliceSl {t e:TypeId} {es:Nat} {u r:AV} {u':Value} {l h m:Option AV} {l' h' m':Option Value} (hr:HR w0 ro μ H w) (ht:P.underlying t=some (.slice e)) (hs:sizeT P e=some es) (hu:VR w0 ro μ u u')
 (hl:OptVR w0 ro μ l l') (hh:OptVR w0 ro μ h h') (hm:OptVR w0 ro μ m m') (hmh:m.isSome=true→h.isSome=true) (k:cutSl es u l h m=some r):VS w0 ro P lim μ H w (Instr.sliceAt t u' l' h' m') r H:=by
 have hst:∀ a n cap,(Instr.sliceAt t (.slice a n cap) l' h' m').run P w=(do let (l,h,m) ← Instr.sliceBounds true n cap l' h' m';let size ← sizeOf e;pure (Value.slice (if m=l then a else a.map (·.add (l * size))) (h - l) (m - l)):Sem Value).run P w:=fun a n cap=>by
  simp [Instr.sliceAt,Instr.slice,run_underlying ht]
 have hmap:∀ (c:Prop) [Decidable c] (a:Addr) (n:Nat),(if c then some a else (some a).map (·.add n))=some (if c then a else a.add n):=fun c _ a n=>by split <;> rfl
 cases m with
 | none =>
  have hm':m'=none:=by cases m' with | none=>rfl | some _=>exact hm.elim
  subst hm'
  cases u <;> simp only [cutSl] at k <;> try (cases k;done)
  case nilsl =>
   simp only [Option.bind_eq_some_iff] at k
   obtain ⟨h1,k1,l1,k2,k3⟩:=k
   cases k3
   cases hu with
   | nilsl a =>
    obtain ⟨hb,q1,q2⟩:=run_bounds2 (P:=P) (isS:=true) hl hh k1 k2 (Nat.le_refl 0) w
    obtain rfl:h1=0:=by omega
    obtain rfl:l1=0:=by omega
    refine VS.same hr (v':=.slice a 0 0) ?_ (.nilsl _)
    rw [hst]
    simp [hb,run_sizeT hs]
  case sl b o n es' =>
   split at k
   · rename_i q
     subst q
     simp only [Option.bind_eq_some_iff] at k
     obtain ⟨h1,k1,l1,k2,k3⟩:=k
     cases k3
     cases hu with
     | sl hmu hn hz =>
      obtain ⟨hb,q1,q2⟩:=run_bounds2 (P:=P) (isS:=true) hl hh k1 k2 hn w
      refine VS.same hr ?_ (sl_after hmu q2 q1 hn hz)
      rw [hst]
      simp only [Sem.run_bind,hb,run_sizeT hs,Result.andThen_ok,Sem.run_pure]
      rw [hmap]
     | sl0 a =>
      obtain ⟨hb,q1,q2⟩:=run_bounds2 (P:=P) (isS:=true) hl hh k1 k2 (Nat.le_refl 0) w
      obtain rfl:h1=0:=by omega
      obtain rfl:l1=0:=by omega
      refine VS.same hr (v':=.slice a 0 0) ?_ (.sl0 _)
      rw [hst]
      simp [hb,run_sizeT hs]
   · cases k
  case slc b o n c es' =>
   split at k
   · rename_i q
     subst q
     simp only [Option.bind_eq_some_iff] at k
     obtain ⟨h1,k1,l1,k2,k3⟩:=k
     split at k3
     · rename_i hlc
       cases k3
       cases hu with
       | slc hmu hn hz =>
        obtain ⟨hb,q1,q2⟩:=run_boundsC (P:=P) (isS:=true) hl hh k1 k2 hn w
        refine VS.same hr (v':=.slice _ (h1 - l1) (c - l1)) ?_ (.slc hmu (by omega) ?_)
        · rw [hst]
          simp only [Sem.run_bind,hb,run_sizeT hs,Result.andThen_ok,Sem.run_pure]
          rw [hmap,if_neg (by omega),add_at,Nat.add_assoc]
        · rename_i loc
          have:(c - l1) * es' + l1 * es'=c * es':=by rw [← Nat.add_mul];congr 1;omega
          omega
     · cases k3
   · cases k
  case ro n cs =>
   simp only [Option.bind_eq_some_iff] at k
   obtain ⟨h1,k1,l1,k2,k3⟩:=k
   cases k3
   cases hu with
   | ro0 a cap e0 =>
    obtain ⟨hb,q1,q2⟩:=run_bounds2 (P:=P) (isS:=true) hl hh k1 k2 (Nat.zero_le cap) w
    obtain rfl:h1=0:=by omega
    obtain rfl:l1=0:=by omega
    refine VS.same hr (v':=.slice (if cap=0 then a else a.map (·.add (0 * es))) 0 cap) ?_ (.ro0 _ _ (by simp))
    rw [hst]
    simp [hb,run_sizeT hs]
   | @ro _ _ c off cap h0 hcap hd =>
    · obtain ⟨hb,q1,q2⟩:=run_bounds2 (P:=P) (isS:=true) hl hh k1 k2 hcap w
      by_cases q3:h1 - l1=0
      · rw [q3]
        refine VS.same hr (v':=.slice (some (if cap=l1 then ⟨c,off,none⟩ else (⟨c,off,none⟩:Addr).add (l1 * es))) 0 (cap - l1)) ?_ (.ro0 _ _ (by simp))
        rw [hst]
        simp only [Sem.run_bind,hb,run_sizeT hs,Result.andThen_ok,Sem.run_pure]
        rw [hmap,q3]
      · refine VS.same hr (v':=.slice (some ⟨c,off + l1 * es,none⟩) (h1 - l1) (cap - l1)) ?_ (.ro h0 (by omega) ((hd.drop _).take _))
        rw [hst]
        simp only [Sem.run_bind,hb,run_sizeT hs,Result.andThen_ok,Sem.run_pure]
        rw [hmap,if_neg (by omega),add_at]
 | some m =>
  cases m' with
  | none=>exact hm.elim
  | some m' =>
   have fin:∀ a n cap (m1 h1 l1:Nat),u'=.slice a n cap→bnd (some m) 0 0=some m1→bnd h 0 0=some h1→bnd l 0 h1=some l1→VS w0 ro P lim μ H w (Instr.sliceAt t u' l' h' (some m')) .nilsl H:=fun a n cap m1 h1 l1 e k0 k1 k2=>by
    subst e
    have hb:=run_bounds3 (P:=P) (isS:=true) (len:=n) (cap:=cap) hl hh (hmh rfl) hm k0 k1 k2 w
    refine VS.same hr (.trans (hst a n cap) ?_) (.nilsl a)
    simp [hb,run_sizeT hs]
   cases u <;> simp only [cutSl,Option.bind_eq_some_iff] at k <;> try (cases k;done)
   all_goals
    obtain ⟨m1,k0,h1,k1,l1,k2,k3⟩:=k
    cases k3
    cases hu <;> exact fin _ _ _ _ _ _ rfl k0 k1 k2
end
end Go.Proofs.YtgbnbgkldeifkaaGreatA

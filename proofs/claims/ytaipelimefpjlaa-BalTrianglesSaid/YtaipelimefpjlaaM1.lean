/- Proof texts, put together. -/
import Derived.Calls
import Derived.KernelRfl
import Derived.Laws.Sem
import Derived.Laws.Cells
import Derived.Laws.Rows
import Derived.Laws.StructEq
import Derived.Laws.Tables
import Derived.Laws.MakeOwn
section
set_option linter.all false
/- The evaluator: the translated code run on abstract states. -/
namespace Go.Ev

inductive C where
  | int (k : IntKind) (n : Int)
  | bool (b : Bool)
  | sl (id off len sz : Nat)
  | nsl
  | fn (f : Nat)
  | mp (id : Nat)
  | und
  deriving DecidableEq
inductive Ptr where
  | loc (s off : Nat)
  | ref (j off : Nat)
  | elt (id i n : Nat)
  | glob (g off : Nat)
  | nil
inductive V where
  | one (c : C)
  | ptr (p : Ptr)
  | clo (f : Nat) (caps : List Nat)
  | agg (cs : List C)
  | tup (vs : List V)
  | any
inductive Blk where
  | dead
  | mem (kd : Nat) (cs : List C)
  | map (es : List (Int × Bool))
abbrev Heap := List Blk
abbrev Box := Nat × List C
structure St where
  fr : List V
  L : List (Option Box)
  R : List Box
  H : Heap
  n0 : Nat
abbrev Res := V × List Box × Heap
inductive X where
  | normal
  | exit (id : Nat)
  | ret

inductive Sh where
  | int (k : IntKind) | bool | other
inductive TD where
  | int (k : IntKind) | bool | ptr | slice (e : Nat) | struct (fs : List (Nat × Nat)) | arr (n e : Nat) | fn | map (k e : Nat) | tup (ts : List Nat)
structure TI where
  d : TD
  zero : List C
  bytes : Nat
  sh : List Sh
  eq : Bool
def TD.agg : TD → Bool
  | .struct _ | .arr _ _ => true
  | _ => false

inductive Root where
  | l (s : Nat) | r (j : Nat)
  deriving DecidableEq

/-- How an operation is run in a drawing region: the heap at its start; may elements be read; is an effect bound to leave alone what was there; the number of a made slice. -/
structure Cx where
  H0 : Heap
  idx : Bool
  lk : Bool
  id : Nat

def und : V := .any

def ofValue : Value → V
  | .bool b => .one (.bool b)
  | .int k n => .one (.int k n)
  | .pointer none => .ptr .nil
  | .slice none 0 0 => .one .nsl
  | .func (.func f) a b => if a.size = 0 ∧ b.size = 0 then .one (.fn f) else und
  | _ => und

def opnd (fr : List V) : Operand → V
  | .tmp t => fr.getD t und
  | .const v => ofValue v
  | .func f => .one (.fn f)
  | .global g => .ptr (.glob g 0)

def V.cells : V → Option (List C)
  | .one c => some [c]
  | .agg cs => some cs
  | _ => none

def bitI (op : BinOp) (k : IntKind) (x y : Int) : Int :=
  match op with
  | .and => k.wrap (BitVec.ofInt k.bits x &&& BitVec.ofInt k.bits y).toNat
  | .or => k.wrap (BitVec.ofInt k.bits x ||| BitVec.ofInt k.bits y).toNat
  | .xor => k.wrap (BitVec.ofInt k.bits x ^^^ BitVec.ofInt k.bits y).toNat
  | _ => k.wrap (BitVec.ofInt k.bits x &&& ~~~ BitVec.ofInt k.bits y).toNat
def shlI (k : IntKind) (x y : Int) : Int := k.wrap (x * 2 ^ (min y.toNat k.bits))
def shrI (k : IntKind) (x y : Int) : Int := x.fdiv (2 ^ (min y.toNat k.bits))

def eqCells : List C → List C → Option Bool
  | [], [] => some true
  | .int k a :: xs, .int k' b :: ys => if k = k' then (eqCells xs ys).map fun t => a == b && t else none
  | _, _ => none

def maxI (k : IntKind) (x y : Int) : C := .int k (if y > x then y else x)
def minI (k : IntKind) (x y : Int) : C := .int k (if y < x then y else x)

def findM : List (Int × Bool) → Int → Bool
  | [], _ => false
  | (a, b) :: es, k => bif k == a then b else findM es k
def insM : List (Int × Bool) → Int → Bool → List (Int × Bool)
  | [], k, v => [(k, v)]
  | (a, b) :: es, k, v => bif k == a then (k, v) :: es else (a, b) :: insM es k v

section
variable {α : Type}

def intOp (op : BinOp) (k : IntKind) (a b : Int) (K : C → Option α) : Option α :=
  match op with
  | .add => K (.int k (k.wrap (a + b)))
  | .sub => K (.int k (k.wrap (a - b)))
  | .mul => K (.int k (k.wrap (a * b)))
  | .quo => bif b == 0 then none else K (.int k (k.wrap (a.tdiv b)))
  | .rem => bif b == 0 then none else K (.int k (a.tmod b))
  | .and => K (.int k (bitI .and k a b))
  | .or => K (.int k (bitI .or k a b))
  | .xor => K (.int k (bitI .xor k a b))
  | .andNot => K (.int k (bitI .andNot k a b))
  | .eql => K (.bool (a == b))
  | .neq => K (.bool (a != b))
  | .lss => K (.bool (decide (a < b)))
  | .leq => K (.bool (decide (a ≤ b)))
  | .gtr => K (.bool (decide (a > b)))
  | .geq => K (.bool (decide (a ≥ b)))
  | _ => none

def nilOp (op : BinOp) (t : Bool) (K : C → Option α) : Option α :=
  match op with
  | .eql => K (.bool t)
  | .neq => K (.bool (!t))
  | _ => none

def binV (tab : Nat → Option TI) (t : Nat) (op : BinOp) (x y : V) (K : C → Option α) : Option α :=
  match x, y with
  | .one (.int k a), .one (.int k' b) =>
    match op with
    | .shl => bif decide (b < 0) then none else K (.int k (shlI k a b))
    | .shr => bif decide (b < 0) then none else K (.int k (shrI k a b))
    | op => if k = k' then intOp op k a b K else none
  | .one (.bool a), .one (.bool b) => match tab t with | some ⟨.bool, _, _, _, _⟩ => nilOp op (a == b) K | _ => none
  | .ptr p, .ptr q => match tab t, p, q with
    | some ⟨.ptr, _, _, _, _⟩, .nil, .nil => nilOp op true K
    | some ⟨.ptr, _, _, _, _⟩, .loc _ _, .nil | some ⟨.ptr, _, _, _, _⟩, .ref _ _, .nil | some ⟨.ptr, _, _, _, _⟩, .nil, .loc _ _ | some ⟨.ptr, _, _, _, _⟩, .nil, .ref _ _ => nilOp op false K
    | _, _, _ => none
  | .agg xs, .agg ys => match tab t, eqCells xs ys with | some ⟨_, z, _, _, true⟩, some b => if xs.length = z.length then nilOp op b K else none | _, _ => none
  | _, _ => none

variable (tab : Nat → Option TI) (gd : Nat → List C)

def sizeT (t : Nat) : Nat := match tab t with | some i => i.zero.length | none => 0

/-- Cells read as a value of a type. -/
def readC (t : Nat) (cs : List C) (off : Nat) (K : V → Option α) : Option α :=
  match tab t with
  | none => none
  | some i =>
    if off + i.zero.length ≤ cs.length ∧ i.zero.length ≠ 0 then
      if i.d.agg then K (.agg ((cs.drop off).take i.zero.length))
      else if i.zero.length = 1 then (match cs.drop off with | c :: _ => K (.one c) | [] => none) else none
    else none

def asI (k : IntKind) (c : C) (K : Int → Option α) : Option α :=
  match c with | .int k' n => if k' = k then K n else none | _ => none
def asB (c : C) (K : Bool → Option α) : Option α :=
  match c with | .bool b => K b | _ => none

def shapeC : List Sh → List C → (List C → Option α) → Option α
  | [], cs, K => match cs with | [] => K [] | _ :: _ => none
  | .int k :: sh, cs, K => match cs with | c :: cs => asI k c fun n => shapeC sh cs fun cs => K (.int k n :: cs) | [] => none
  | .bool :: sh, cs, K => match cs with | c :: cs => asB c fun b => shapeC sh cs fun cs => K (.bool b :: cs) | [] => none
  | .other :: sh, cs, K => match cs with | c :: cs => shapeC sh cs fun cs => K (c :: cs) | [] => none

def shape1 (t : Nat) (v : V) (K : V → Option α) : Option α :=
  match tab t with
  | none => none
  | some i =>
    if i.d.agg then (match v with | .agg cs => shapeC i.sh cs fun cs => K (.agg cs) | _ => none)
    else match v with | .one c => shapeC i.sh [c] (fun cs => match cs with | [c] => K (.one c) | _ => none) | _ => none

def shapeL : List Nat → List V → (List V → Option α) → Option α
  | [], vs, K => match vs with | [] => K [] | _ :: _ => none
  | t :: ts, vs, K => match vs with | v :: vs => shape1 tab t v fun v => shapeL ts vs fun vs => K (v :: vs) | [] => none

def shapeV (t : Nat) (v : V) (K : V → Option α) : Option α :=
  match tab t with
  | none => none
  | some i => match i.d with
    | .tup ts => (match v with | .tup vs => shapeL tab ts vs fun vs => K (.tup vs) | _ => none)
    | _ => shape1 tab t v K

def shapeB : List Box → List Box → (List Box → Option α) → Option α
  | [], bs, K => match bs with | [] => K [] | _ :: _ => none
  | (t, _) :: as, bs, K => match tab t with
    | none => none
    | some i => match bs with | (_, cs) :: bs => shapeC i.sh cs fun cs => shapeB as bs fun bs => K ((t, cs) :: bs) | [] => none

/-- No slice among the cells of a type. -/
def flatSh : List Sh → Bool
  | [] => true
  | .other :: _ => false
  | _ :: sh => flatSh sh
def flat1 (t : Nat) : Bool := match tab t with | some i => flatSh i.sh | none => false
def flatT (t : Nat) : Bool := match tab t with | some i => (match i.d with | .tup ts => ts.all (flat1 tab) | _ => flatSh i.sh) | none => false

def memAt (H : Heap) (id : Nat) : List C := match H.getD id .dead with | .mem _ cs => cs | _ => []

def rdS (H : Heap) (id : Nat) (sh : List Sh) (i : Nat) (K : List C → Option α) : Option α :=
  shapeC sh (((memAt H id).drop i).take sh.length) K

/-- The heap that elements are read of, and whether they may be. -/
def rdHeap (s : St) : Option Cx → Heap
  | some c => c.H0
  | none => s.H
def idxOk : Option Cx → Bool
  | some c => c.idx
  | none => true
def lkOf : Option Cx → Bool
  | some c => c.lk
  | none => false

def loadV (s : St) (cx : Option Cx) (t : Nat) (p : Ptr) (K : V → List Root → Option α) : Option α :=
  match p with
  | .loc b off => match s.L.getD b none with | some (_, cs) => readC tab t cs off fun v => K v [.l b] | none => none
  | .ref j off => match s.R[j]? with | some (_, cs) => readC tab t cs off fun v => K v [.r j] | none => none
  | .elt id i n => match tab t with
    | none => none
    | some ti =>
      if ti.sh.length = ti.zero.length ∧ ti.zero.length ≠ 0 ∧ ti.zero.length ≤ n ∧ idxOk cx = true then
        rdS (rdHeap s cx) id ti.sh i fun cs =>
          if ti.d.agg then K (.agg cs) [] else match cs with | [c] => K (.one c) [] | _ => none
      else none
  | .glob g off => readC tab t (gd g) off fun v => K v []
  | .nil => none

/-- A cell that leads nowhere. -/
def flatC : C → Bool
  | .int _ _ | .bool _ => true
  | _ => false

def putCells (cs : List C) (off : Nat) (xs : List C) : List C := cs.take off ++ xs ++ cs.drop (off + xs.length)

def storeV (s : St) (cx : Option Cx) (t : Nat) (p : Ptr) (xs : List C) (K : St → List Root → Option α) : Option α :=
  if xs.length = sizeT tab t ∧ xs.length ≠ 0 then
    match p with
    | .loc b off => match s.L.getD b none with
      | some (ty, cs) => if off + xs.length ≤ cs.length then K { s with L := s.L.set b (some (ty, putCells cs off xs)) } [.l b] else none
      | none => none
    | .ref j off => match s.R[j]? with
      | some (ty, cs) => if off + xs.length ≤ cs.length then K { s with R := s.R.set j (ty, putCells cs off xs) } [.r j] else none
      | none => none
    | .elt id i n => match s.H.getD id .dead with
      | .mem 2 cs => if xs.length ≤ n ∧ lkOf cx = false then
          bif xs.all flatC || decide (s.n0 ≤ id) then K { s with H := s.H.set id (.mem 2 (putCells cs i xs)) } [] else none
        else none
      | _ => none
    | _ => none
  else none

def killV (d : Nat) : V → V
  | .ptr (.loc s o) => if s = d then und else .ptr (.loc s o)
  | .clo f caps => if caps.contains d then und else .clo f caps
  | v => v

def newBox (s : St) (d : Nat) (t : Nat) (cs : List C) : St := { s with fr := s.fr.map (killV d), L := s.L.set d (some (t, cs)) }

def fieldOff (t f : Nat) : Option (Nat × Nat) := match tab t with | some i => (match i.d with | .struct fs => fs[f]? | _ => none) | none => none

def Ptr.add (p : Ptr) (n : Nat) : Ptr := match p with | .loc s o => .loc s (o + n) | .ref j o => .ref j (o + n) | .elt id i m => .elt id (i + n) (m - n) | .glob g o => .glob g (o + n) | .nil => .nil

def lenC : C → Option Int
  | .sl _ _ n _ => some n
  | .nsl => some 0
  | _ => none

/-- The address of an element. -/
def eltC (c : C) (sz : Nat) (i : Int) (K : Ptr → Option α) : Option α :=
  match c with
  | .sl id off len sz' => if sz = sz' then bif decide (0 ≤ i) && decide (i < len) then K (.elt id (off + i.toNat * sz) sz) else none else none
  | _ => none

def sliceC (c : C) (sz : Nat) (lo hi : Option Int) (K : C → Option α) : Option α :=
  match c with
  | .sl id off len sz' => if sz = sz' then
      bif decide (0 ≤ lo.getD 0) && decide (lo.getD 0 ≤ hi.getD len) && decide (hi.getD len ≤ len) then
        K (.sl id (off + (lo.getD 0).toNat * sz) (hi.getD len - lo.getD 0).toNat sz) else none
    else none
  | .nsl => bif decide (lo.getD 0 = 0) && decide (hi.getD 0 = 0) && decide (sz ≠ 0) then K .nsl else none
  | _ => none

/-- Arguments that a callee gets: boxes become references. -/
def argsIn (roots : List Root) : List V → Option (List V × List Root)
  | [] => some ([], roots)
  | v :: vs =>
    match v with
    | .ptr (.loc s 0) => (argsIn (if .l s ∈ roots then roots else roots ++ [.l s]) vs).map fun (ws, rs) => (.ptr (.ref (rs.idxOf (.l s)) 0) :: ws, rs)
    | .ptr (.ref j 0) => (argsIn (if .r j ∈ roots then roots else roots ++ [.r j]) vs).map fun (ws, rs) => (.ptr (.ref (rs.idxOf (.r j)) 0) :: ws, rs)
    | .ptr .nil => (argsIn roots vs).map fun (ws, rs) => (.ptr .nil :: ws, rs)
    | .one c => (argsIn roots vs).map fun (ws, rs) => (.one c :: ws, rs)
    | .agg cs => (argsIn roots vs).map fun (ws, rs) => (.agg cs :: ws, rs)
    | _ => none

def rootBox (s : St) : Root → Option Box
  | .l b => s.L.getD b none
  | .r j => s.R[j]?
def boxes (s : St) : List Root → Option (List Box)
  | [] => some []
  | r :: rs => match rootBox s r, boxes s rs with | some b, some bs => some (b :: bs) | _, _ => none
def putBoxes (s : St) : List Root → List Box → St
  | .l b :: rs, x :: xs => putBoxes { s with L := s.L.set b (some x) } rs xs
  | .r j :: rs, x :: xs => putBoxes { s with R := s.R.set j x } rs xs
  | _, _ => s

def lockB : Blk → Blk
  | .mem _ cs => .mem 0 cs
  | .map _ => .dead
  | .dead => .dead

def foldI (f : IntKind → Int → Int → C) : V → List V → (V → Option α) → Option α
  | .one (.int k x), [], K => K (.one (.int k x))
  | .one (.int k x), .one (.int _ y) :: vs, K => foldI f (.one (f k x y)) vs K
  | _, _, _ => none

/-- The cells that a slice reads as. -/
def cellsOfC (H : Heap) (sz : Nat) : C → Option (List C)
  | .sl id off len sz' => if sz = sz' ∧ off + len * sz ≤ (memAt H id).length then some (((memAt H id).drop off).take (len * sz)) else none
  | .nsl => some []
  | _ => none

def appendC (H : Heap) (n0 sz bytes : Nat) (c : C) (xs : List C) (K : C → Heap → Option α) : Option α :=
  match c with
  | .nsl => bif xs.length == 0 then K .nsl H else if xs.length / sz * (bytes + 1) ≤ 2 ^ 40 then K (.sl H.length 0 (xs.length / sz) sz) (H ++ [.mem 2 xs]) else none
  | .sl id off len sz' => bif xs.length == 0 then K (.sl id off len sz') H else
    match H.getD id .dead with
    | .mem kd cs => if off = 0 ∧ sz = sz' ∧ kd ≠ 0 ∧ (len + xs.length / sz) * (bytes + 1) ≤ 2 ^ 40 ∧ n0 ≤ id then
        if cs.length = len * sz then K (.sl id 0 (len + xs.length / sz) sz) (H.set id (.mem (if len = 0 then kd else 1) (cs ++ xs)))
        else if len * sz + xs.length ≤ cs.length ∧ (cs.drop (len * sz)).take xs.length = xs then K (.sl id 0 (len + xs.length / sz) sz) (H.set id (.mem 1 cs))
        else none
      else none
    | _ => none
  | _ => none

def copyC (H : Heap) (n0 sz : Nat) (c : C) (xs : List C) (K : Int → Heap → Option α) : Option α :=
  match c with
  | .nsl => K 0 H
  | .sl id off len sz' => match H.getD id .dead with
    | .mem 2 cs => if sz = sz' ∧ off + len * sz ≤ cs.length ∧ (xs.all flatC || decide (n0 ≤ id)) = true then
        K (min (xs.length / sz) len : Nat) (H.set id (.mem 2 (putCells cs off (xs.take (min (xs.length / sz) len * sz))))) else none
    | _ => none
  | _ => none

variable (call : Nat → List V → List Box → Heap → Option Res)

/-- The heap behind a call: what was there is as it was, where the call was locked; new blocks are let go, where nothing can lead to them. -/
def heapBack (lk gone : Bool) (H H' : Heap) : Heap :=
  match lk, gone with
  | true, true => H
  | true, false => H ++ H'.drop H.length
  | false, true => H'.take H.length
  | false, false => H'

/-- A slice of what leads nowhere. -/
def newT (t : Nat) : Bool := match tab t with | some i => (match i.d with | .slice e => flat1 tab e | _ => false) | none => false

/-- A slice that a call hands back, over the whole of a new block: nothing else leads there. -/
def freshC (n : Nat) (c : C) (H' : Heap) : C × Heap :=
  match c with
  | .sl id 0 len sz => match H'.getD id .dead with
    | .mem _ cs => bif decide (n ≤ id) && (cs.length == len * sz) && cs.all flatC then (.sl n 0 len sz, H'.take n ++ [.mem 2 cs]) else (c, H')
    | _ => (c, H')
  | _ => (c, H')
def freshR (n : Nat) (r : V) (H' : Heap) : V × Heap :=
  match r with
  | .one c => (.one (freshC n c H').1, (freshC n c H').2)
  | r => (r, H')

def callV (lk : Bool) (g : Nat) (args : List V) (ty : Nat) (s : St) (K : V → St → List Root → Option α) : Option α :=
  match argsIn [] args with
  | none => none
  | some (ws, roots) => match boxes s roots with
    | none => none
    | some bs => (call g ws bs (if lk then s.H.map lockB else s.H)).bind fun (r, bs', H') =>
        shapeV tab ty r fun r => shapeB tab bs bs' fun bs' =>
          if lk = false ∧ bs.all (fun b => flat1 tab b.1) = true ∧ newT tab ty = true then
            K (freshR s.H.length r H').1 { putBoxes s roots bs' with H := (freshR s.H.length r H').2 } roots
          else
            K r { putBoxes s roots bs' with H := heapBack lk (flatT tab ty && bs.all (fun b => flat1 tab b.1)) s.H H' } roots

def partsIn (fr : List V) : List (Nat × Operand) → Option (List (Nat × List C))
  | [] => some []
  | (i, x) :: ps => match (opnd fr x).cells, partsIn fr ps with | some cs, some r => some ((i, cs) :: r) | _, _ => none

def fillC (place : Nat → Option (Nat × Nat)) : List C → List (Nat × List C) → Option (List C)
  | cs, [] => some cs
  | cs, (i, xs) :: ps => match place i with
    | some (off, sz) => if xs.length = sz ∧ sz ≠ 0 ∧ off + sz ≤ cs.length then fillC place (putCells cs off xs) ps else none
    | none => none

def repC (z : List C) : Nat → List C
  | 0 => []
  | n + 1 => z ++ repC z n

def builtinV (cx : Option Cx) (b : Builtin) (c : Call) (s : St) (K : V → St → Option α) : Option α :=
  match b, c.args.toList.map (opnd s.fr) with
  | .len, [.one x] => match (c.argTypes[0]?).bind tab, lenC x with | some ⟨.slice _, _, _, _, _⟩, some n => K (.one (.int .i64 n)) s | _, _ => none
  | .max, v :: vs => foldI maxI v vs fun v => K v s
  | .min, v :: vs => foldI minI v vs fun v => K v s
  | .append, [.one x, .one y] => match (c.argTypes[0]?).bind tab, (c.argTypes[1]?).bind tab with
    | some ⟨.slice e, _, _, _, _⟩, some ⟨.slice _, _, _, _, _⟩ => (match tab e with
      | some ti => match cellsOfC s.H ti.zero.length y with
        | some xs => if ti.zero.length = 0 then none else appendC s.H s.n0 ti.zero.length ti.bytes x xs fun v H => K (.one v) { s with H := H }
        | none => none
      | none => none)
    | _, _ => none
  | .copy, [.one x, .one y] => match (c.argTypes[0]?).bind tab with
    | some ⟨.slice e, _, _, _, _⟩ => (match tab e with
      | some ti => match cellsOfC s.H ti.zero.length y with
        | some xs => if ti.zero.length = 0 ∨ lkOf cx = true then none else copyC s.H s.n0 ti.zero.length x xs fun n H => K (.one (.int .i64 n)) { s with H := H }
        | none => none
      | none => none)
    | _ => none
  | _, _ => none

def bndV (fr : List V) : Option Operand → Option (Option Int)
  | none => some none
  | some y => match opnd fr y with | .one (.int _ n) => some (some n) | _ => none

def sliceV (s : St) (t : Nat) (x lo hi mx : Option Operand) (K : C → Option α) : Option α :=
  match tab t, (x.map (opnd s.fr)), bndV s.fr lo, bndV s.fr hi, bndV s.fr mx with
  | some ⟨.slice e, _, _, _, _⟩, some (.one c), some l, some h, some none => sliceC c (sizeT tab e) l h K
  | some ⟨.slice e, _, _, _, _⟩, some (.one c), some l, some (some h), some (some m) => bif m == h then sliceC c (sizeT tab e) l (some h) K else none
  | _, _, _, _, _ => none

def makeV (cx : Option Cx) (s : St) (ti : TI) (n m : Int) (K : V → St → Option α) : Option α :=
  bif decide (0 ≤ n) && decide (n ≤ m) && decide (m ≤ 2 ^ 40) && decide (m * ti.bytes ≤ 2 ^ 40) && !ti.zero.isEmpty then
    match cx with
    | none => K (.one (.sl s.H.length 0 n.toNat ti.zero.length)) { s with H := s.H ++ [.mem 2 (repC ti.zero n.toNat)] }
    | some c => K (.one (.sl c.id 0 n.toNat ti.zero.length)) s
  else none

/-- A map of integers and bools. -/
def mapT (t : Nat) : Bool := match tab t with
  | some ⟨.map k e, _, _, _, _⟩ => (match tab k, tab e with | some ⟨.int .i64, _, _, _, _⟩, some ⟨.bool, [.bool false], _, _, _⟩ => true | _, _ => false)
  | _ => false

def capsIn (fr : List V) : List Operand → Option (List Nat)
  | [] => some []
  | x :: xs => match opnd fr x, capsIn fr xs with | .ptr (.loc b 0), some r => some (b :: r) | _, _ => none

def act (cx : Option Cx) (o : Oper) (s : St) (K : V → St → List Root → List Root → Option α) : Option α :=
  match o.op with
  | .move x | .assign x => K (opnd s.fr x) s [] []
  | .pick c a b => match opnd s.fr c with | .one (.bool t) => bif t then K (opnd s.fr a) s [] [] else K (opnd s.fr b) s [] [] | _ => none
  | .alloc e => match o.dst, tab e with
    | some d, some ti => if ti.zero.length = 0 then none else if cx.isSome then K (.ptr (.loc d 0)) s [] [] else K (.ptr (.loc d 0)) (newBox s d e ti.zero) [] [.l d]
    | _, _ => none
  | .box e x => match o.dst, (opnd s.fr x).cells with
    | some d, some cs => if cx.isSome then none else if cs.length = sizeT tab e ∧ cs.length ≠ 0 then K (.ptr (.loc d 0)) (newBox s d e cs) [] [.l d] else none
    | _, _ => none
  | .build t ps => match tab t, partsIn s.fr ps.toList with
    | some ti, some ps => match (match ti.d with
        | .struct fs => fillC (fun i => (fs[i]?).map fun (off, ft) => (off, sizeT tab ft)) ti.zero ps
        | .arr _ e => if sizeT tab e = 0 then none else fillC (fun i => some (i * sizeT tab e, sizeT tab e)) ti.zero ps
        | _ => none) with
      | some cs => K (.agg cs) s [] []
      | none => none
    | _, _ => none
  | .buildSlice t len ps => match tab t, partsIn s.fr ps.toList with
    | some ⟨.slice e, _, _, _, _⟩, some ps => (match tab e with
      | some ti => match fillC (fun i => some (i * ti.zero.length, ti.zero.length)) (repC ti.zero len) ps with
        | some cs => if len * ti.zero.length ≤ 1000 ∧ ti.zero.length ≠ 0 then K (.one (.sl s.H.length 0 len ti.zero.length)) { s with H := s.H ++ [.mem 2 cs] } [] [] else none
        | none => none
      | none => none)
    | _, _ => none
  | .load t a => match opnd s.fr a with | .ptr p => loadV tab gd s cx t p fun v rd => K v s rd [] | _ => none
  | .store t a x => match opnd s.fr a, (opnd s.fr x).cells with | .ptr p, some xs => storeV tab s cx t p xs fun s wr => K (.tup []) s [] wr | _, _ => none
  | .nilCheck x => match opnd s.fr x with
    | .ptr p => (match p with | .nil => none | p => K (.ptr p) s [] [])
    | .clo f caps => K (.clo f caps) s [] []
    | .one (.fn f) => K (.one (.fn f)) s [] []
    | _ => none
  | .binOp op t x y _ => binV tab t op (opnd s.fr x) (opnd s.fr y) fun c => K (.one c) s [] []
  | .unOp op _ x => match op, opnd s.fr x with
    | .not, .one (.bool b) => K (.one (.bool (!b))) s [] []
    | .neg, .one (.int k n) => K (.one (.int k (k.wrap (0 - n)))) s [] []
    | _, _ => none
  | .convert u t x => match tab u, tab t, opnd s.fr x with
    | some ⟨.int _, _, _, _, _⟩, some ⟨.int k, _, _, _, _⟩, .one (.int _ n) => K (.one (.int k (k.wrap n))) s [] []
    | _, _, _ => none
  | .makeSlice t l c => match tab t, opnd s.fr l, opnd s.fr c with
    | some ⟨.slice e, _, _, _, _⟩, .one (.int _ n), .one (.int _ m) => (match tab e with
      | some ti => makeV cx s ti n m fun v s => K v s [] []
      | none => none)
    | _, _, _ => none
  | .slice t x lo hi mx => sliceV tab s t (some x) lo hi mx fun c => K (.one c) s [] []
  | .fieldAddr t x f => match opnd s.fr x, fieldOff tab t f with | .ptr p, some (off, _) => (match p with | .nil => none | p => K (.ptr (p.add off)) s [] []) | _, _ => none
  | .field t x f => match opnd s.fr x, fieldOff tab t f with | .agg cs, some (off, ft) => readC tab ft cs off fun v => K v s [] [] | _, _ => none
  | .indexAddr t x i => match tab t, opnd s.fr x, opnd s.fr i with
    | some ⟨.slice e, _, _, _, _⟩, .one c, .one (.int _ n) => eltC c (sizeT tab e) n fun p => K (.ptr p) s [] []
    | some ⟨.arr len e, _, _, _, _⟩, .ptr p, .one (.int _ n) => (match p with | .nil => none | p => bif decide (0 ≤ n) && decide (n < len) && decide (sizeT tab e ≠ 0) then K (.ptr (p.add (n.toNat * sizeT tab e))) s [] [] else none)
    | _, _, _ => none
  | .index t x i => match tab t, opnd s.fr x, opnd s.fr i with
    | some ⟨.arr len e, _, _, _, _⟩, .agg cs, .one (.int _ n) => bif decide (0 ≤ n) && decide (n < len) then readC tab e cs (n.toNat * sizeT tab e) fun v => K v s [] [] else none
    | _, _, _ => none
  | .extract x i => match opnd s.fr x with | .tup vs => (match vs[i]? with | some v => K v s [] [] | none => none) | _ => none
  | .makeFunc fn first captured => match fn, first.toList, capsIn s.fr captured.toList with
    | .func f, [], some caps => K (.clo f caps) s [] []
    | _, _, _ => none
  | .makeMap t r => match tab t, r with
    | some ⟨.map _ _, _, _, _, _⟩, none => if cx.isSome then none else K (.one (.mp s.H.length)) { s with H := s.H ++ [.map []] } [] []
    | _, _ => none
  | .lookup t x i ok => match mapT tab t, opnd s.fr x, opnd s.fr i, ok with
    | true, .one (.mp id), .one (.int .i64 k), false =>
      (match (rdHeap s cx).getD id .dead with
      | .map es => if idxOk cx = true then K (.one (.bool (findM es k))) s [] [] else none
      | _ => none)
    | _, _, _, _ => none
  | .mapUpdate t m k x => match mapT tab t, opnd s.fr m, opnd s.fr k, opnd s.fr x with
    | true, .one (.mp id), .one (.int .i64 k), .one (.bool b) =>
      (match s.H.getD id .dead with
      | .map es => if lkOf cx = true then none else K (.tup []) { s with H := s.H.set id (.map (insM es k b)) } [] []
      | _ => none)
    | _, _, _, _ => none
  | .call c => match c.callee with
    | .builtin b => builtinV tab cx b c s fun v s => K v s [] []
    | .value f => match opnd s.fr f with
      | .one (.fn g) => callV tab call (lkOf cx) g (c.args.toList.map (opnd s.fr)) o.type s fun v s rs => K v s rs rs
      | .clo g caps => callV tab call (lkOf cx) g (c.args.toList.map (opnd s.fr) ++ caps.map fun b => .ptr (.loc b 0)) o.type s fun v s rs => K v s rs rs
      | _ => none
    | _ => none
  | _ => none

def St.put (s : St) (d : Option Nat) (v : V) : St := match d with | some d => { s with fr := s.fr.set d v } | none => s

def dstOf (ops : List Oper) (g : Nat) : Option Nat := (ops[g]?).bind (·.dst)

/-- Does a guard let an operation run? The test's answer is written down. -/
def guardK (ops : List Oper) (g : Option (Nat × Bool)) (s : St) (yes no : St → Option α) : Option α :=
  match g with
  | none => yes s
  | some (j, want) => match dstOf ops j with
    | none => no s
    | some t => match s.fr.getD t und with
      | .one (.bool b) => bif b then (if want then yes (s.put (some t) (.one (.bool true))) else no (s.put (some t) (.one (.bool true))))
          else (if want then no (s.put (some t) (.one (.bool false))) else yes (s.put (some t) (.one (.bool false))))
      | .tup [] => no s
      | _ => none

def evOps (ops : List Oper) : List Oper → St → (St → Option α) → Option α
  | [], s, K => K s
  | o :: rest, s, K => guardK ops o.guard s
      (fun s => act tab gd call none o s fun v s _ _ => evOps ops rest (s.put o.dst v) K)
      (fun s => evOps ops rest (s.put o.dst (.tup [])) K)

/-! Drawing regions. -/
def befores (ops : List Oper) : List Nat := ops.foldl (fun acc o =>
  acc ++ [o.after.toList.foldl (fun m e => (match e.ground with | .textOnly _ | .gcOnly _ => m | _ => m ||| 2 ^ e.on ||| acc.getD e.on 0)) 0]) []

inductive OKind where
  | rd | hrd | eff | bad
  deriving DecidableEq
/-- Reads and what touches no memory; reads of what may be an element; effects; what no drawing region may hold. -/
def kindOf (o : Oper) : OKind :=
  match o.op with
  | .load _ _ | .lookup _ _ _ _ => .hrd
  | .store _ _ _ | .buildSlice _ _ _ | .mapUpdate _ _ _ _ => .eff
  | .box _ _ | .makeMap _ _ => .bad
  | .call c => (match c.callee with
    | .builtin b => (match b with | .append | .copy => .eff | .len | .max | .min => .rd | _ => .bad)
    | _ => .eff)
  | _ => .rd
def isMake (o : Oper) : Bool := match o.op with | .makeSlice _ _ _ => true | _ => false
def isIdx (o : Oper) : Bool := match o.op with | .indexAddr _ _ _ | .lookup _ _ _ _ => true | _ => false

/-- What each operation has read and written, and to which boxes its result leads. -/
abbrev Log := List (List Root × List Root × List Nat)
def locsOf : V → List Nat
  | .ptr (.loc b _) => [b]
  | .clo _ caps => caps
  | _ => []

/-- What is the same for all operations of a drawing region. -/
structure Rg where
  ops : List Oper
  bs : List Nat
  idx : Bool
def rgOf (ops : List Oper) : Rg := { ops, bs := befores ops, idx := ops.any isIdx }

/-- All that may read an element stands ahead of the i-th operation. -/
def hrdsAhead (g : Rg) (i : Nat) : Bool := g.ops.zipIdx.all fun (o, j) => !decide (kindOf o = .hrd) || (g.bs.getD i 0).testBit j
def makesAhead (g : Rg) (i : Nat) : Nat := ((g.ops.take i).filter isMake).length
def cxOf (g : Rg) (n1 : Nat) (H0 : Heap) (i : Nat) : Cx :=
  { H0, idx := g.idx, lk := g.idx && !hrdsAhead g i, id := n1 + makesAhead g i }

def evDraw (g : Rg) (n1 : Nat) (H0 : Heap) : List Oper → Nat → Log → St → (Log → St → Option α) → Option α
  | [], _, lg, s, K => K lg s
  | o :: rest, i, lg, s, K => guardK g.ops o.guard s
      (fun s => act tab gd call (some (cxOf g n1 H0 i)) o s fun v s rd wr => evDraw g n1 H0 rest (i + 1) (lg ++ [(rd, wr, locsOf v)]) (s.put o.dst v) K)
      (fun s => evDraw g n1 H0 rest (i + 1) (lg ++ [([], [], [])]) (s.put o.dst (.tup [])) K)

/-- Nothing that is read is written by what needn't stand on the same side of it. -/
def logOk (bs : List Nat) (lg : Log) : Bool :=
  lg.zipIdx.all fun (x, i) => (lg.take i).zipIdx.all fun (y, j) => (bs.getD i 0).testBit j || (x.1.all (fun r => !y.2.1.contains r) && y.1.all (fun r => !x.2.1.contains r))
/-- What has to do with a box that a drawing region makes stands behind its making. -/
def allocOk (ops : List Oper) (bs : List Nat) (lg : Log) : Bool :=
  ops.zipIdx.all fun (o, k) => match o.op, o.dst with
    | .alloc _, some d => lg.zipIdx.all fun (x, i) => i == k || (bs.getD i 0).testBit k || !(x.1.contains (.l d) || x.2.1.contains (.l d) || x.2.2.contains d)
    | _, _ => true

/-- The form of a drawing region: edges lead back; temporaries are kept apart; effects stand in a row; nothing that it may not hold. -/
def tmpsOf (o : Oper) : List Nat := o.op.operands.toList.filterMap fun x => match x with | .tmp t => some t | _ => none
def looks (ops : List Oper) (o : Oper) : List Nat := tmpsOf o ++ (match o.guard with | some (g, _) => (dstOf ops g).toList | none => [])
def apartB (ops : List Oper) (x y : Oper) : Bool :=
  (match x.dst with | some d => !(looks ops y).contains d | none => true) &&
  (match y.dst with | some d => !(looks ops x).contains d | none => true)
def formOk (g : Rg) : Bool :=
  g.ops.zipIdx.all fun (o, i) =>
    decide (kindOf o ≠ .bad) && (match o.op with | .alloc _ | .makeSlice _ _ _ => o.guard.isNone && o.dst.isSome | _ => true) && o.after.toList.all (fun e => (match e.ground with | .textOnly _ | .gcOnly _ => true | _ => decide (e.on < i))) && (match o.guard with | some (j, _) => (g.bs.getD i 0).testBit j | none => true) &&
    (g.ops.take i).zipIdx.all fun (p, j) => (match o.dst with | some d => p.dst != some d | none => true) && ((g.bs.getD i 0).testBit j || (apartB g.ops o p && !(decide (kindOf o = .eff) && decide (kindOf p = .eff))))

def allocsOf (ops : List Oper) : List (Nat × Nat) := ops.filterMap fun o => match o.op, o.dst with | .alloc e, some d => some (d, e) | _, _ => none
def layAllocs : List (Nat × Nat) → St → (St → Option α) → Option α
  | [], s, K => K s
  | (d, e) :: as, s, K => match tab e with | some ti => layAllocs as (newBox s d e ti.zero) K | none => none

def makesOf (ops : List Oper) : List (Nat × Nat) := ops.filterMap fun o => match o.op, o.dst with | .makeSlice t _ _, some d => some (d, t) | _, _ => none
/-- Room for the blocks of the slices that a drawing region makes. -/
def holdH (H : Heap) : Nat → Heap
  | 0 => H
  | n + 1 => holdH (H ++ [.dead]) n
/-- The made blocks are filled. -/
def fillMade (fr : List V) (id : Nat) : List (Nat × Nat) → Heap → Option Heap
  | [], H => some H
  | (d, t) :: ms, H => match tab t, fr.getD d und with
    | some ⟨.slice e, _, _, _, _⟩, .one (.sl _ _ n _) => (match tab e with
      | some ti => fillMade fr (id + 1) ms (H.set id (.mem 2 (repC ti.zero n)))
      | none => none)
    | _, .tup [] => fillMade fr (id + 1) ms H
    | _, _ => none

def keepAt {β : Type} (ks : List Nat) (d : β) : Nat → List β → List β
  | _, [] => []
  | i, x :: xs => (if ks.contains i then x else d) :: keepAt ks d (i + 1) xs
/-- At a region's start all is forgotten but for some slots and boxes, where the table says so: so that ways meet. -/
def scrub (x : Option (List Nat × List Nat)) (s : St) : St :=
  match x with
  | none => s
  | some (a, b) => { s with fr := keepAt a und 0 s.fr, L := keepAt b none 0 s.L }

def evRegion (ops : List Oper) (draw : Bool) (s : St) (K : St → Option α) : Option α :=
  if draw then
    if formOk (rgOf ops) then
      layAllocs tab (allocsOf ops) s fun s =>
        evDraw tab gd call (rgOf ops) s.H.length (holdH s.H (makesOf ops).length) ops 0 [] { s with H := holdH s.H (makesOf ops).length } fun lg s1 =>
          if logOk (befores ops) lg && allocOk ops (befores ops) lg then (fillMade tab s1.fr s.H.length (makesOf ops) s1.H).bind fun H => K { s1 with H := H } else none
    else none
  else evOps tab gd call ops ops s K

variable (scr : Nat → Option (List Nat × List Nat)) (N : Nat)

def evK : Code → St → (X → St → Option α) → Option α
  | .skip, s, K => K .normal s
  | .label _, s, K => K .normal s
  | .region id ops draw, s, K => evRegion tab gd call ops.toList draw (scrub (scr (3 * id)) s) fun s => K .normal s
  | .seq a b, s, K => evK a s fun x s => match x with | .normal => evK b s K | .exit j => K (.exit j) s | .ret => K .ret s
  | .cond c a b, s, K => match c with
    | .tmp t => (match s.fr.getD t und with
      | .one (.bool v) => bif v then evK a (s.put (some t) (.one (.bool true))) K else evK b (s.put (some t) (.one (.bool false))) K
      | _ => none)
    | _ => none
  | .block id c, s, K => evK c s fun x s => match x with | .normal => K .normal s | .exit j => if j = id then K .normal s else K (.exit j) s | .ret => K .ret s
  | .loop c, s, K => Nat.rec (motive := fun _ => St → Option α) (fun _ => none) (fun _ ih s => evK c s fun x s => match x with | .normal => ih s | .exit j => K (.exit j) s | .ret => K .ret s) N s
  | .scope c, s, K => evK c s K
  | .exit id, s, K => K (.exit id) (scrub (scr (3 * id + 1)) s)
  | .ret, s, K => K .ret (scrub (scr 2) s)
  | _, _, _ => none

def resV (s : St) : ResultVar → (V → Option α) → Option α
  | .tmp t, K => K (s.fr.getD t und)
  | .cell a t, K => match s.fr.getD a und with | .ptr p => loadV tab gd s none t p fun v _ => K v | _ => none

def resL (s : St) : List ResultVar → (List V → Option α) → Option α
  | [], K => K []
  | r :: rs, K => resV tab gd s r fun v => resL s rs fun vs => K (v :: vs)

def plain1 : V → Bool
  | .one _ | .agg _ => true
  | _ => false

end

variable (tab : Nat → Option TI) (gd : Nat → List C)

def leave (rs : List ResultVar) (s : St) : Option Res :=
  resL tab gd s rs fun vs => match vs with
    | [v] => if plain1 v then some (v, s.R, s.H) else none
    | vs => if vs.all plain1 then some (.tup vs, s.R, s.H) else none

structure Env where
  P : Program
  tab : Nat → Option TI
  gd : Nat → List C
  scr : Nat → Nat → Option (List Nat × List Nat)
  ext : Nat → Option Nat
  N : Nat

def two64 : Int := 18446744073709551616
/-- math/bits by their contracts: 0 Add64, 1 Sub64, 3 Len64. -/
def extV (e : Nat) (args : List V) : Option V :=
  match e, args with
  | 0, [.one (.int .u64 x), .one (.int .u64 y), .one (.int .u64 c)] => bif decide (0 ≤ x) && decide (0 ≤ y) && decide (0 ≤ c) && decide (c ≤ 1) then some (.tup [.one (.int .u64 ((x + y + c) % two64)), .one (.int .u64 ((x + y + c) / two64))]) else none
  | 1, [.one (.int .u64 x), .one (.int .u64 y), .one (.int .u64 c)] => bif decide (0 ≤ x) && decide (0 ≤ y) && decide (y < two64) && decide (0 ≤ c) && decide (c ≤ 1) then some (.tup [.one (.int .u64 ((x - y - c) % two64)), .one (.int .u64 (bif decide (x < y + c) then 1 else 0))]) else none
  | 3, [.one (.int .u64 x)] => bif decide (0 ≤ x) && decide (x < two64) then some (.one (.int .i64 (bif x == 0 then 0 else (x.toNat.log2 + 1 : Nat)))) else none
  | _, _ => none

def entry (args : List V) (n : Nat) (R : List Box) (H : Heap) : St :=
  { fr := args ++ List.replicate (n - args.length) (.tup []), L := List.replicate n none, R, H, n0 := H.length }

def ev (E : Env) : Nat → Nat → List V → List Box → Heap → Option Res
  | 0, _, _, _, _ => none
  | d + 1, f, args, R, H =>
    match E.ext f with
    | some e => (extV e args).map fun v => (v, R, H)
    | none => match E.P.funcs[f]? with
      | some fn => (match fn.body with
        | some c =>
          evK E.tab E.gd (ev E d) (E.scr f) E.N c (entry args fn.ntmps R H) fun x s => match x with
            | .normal | .ret => leave E.tab E.gd fn.results.toList s
            | .exit _ => none
        | none => none)
      | none => none
end Go.Ev
end

section
set_option linter.all false
/- How an abstract state stands to the world; what is kept. -/
namespace Go.Ev

/-- Two lists, place by place. -/
inductive All2 {α β : Type} (R : α → β → Prop) : List α → List β → Prop
  | nil : All2 R [] []
  | cons {a b as bs} : R a b → All2 R as bs → All2 R (a :: as) (b :: bs)

section
variable {α β : Type} {R R' : α → β → Prop}
theorem All2.length {as : List α} {bs : List β} (h : All2 R as bs) : as.length = bs.length := by
  induction h with
  | nil => rfl
  | cons _ _ ih => simp [ih]
theorem All2.mono {as : List α} {bs : List β} (h : All2 R as bs) (hr : ∀ a b, R a b → R' a b) : All2 R' as bs := by
  induction h with
  | nil => exact .nil
  | cons h1 _ ih => exact .cons (hr _ _ h1) ih
theorem All2.get {as : List α} {bs : List β} (h : All2 R as bs) : ∀ (i : Nat) (a : α), as[i]? = some a → ∃ b, bs[i]? = some b ∧ R a b := by
  induction h with
  | nil => intro i a h; simp at h
  | cons h1 _ ih =>
    intro i a hi
    cases i with
    | zero => simp at hi; subst hi; exact ⟨_, by simp, h1⟩
    | succ i => simpa using ih i a (by simpa using hi)
theorem All2.of_get {as : List α} {bs : List β} (hl : as.length = bs.length) (h : ∀ (i : Nat) (a : α) (b : β), as[i]? = some a → bs[i]? = some b → R a b) : All2 R as bs := by
  induction as generalizing bs with
  | nil => cases bs with
    | nil => exact .nil
    | cons b bs => simp at hl
  | cons a as ih => cases bs with
    | nil => simp at hl
    | cons b bs => exact .cons (h 0 a b (by simp) (by simp)) (ih (by simpa using hl) fun i a b ha hb => h (i + 1) a b (by simpa using ha) (by simpa using hb))
theorem All2.append {as as' : List α} {bs bs' : List β} (h : All2 R as bs) (h' : All2 R as' bs') : All2 R (as ++ as') (bs ++ bs') := by
  induction h with
  | nil => exact h'
  | cons h1 _ ih => exact .cons h1 ih
theorem All2.take {as : List α} {bs : List β} (h : All2 R as bs) (n : Nat) : All2 R (as.take n) (bs.take n) := by
  induction h generalizing n with
  | nil => simp; exact .nil
  | cons h1 _ ih => cases n with
    | zero => simp; exact .nil
    | succ n => simp; exact .cons h1 (ih n)
theorem All2.drop {as : List α} {bs : List β} (h : All2 R as bs) (n : Nat) : All2 R (as.drop n) (bs.drop n) := by
  induction h generalizing n with
  | nil => simp; exact .nil
  | cons h1 h2 ih => cases n with
    | zero => simp; exact .cons h1 h2
    | succ n => simpa using ih n
theorem All2.set {as : List α} {bs : List β} (h : All2 R as bs) (i : Nat) {a : α} {b : β} (hab : R a b) : All2 R (as.set i a) (bs.set i b) := by
  induction h generalizing i with
  | nil => simp; exact .nil
  | cons h1 h2 ih => cases i with
    | zero => simp; exact .cons hab h2
    | succ i => simp; exact .cons h1 (ih i)
theorem All2.replicate {a : α} {b : β} (h : R a b) (n : Nat) : All2 R (List.replicate n a) (List.replicate n b) := by
  induction n with
  | zero => exact .nil
  | succ n ih => exact .cons h ih
end

/-- A concrete block that bears an abstract block's cells: where it begins in it, how many of its cells are good, how many cells there are. -/
structure Cp where
  g : Nat
  base : Nat
  p : Nat
  tot : Nat

/-- Who owns a concrete block. -/
inductive Own where
  | none | box (s : Nat) | ref (j : Nat) | heap (id : Nat)
  deriving DecidableEq

/-- How an activation's abstract names stand to the world. -/
structure Nm where
  lb : Nat → Nat
  rf : Nat → Nat
  hp : Nat → List Cp
  own : Nat → Own

/-- A cell and a value; n: the numbers of blocks that it may lead to are below that. -/
def CR (hp : Nat → List Cp) (n : Nat) : C → Value → Prop
  | .int k a, x => x = .int k a
  | .bool b, x => x = .bool b
  | .sl id off len sz, x => id < n ∧ 0 < sz ∧ ∃ c ∈ hp id, ∃ cap a, x = .slice (some ⟨c.g, a, none⟩) len cap ∧ (a = c.base + off ∨ cap = 0) ∧ off + len * sz ≤ c.p ∧ off + cap * sz ≤ c.tot ∧ len ≤ cap
  | .nsl, x => x = .slice none 0 0
  | .fn f, x => x = .func (.func f) #[] #[]
  | .mp id, x => id < n ∧ ∃ c ∈ hp id, x = .map (some c.g)
  | .und, x => x.oneCell' = true

def PR (m : Nm) (n : Nat) : Ptr → Value → Prop
  | .loc s off, x => x = .pointer (some ⟨m.lb s, off, none⟩)
  | .ref j off, x => x = .pointer (some ⟨m.rf j, off, none⟩)
  | .elt id i k, x => id < n ∧ ∃ c ∈ m.hp id, x = .pointer (some ⟨c.g, c.base + i, none⟩) ∧ (i + k ≤ c.p ∨ k = 0)
  | .glob g off, x => x = .pointer (some ⟨g, off, none⟩)
  | .nil, x => x = .pointer none

def VR1 (m : Nm) (n : Nat) : V → Value → Prop
  | .one c, x => CR m.hp n c x
  | .agg cs, x => ∃ xs : List Value, x = .agg xs.toArray ∧ All2 (CR m.hp n) cs xs
  | _, _ => False

def VR (m : Nm) (n : Nat) : V → Value → Prop
  | .one c, x => CR m.hp n c x
  | .ptr p, x => PR m n p x
  | .clo f caps, x => x = .func (.func f) #[] (caps.map fun b => Value.pointer (some ⟨m.lb b, 0, none⟩)).toArray
  | .agg cs, x => ∃ xs : List Value, x = .agg xs.toArray ∧ All2 (CR m.hp n) cs xs
  | .tup vs, x => ∃ xs : List Value, x = .tuple xs.toArray ∧ All2 (VR1 m n) vs xs
  | .any, _ => True

/-- A block of the world holds such cells, and nothing of it is shut. -/
def BoxAt (hp : Nat → List Cp) (n : Nat) (w : World) (g : Nat) (cs : List C) : Prop :=
  ∃ xs : List Value, ∃ t, w.heap[g]? = some (.cells xs.toArray t (0, 0)) ∧ All2 (CR hp n) cs xs

/-- The entries of a map that bears integers and bools. -/
def MapAt (w : World) (g : Nat) (es : List (Int × Bool)) : Prop :=
  ∃ (ms : List MapEntry) (clock : Nat), w.heap[g]? = some (.map ms.toArray clock) ∧ ms.map (fun e => (e.key, e.val)) = es.map fun e => (Value.int .i64 e.1, Value.bool e.2)

/-- A concrete block bears the first cells of an abstract one. -/
def CpAt (hp : Nat → List Cp) (n : Nat) (w : World) (c : Cp) (kd : Nat) (cs : List C) : Prop :=
  c.p ≤ cs.length ∧ c.p ≤ c.tot ∧
  ∃ (xs : Array Value) (t : TypeId) (fz : Nat × Nat), w.heap[c.g]? = some (.cells xs t fz) ∧ c.base + c.tot ≤ xs.size ∧
    (∀ j a, j < c.p → cs[j]? = some a → ∃ x, xs[c.base + j]? = some x ∧ CR hp n a x) ∧
    (kd ≠ 0 → c.base = 0 ∧ fz = (0, 0))

/-- The heap: each block's cells, as far as the world's copies are good. B id: the numbers that a block's cells may lead to are below that. -/
structure HRel (m : Nm) (w : World) (H : Heap) (B : Nat → Nat) : Prop where
  cells : ∀ id kd cs, H[id]? = some (.mem kd cs) → ∀ c ∈ m.hp id, CpAt m.hp (B id) w c kd cs
  one : ∀ id cs, H[id]? = some (.mem 2 cs) → ∃ g, ∀ c ∈ m.hp id, 0 < c.p → c.g = g ∧ c.p = cs.length
  own : ∀ id kd cs, H[id]? = some (.mem kd cs) → kd ≠ 0 → ∀ c ∈ m.hp id, m.own c.g = .heap id
  ro : ∀ (id : Nat) (cs : List C), H[id]? = some (.mem 0 cs) → ∀ c ∈ m.hp id, m.own c.g = .none
  map : ∀ id es, H[id]? = some (.map es) → ∀ c ∈ m.hp id, MapAt w c.g es ∧ m.own c.g = .heap id
  mone : ∀ id es, H[id]? = some (.map es) → ∃ g, ∀ c ∈ m.hp id, c.g = g

/-- The bound of a block's cells: of what an activation found as it was, of its own blocks all. -/
def bnd (B : Nat → Nat) (n0 n id : Nat) : Nat := if id < n0 then B id else n

/-- A global of known cells. -/
def GlobAt (w : World) (g : Nat) (cs : List C) : Prop :=
  ∃ (xs : List Value) (t : TypeId) (fz : Nat × Nat), w.heap[g]? = some (.cells xs.toArray t fz) ∧ All2 (CR (fun _ => []) 0) cs xs

/-- An abstract state and the machine's: vs: boxes that are laid in the abstract state alone. -/
structure SRel (gd : Nat → List C) (B : Nat → Nat) (vs : List Nat) (m : Nm) (s : St) (a : Act) (w : World) : Prop where
  fr : All2 (VR m s.H.length) s.fr a.tmps.toList
  box : ∀ b t cs, s.L[b]? = some (some (t, cs)) → b ∉ vs → BoxAt m.hp s.H.length w (m.lb b) cs ∧ m.own (m.lb b) = .box b
  ref : ∀ j t cs, s.R[j]? = some (t, cs) → BoxAt m.hp s.H.length w (m.rf j) cs ∧ m.own (m.rf j) = .ref j
  heap : HRel m w s.H (bnd B s.n0 s.H.length)
  n0 : s.n0 ≤ s.H.length
  B : ∀ id, id < s.n0 → B id ≤ s.n0
  lt : ∀ g, m.own g ≠ .none → g < w.heap.size
  glob : ∀ g, gd g ≠ [] → GlobAt w g (gd g) ∧ m.own g = .none
  defers : a.defers = []

/-- What an activation leaves alone, since a world. n: how many blocks the heap had then. -/
structure Kept (m0 : Nm) (n : Nat) (w0 : World) (m : Nm) (w : World) : Prop where
  same : ∀ g, g < w0.heap.size → m0.own g = .none → w.heap[g]? = w0.heap[g]?
  os : w.os = w0.os
  tape : w.tape = w0.tape
  output : w.output = w0.output
  size : w0.heap.size ≤ w.heap.size
  own : ∀ g, g < w0.heap.size → m.own g = m0.own g
  nobox : ∀ g s, m0.own g ≠ .box s
  rf : m.rf = m0.rf
  hp : ∀ id, id < n → ∀ c ∈ m0.hp id, c ∈ m.hp id

theorem CR.mono {hp hp' : Nat → List Cp} {n n' : Nat} (hn : n ≤ n') (h : ∀ id, id < n → ∀ c ∈ hp id, c ∈ hp' id) {c : C} {x : Value} (hc : CR hp n c x) : CR hp' n' c x := by
  cases c with
  | sl id off len sz =>
    obtain ⟨h1, h0, c, h2, cap, a, h3⟩ := hc
    exact ⟨by omega, h0, c, h id h1 c h2, cap, a, h3⟩
  | mp id =>
    obtain ⟨h1, c, h2, h3⟩ := hc
    exact ⟨by omega, c, h id h1 c h2, h3⟩
  | _ => exact hc

/-- Names that go on: more copies, the same places. -/
structure Nm.Le (n : Nat) (m m' : Nm) : Prop where
  lb : m'.lb = m.lb
  rf : m'.rf = m.rf
  hp : ∀ id, id < n → ∀ c ∈ m.hp id, c ∈ m'.hp id

theorem PR.mono {m m' : Nm} {n n' : Nat} (hn : n ≤ n') (h : m.Le n m') {p : Ptr} {x : Value} (hp : PR m n p x) : PR m' n' p x := by
  cases p with
  | loc s off => simp only [PR, h.lb] at *; exact hp
  | ref j off => simp only [PR, h.rf] at *; exact hp
  | elt id i k =>
    obtain ⟨h1, c, h2, h3⟩ := hp
    exact ⟨by omega, c, h.hp id h1 c h2, h3⟩
  | glob g off => exact hp
  | nil => exact hp

theorem VR1.mono {m m' : Nm} {n n' : Nat} (hn : n ≤ n') (h : m.Le n m') {v : V} {x : Value} (hv : VR1 m n v x) : VR1 m' n' v x := by
  cases v with
  | one c => exact CR.mono hn h.hp hv
  | agg cs =>
    obtain ⟨xs, h1, h2⟩ := hv
    exact ⟨xs, h1, h2.mono fun _ _ h' => CR.mono hn h.hp h'⟩
  | _ => exact hv

theorem VR.mono {m m' : Nm} {n n' : Nat} (hn : n ≤ n') (h : m.Le n m') {v : V} {x : Value} (hv : VR m n v x) : VR m' n' v x := by
  cases v with
  | one c => exact CR.mono hn h.hp hv
  | ptr p => exact PR.mono hn h hv
  | clo f caps => simp only [VR, h.lb] at *; exact hv
  | agg cs =>
    obtain ⟨xs, h1, h2⟩ := hv
    exact ⟨xs, h1, h2.mono fun _ _ h' => CR.mono hn h.hp h'⟩
  | tup vs =>
    obtain ⟨xs, h1, h2⟩ := hv
    exact ⟨xs, h1, h2.mono fun _ _ h' => VR1.mono hn h h'⟩
  | any => trivial

theorem VR.und {m : Nm} {n : Nat} (x : Value) : VR m n und x := trivial

theorem BoxAt.mono {hp hp' : Nat → List Cp} {n n' : Nat} {w w' : World} {g : Nat} {cs : List C} (hn : n ≤ n') (h : ∀ id, id < n → ∀ c ∈ hp id, c ∈ hp' id)
    (hw : w'.heap[g]? = w.heap[g]?) (hb : BoxAt hp n w g cs) : BoxAt hp' n' w' g cs := by
  obtain ⟨xs, t, h1, h2⟩ := hb
  exact ⟨xs, t, by rw [hw, h1], h2.mono fun _ _ h' => CR.mono hn h h'⟩

theorem CpAt.mono {hp hp' : Nat → List Cp} {n n' : Nat} {w w' : World} {c : Cp} {kd : Nat} {cs : List C} (hn : n ≤ n') (h : ∀ id, id < n → ∀ c ∈ hp id, c ∈ hp' id)
    (hw : w'.heap[c.g]? = w.heap[c.g]?) (hb : CpAt hp n w c kd cs) : CpAt hp' n' w' c kd cs := by
  obtain ⟨h1, h2, xs, t, fz, h3, h4, h5, h6⟩ := hb
  refine ⟨h1, h2, xs, t, fz, by rw [hw, h3], h4, fun j a hj ha => ?_, h6⟩
  obtain ⟨x, hx, hc⟩ := h5 j a hj ha
  exact ⟨x, hx, CR.mono hn h hc⟩

theorem MapAt.mono {w w' : World} {g : Nat} {es : List (Int × Bool)} (hw : w'.heap[g]? = w.heap[g]?) (h : MapAt w g es) : MapAt w' g es := by
  obtain ⟨ms, clock, h1, h2⟩ := h
  exact ⟨ms, clock, by rw [hw, h1], h2⟩

theorem GlobAt.mono {w w' : World} {g : Nat} {cs : List C} (hw : w'.heap[g]? = w.heap[g]?) (h : GlobAt w g cs) : GlobAt w' g cs := by
  obtain ⟨xs, t, fz, h1, h2⟩ := h
  exact ⟨xs, t, fz, by rw [hw, h1], h2⟩

end Go.Ev
end

section
set_option linter.all false
/- What the model's small steps do to a world, said of blocks. -/
namespace Go.Ev

/-- A world in which one block has turned. -/
structure Upd (w : World) (g : Nat) (o : Obj) (w' : World) : Prop where
  at_ : w'.heap[g]? = some o
  other : ∀ k, k ≠ g → w'.heap[k]? = w.heap[k]?
  size : w'.heap.size = w.heap.size
  os : w'.os = w.os
  tape : w'.tape = w.tape
  output : w'.output = w.output

/-- A world with one block more. -/
structure New (w : World) (o : Obj) (w' : World) : Prop where
  at_ : w'.heap[w.heap.size]? = some o
  other : ∀ k, k < w.heap.size → w'.heap[k]? = w.heap[k]?
  size : w'.heap.size = w.heap.size + 1
  os : w'.os = w.os
  tape : w'.tape = w.tape
  output : w'.output = w.output

theorem New.push (w : World) (o : Obj) : New w o { w with heap := w.heap.push o } where
  at_ := by simp
  other := fun k hk => by
    simp only [Array.getElem?_push]
    rw [if_neg (by omega)]
  size := by simp
  os := rfl
  tape := rfl
  output := rfl

theorem Addr.add_none (g off n : Nat) : (⟨g, off, none⟩ : Addr).add n = ⟨g, off + n, none⟩ := by
  unfold Addr.add
  split
  · rename_i h; simp [h]
  · rfl

theorem run_loads (P : Program) (w : World) (g off : Nat) (xs : Array Value) (t : TypeId) (fz : Nat × Nat) (ys : List Value) (hg : w.heap[g]? = some (.cells xs t fz))
    (h : ∀ (j : Nat) (v : Value), ys[j]? = some v → xs[off + j]? = some v) : (loadCells ⟨g, off, none⟩ ys.length).run P w = .ok ys.toArray w := by
  have := run_loadCells_list (P := P) (w := w) ⟨g, off, none⟩ ys (fun j v hj => by
    rw [Addr.add_none, cell_of_row w g (off + j) xs t fz hg]
    exact h j v hj)
  simpa using this

theorem run_load1 (P : Program) (w : World) (g off : Nat) (xs : Array Value) (t : TypeId) (fz : Nat × Nat) (v : Value) (hg : w.heap[g]? = some (.cells xs t fz))
    (h : xs[off]? = some v) : (load ⟨g, off, none⟩).run P w = .ok v w := by
  rw [run_load, cell_of_row w g off xs t fz hg, h]

/-- A cell's value is none of several cells. -/
theorem CR.oneCell {hp : Nat → List Cp} {n : Nat} {c : C} {x : Value} (h : CR hp n c x) : x.oneCell' = true := by
  cases c with
  | int k a => rw [h]; rfl
  | bool b => rw [h]; rfl
  | sl id off len sz => obtain ⟨_, _, c, _, cap, a, h, _⟩ := h; rw [h]; rfl
  | nsl => rw [h]; rfl
  | fn f => rw [h]; rfl
  | mp id => obtain ⟨_, c, _, h⟩ := h; rw [h]; rfl
  | und => exact h

theorem run_store1 (P : Program) (w : World) (g off : Nat) (xs : List Value) (t : TypeId) (v : Value) (hg : w.heap[g]? = some (.cells xs.toArray t (0, 0))) (ho : off < xs.length) (hv : v.oneCell' = true) :
    ∃ w', (store ⟨g, off, none⟩ v).run P w = .ok () w' ∧ Upd w g (.cells (xs.set off v).toArray t (0, 0)) w' := by
  refine ⟨w.setCell ⟨g, off, none⟩ v, ?_, ?_⟩
  · rw [run_store _ _ _ _ _ hv, cell_of_row w g off xs.toArray t (0, 0) hg, frozen_of_row w g off xs.toArray t hg]
    have : xs.toArray[off]? = some xs[off] := by simp [ho]
    rw [this]
    rfl
  · refine ⟨?_, fun k hk => heap_setCell_other w _ k v hk, World.size_setCell _ _ _, rfl, rfl, rfl⟩
    rw [heap_setCell_same w g off xs.toArray t v hg]
    simp

theorem run_stores (P : Program) (g : Nat) (t : TypeId) : ∀ (vs : List Value) (w : World) (off i : Nat) (xs : List Value), w.heap[g]? = some (.cells xs.toArray t (0, 0)) → off + i + vs.length ≤ xs.length →
    (∀ v ∈ vs, v.oneCell' = true) → ∃ w', (storeCells ⟨g, off, none⟩ vs i).run P w = .ok () w' ∧ Upd w g (.cells (xs.take (off + i) ++ vs ++ xs.drop (off + i + vs.length)).toArray t (0, 0)) w' := by
  intro vs
  induction vs with
  | nil =>
    intro w off i xs hg _ _
    refine ⟨w, rfl, ?_, fun _ _ => rfl, rfl, rfl, rfl, rfl⟩
    simp [hg]
  | cons v vs ih =>
    intro w off i xs hg hl hv
    simp only [List.length_cons] at hl
    obtain ⟨w1, h1, u1⟩ := run_store1 P w g (off + i) xs t v hg (by omega) (hv v (by simp))
    obtain ⟨w2, h2, u2⟩ := ih w1 off (i + 1) (xs.set (off + i) v) u1.at_ (by simp; omega) (fun v' h' => hv v' (by simp [h']))
    refine ⟨w2, ?_, ?_, fun k hk => by rw [u2.other k hk, u1.other k hk], by rw [u2.size, u1.size], by rw [u2.os, u1.os], by rw [u2.tape, u1.tape], by rw [u2.output, u1.output]⟩
    · simp only [storeCells, Sem.run_bind, Addr.add_none, h1, Result.andThen_ok]
      exact h2
    · rw [u2.at_]
      congr 3
      apply List.ext_getElem?
      intro j
      simp only [List.getElem?_append, List.getElem?_take, List.getElem?_drop, List.getElem?_set, List.length_append, List.length_take, List.length_set, List.length_cons, List.getElem?_cons]
      have e1 : min (off + (i + 1)) xs.length = off + i + 1 := by omega
      have e2 : min (off + i) xs.length = off + i := by omega
      rw [e1, e2]
      by_cases a : j < off + i
      · rw [if_pos (by omega), if_pos (by omega), if_pos (by omega), if_neg (by omega), if_pos (by omega), if_pos a, if_pos a]
      · by_cases b : j = off + i
        · subst b
          rw [if_pos (by omega), if_pos (by omega), if_pos (by omega), if_pos rfl, if_pos (by omega), if_pos (by omega), if_neg (by omega)]
          simp
        · by_cases c : j < off + i + 1 + vs.length
          · rw [if_pos (by omega), if_neg (by omega), if_pos (by omega), if_neg (by omega), if_neg (by omega)]
            rw [show j - (off + i + 1) = j - (off + i) - 1 from by omega]
          · rw [if_neg (by omega), if_neg (by omega), if_neg (by omega)]
            rw [show off + (i + 1) + vs.length + (j - (off + i + 1 + vs.length)) = off + i + (vs.length + 1) + (j - (off + i + (vs.length + 1))) from by omega]
end Go.Ev
end

section
set_option linter.all false
/- What the evaluator's table says of a type is what the program's says. -/
namespace Go.Ev

def UnderOk (P : Program) (t : Nat) (ti : TI) : Prop :=
  match ti.d with
  | .int k => P.underlying t = some (.int k)
  | .bool => P.underlying t = some .bool
  | .ptr => ∃ e, P.underlying t = some (.pointer e)
  | .slice e => P.underlying t = some (.slice e)
  | .struct fs => ∃ flds : Array Field, P.underlying t = some (.struct flds) ∧ flds.toList.map (fun f => (f.offset, f.type)) = fs ∧ (∀ f ∈ flds.toList, 0 < P.cellsOf f.type) ∧
      (ti.eq = true → P.eqGuardType P.depth t = false ∧ P.stoodInHeld t = false ∧ (∀ f ∈ flds.toList, f.name ≠ "_" ∧ ∃ k, P.underlying f.type = some (.int k)) ∧ flds.toList.map (·.offset) = List.range flds.size ∧ ti.zero.length = flds.size)
  | .arr n e => P.underlying t = some (.array n e)
  | .fn => ∃ a b c, P.underlying t = some (.func a b c)
  | .map k e => P.underlying t = some (.map k e)
  | .tup _ => ti.zero = []

structure TyOk (P : Program) (t : Nat) (ti : TI) : Prop where
  info : (∀ ts, ti.d ≠ .tup ts) → ∃ i z zs, P.info? t = some i ∧ i.size = ti.zero.length ∧ i.bytes = ti.bytes ∧ i.zero = some z ∧ z.cells = zs.toArray ∧ All2 (CR (fun _ => []) 0) ti.zero zs
  under : UnderOk P t ti
  eq : ti.eq = true → ∃ fs, ti.d = .struct fs
  one : ti.d.agg = false → (∀ ts, ti.d ≠ .tup ts) → ∀ i z, P.info? t = some i → i.zero = some z → z.oneCell' = true

def TabOk (P : Program) (tab : Nat → Option TI) : Prop := ∀ t ti, tab t = some ti → TyOk P t ti

section
variable {P : Program} {tab : Nat → Option TI} {w : World}

theorem run_underlying {t : Nat} {d : TypeDesc} (h : P.underlying t = some d) : (underlying t).run P w = .ok d w := by
  simp [underlying, h]
theorem run_typeInfo {t : Nat} {i : TypeInfo} (h : P.info? t = some i) : (typeInfo t).run P w = .ok i w := by
  simp [typeInfo, h]
theorem run_sizeOf {t : Nat} {i : TypeInfo} (h : P.info? t = some i) : (sizeOf t).run P w = .ok i.size w := by
  simp [sizeOf, run_typeInfo h]
theorem run_zeroValue {t : Nat} {i : TypeInfo} {z : Value} (h : P.info? t = some i) (hz : i.zero = some z) : (zeroValue t).run P w = .ok z w := by
  simp [zeroValue, run_typeInfo h, hz]

theorem sizeT_of {t : Nat} {ti : TI} (h : tab t = some ti) : sizeT tab t = ti.zero.length := by simp [sizeT, h]

/-- A type's size and kind, as the model reckons them. -/
theorem TyOk.size {t : Nat} {ti : TI} (h : TyOk P t ti) (hd : ∀ ts, ti.d ≠ .tup ts) : (sizeOf t).run P w = .ok ti.zero.length w := by
  obtain ⟨i, z, zs, h1, h2, _⟩ := h.info hd
  rw [run_sizeOf h1, h2]

theorem TyOk.isAgg {t : Nat} {ti : TI} (h : TyOk P t ti) (hd : ∀ ts, ti.d ≠ .tup ts) : (isAgg t).run P w = .ok ti.d.agg w := by
  have hu := h.under
  unfold UnderOk at hu
  cases e : ti.d with
  | tup ts => exact absurd e (hd ts)
  | struct fs => rw [e] at hu; obtain ⟨flds, hu, _⟩ := hu; simp [Go.isAgg, run_underlying hu, TD.agg]
  | arr n t' => rw [e] at hu; simp [Go.isAgg, run_underlying hu, TD.agg]
  | ptr => rw [e] at hu; obtain ⟨_, hu⟩ := hu; simp [Go.isAgg, run_underlying hu, TD.agg]
  | fn => rw [e] at hu; obtain ⟨_, _, _, hu⟩ := hu; simp [Go.isAgg, run_underlying hu, TD.agg]
  | _ => rw [e] at hu; simp [Go.isAgg, run_underlying hu, TD.agg]

theorem TyOk.not_tup {t : Nat} {ti : TI} (h : TyOk P t ti) (hz : ti.zero.length ≠ 0) : ∀ ts, ti.d ≠ .tup ts := by
  intro ts hts
  have hu := h.under
  unfold UnderOk at hu
  rw [hts] at hu
  simp [hu] at hz

theorem agg_not_tup {ti : TI} (h : ti.d.agg = true) : ∀ ts, ti.d ≠ .tup ts := by
  intro ts hts; rw [hts] at h; cases h
end
end Go.Ev
end

section
set_option linter.all false
/- An abstract state goes on to fit where one block of the world turns, or one comes. -/
namespace Go.Ev
variable {gd : Nat → List C} {B : Nat → Nat} {vs : List Nat} {m m' : Nm} {s : St} {a : Act} {w w' : World}

theorem Act.eval_tmp (a : Act) (t : Nat) : a.eval (.tmp t) = a.tmps.getD t undef := rfl

theorem ofValue_rel (m : Nm) (n : Nat) (v : Value) : VR m n (ofValue v) v := by
  unfold ofValue
  split
  · rfl
  · rfl
  · rfl
  · rfl
  · split
    · rename_i h
      simp only [VR, CR]
      rw [Array.eq_empty_of_size_eq_zero h.1, Array.eq_empty_of_size_eq_zero h.2]
    · trivial
  · trivial

theorem frame_rel {fr : List V} {tmps : Array Value} {n : Nat} (h : All2 (VR m n) fr tmps.toList) (t : Nat) : VR m n (fr.getD t und) (tmps.getD t undef) := by
  by_cases ht : t < fr.length
  · have h1 : fr[t]? = some fr[t] := by simp [ht]
    obtain ⟨b, hb, hr⟩ := h.get t _ h1
    have h2 : tmps[t]? = some b := by simpa using hb
    rw [List.getD_eq_getElem?_getD, h1, Array.getD_eq_getD_getElem?, h2]
    exact hr
  · rw [List.getD_eq_getElem?_getD, List.getElem?_eq_none (by omega)]
    trivial

theorem SRel.opnd (h : SRel gd B vs m s a w) (x : Operand) : VR m s.H.length (opnd s.fr x) (a.eval x) := by
  cases x with
  | tmp t => exact frame_rel h.fr t
  | const v => exact ofValue_rel _ _ v
  | global g => rfl
  | func f => rfl

theorem lt_of_get {w : World} {g : Nat} {o : Obj} (h : w.heap[g]? = some o) : g < w.heap.size := (Array.getElem?_eq_some_iff.1 h).1

theorem HRel.keep {H : Heap} (h : HRel m w H B) (hk : ∀ k, k < w.heap.size → (m.own k = .none ∨ ∃ id, m.own k = .heap id) → w'.heap[k]? = w.heap[k]?) : HRel m w' H B where
  cells := fun id kd cs hi c hc => by
    obtain ⟨_, _, xs, t, fz, hx, _⟩ := h.cells id kd cs hi c hc
    refine (h.cells id kd cs hi c hc).mono (Nat.le_refl _) (fun _ _ _ h => h) (hk _ (lt_of_get hx) ?_)
    by_cases k0 : kd = 0
    · subst k0; exact .inl (h.ro id cs hi c hc)
    · exact .inr ⟨id, h.own id kd cs hi k0 c hc⟩
  one := h.one
  own := h.own
  ro := h.ro
  map := fun id es hi c hc => by
    obtain ⟨h1, h3⟩ := h.map id es hi c hc
    have h2 := h1
    obtain ⟨ms, clock, hx, _⟩ := h2
    exact ⟨h1.mono (hk _ (lt_of_get hx) (.inr ⟨_, h3⟩)), h3⟩
  mone := h.mone

theorem All2.getR {α β : Type} {R : α → β → Prop} {as : List α} {bs : List β} (h : All2 R as bs) (i : Nat) (b : β) (hb : bs[i]? = some b) : ∃ a, as[i]? = some a ∧ R a b := by
  induction h generalizing i with
  | nil => simp at hb
  | cons h1 _ ih => cases i with
    | zero => simp at hb; subst hb; exact ⟨_, by simp, h1⟩
    | succ i => simpa using ih i (by simpa using hb)

theorem putCells_rel {hp : Nat → List Cp} {n : Nat} {cs ys : List C} {xs zs : List Value} {off : Nat} (h : All2 (CR hp n) cs xs) (h' : All2 (CR hp n) ys zs) :
    All2 (CR hp n) (putCells cs off ys) (xs.take off ++ zs ++ xs.drop (off + zs.length)) := by
  unfold putCells
  rw [← h'.length]
  exact ((h.take off).append h').append (h.drop _)

theorem Kept.trans_upd {m0 : Nm} {n : Nat} {w0 : World} {g : Nat} {o : Obj} (h : Kept m0 n w0 m w) (u : Upd w g o w') (hg : m.own g ≠ .none) : Kept m0 n w0 m w' where
  same := fun k hk h0 => by
    rw [u.other k (fun e => ?_), h.same k hk h0]
    subst e
    exact hg ((h.own k hk).trans h0)
  os := by rw [u.os, h.os]
  tape := by rw [u.tape, h.tape]
  output := by rw [u.output, h.output]
  size := by rw [u.size]; exact h.size
  own := h.own
  nobox := h.nobox
  rf := h.rf
  hp := h.hp

/-- A store into one of the activation's own boxes. -/
theorem SRel.setBox (h : SRel gd B vs m s a w) {b t : Nat} {cs ys : List C} {xs zs : List Value} {ty : TypeId} {off : Nat} (hb : s.L[b]? = some (some (t, cs))) (hv : b ∉ vs)
    (hc : All2 (CR m.hp s.H.length) cs xs) (hy : All2 (CR m.hp s.H.length) ys zs)
    (u : Upd w (m.lb b) (.cells (xs.take off ++ zs ++ xs.drop (off + zs.length)).toArray ty (0, 0)) w') :
    SRel gd B vs m { s with L := s.L.set b (some (t, putCells cs off ys)) } a w' := by
  have hob := (h.box b t cs hb hv).2
  refine ⟨h.fr, fun b' t' cs' hb' hv' => ?_, fun j t' cs' hj => ?_, h.heap.keep fun k _ hk => u.other k fun e => ?_, h.n0, h.B, fun g hg => by rw [u.size]; exact h.lt g hg, fun g hg => ?_, h.defers⟩
  · by_cases e : b' = b
    · subst e
      have hl : b' < s.L.length := (List.getElem?_eq_some_iff.1 hb).1
      simp only [List.getElem?_set, hl, if_true, Option.some.injEq, Prod.mk.injEq] at hb'
      obtain ⟨-, rfl⟩ := hb'
      exact ⟨⟨_, ty, u.at_, putCells_rel hc hy⟩, hob⟩
    · have hb2 : s.L[b']? = some (some (t', cs')) := by simpa [List.getElem?_set, Ne.symm e] using hb'
      obtain ⟨h1, h2⟩ := h.box b' t' cs' hb2 hv'
      refine ⟨h1.mono (Nat.le_refl _) (fun _ _ _ h => h) (u.other _ fun e' => e ?_), h2⟩
      rw [e', hob] at h2
      injection h2 with h2; exact h2.symm
  · obtain ⟨h1, h2⟩ := h.ref j t' cs' hj
    exact ⟨h1.mono (Nat.le_refl _) (fun _ _ _ h => h) (u.other _ fun e' => by rw [e', hob] at h2; cases h2), h2⟩
  · subst e
    rcases hk with hk | ⟨id, hk⟩ <;> rw [hob] at hk <;> cases hk
  · obtain ⟨h1, h2⟩ := h.glob g hg
    exact ⟨h1.mono (u.other _ fun e' => by rw [e', hob] at h2; cases h2), h2⟩

/-- A store into a box that was handed in. -/
theorem SRel.setRef (h : SRel gd B vs m s a w) {j t : Nat} {cs ys : List C} {xs zs : List Value} {ty : TypeId} {off : Nat} (hj : s.R[j]? = some (t, cs))
    (hc : All2 (CR m.hp s.H.length) cs xs) (hy : All2 (CR m.hp s.H.length) ys zs)
    (u : Upd w (m.rf j) (.cells (xs.take off ++ zs ++ xs.drop (off + zs.length)).toArray ty (0, 0)) w') :
    SRel gd B vs m { s with R := s.R.set j (t, putCells cs off ys) } a w' := by
  have hob := (h.ref j t cs hj).2
  refine ⟨h.fr, fun b' t' cs' hb' hv' => ?_, fun j' t' cs' hj' => ?_, h.heap.keep fun k _ hk => u.other k fun e => ?_, h.n0, h.B, fun g hg => by rw [u.size]; exact h.lt g hg, fun g hg => ?_, h.defers⟩
  · obtain ⟨h1, h2⟩ := h.box b' t' cs' hb' hv'
    exact ⟨h1.mono (Nat.le_refl _) (fun _ _ _ h => h) (u.other _ fun e' => by rw [e', hob] at h2; cases h2), h2⟩
  · by_cases e : j' = j
    · subst e
      have hl : j' < s.R.length := (List.getElem?_eq_some_iff.1 hj).1
      simp only [List.getElem?_set, hl, if_true, Option.some.injEq, Prod.mk.injEq] at hj'
      obtain ⟨-, rfl⟩ := hj'
      exact ⟨⟨_, ty, u.at_, putCells_rel hc hy⟩, hob⟩
    · have hb2 : s.R[j']? = some (t', cs') := by simpa [List.getElem?_set, Ne.symm e] using hj'
      obtain ⟨h1, h2⟩ := h.ref j' t' cs' hb2
      refine ⟨h1.mono (Nat.le_refl _) (fun _ _ _ h => h) (u.other _ fun e' => e ?_), h2⟩
      rw [e', hob] at h2
      injection h2 with h2; exact h2.symm
  · subst e
    rcases hk with hk | ⟨id, hk⟩ <;> rw [hob] at hk <;> cases hk
  · obtain ⟨h1, h2⟩ := h.glob g hg
    exact ⟨h1.mono (u.other _ fun e' => by rw [e', hob] at h2; cases h2), h2⟩

theorem HRel.renm {H : Heap} (h : HRel m w H B) (hhp : m'.hp = m.hp) (hn : ∀ k, k < w.heap.size → m.own k = .none → m'.own k = .none)
    (hh : ∀ k id, k < w.heap.size → m.own k = .heap id → m'.own k = .heap id) : HRel m' w H B where
  cells := fun id kd cs hi c hc => by rw [hhp] at hc ⊢; exact h.cells id kd cs hi c hc
  one := fun id cs hi => by rw [hhp]; exact h.one id cs hi
  own := fun id kd cs hi k0 c hc => by
    rw [hhp] at hc
    obtain ⟨_, _, xs, t, fz, hx, _⟩ := h.cells id kd cs hi c hc
    exact hh _ _ (lt_of_get hx) (h.own id kd cs hi k0 c hc)
  ro := fun id cs hi c hc => by
    rw [hhp] at hc
    obtain ⟨_, _, xs, t, fz, hx, _⟩ := h.cells id 0 cs hi c hc
    exact hn _ (lt_of_get hx) (h.ro id cs hi c hc)
  map := fun id es hi c hc => by
    rw [hhp] at hc
    obtain ⟨⟨ms, clock, h1, h2⟩, h3⟩ := h.map id es hi c hc
    exact ⟨⟨ms, clock, h1, h2⟩, hh _ _ (lt_of_get h1) h3⟩
  mone := fun id es hi => by rw [hhp]; exact h.mone id es hi

/-- The names behind a new box at slot d. -/
def Nm.box (m : Nm) (d g : Nat) : Nm :=
  { m with lb := fun b => if b = d then g else m.lb b, own := fun k => if k = g then .box d else if m.own k = .box d then .none else m.own k }

theorem kill_rel {n d g : Nat} {v : V} {x : Value} (h : VR m n v x) : VR (m.box d g) n (killV d v) x := by
  cases v with
  | ptr p => cases p with
    | loc s o =>
      show VR _ _ (if s = d then und else .ptr (.loc s o)) x
      by_cases hs : s = d
      · rw [if_pos hs]; trivial
      · rw [if_neg hs]
        simp only [VR, PR, Nm.box, if_neg hs] at *
        exact h
    | _ => exact h
  | clo f caps =>
    show VR _ _ (if caps.contains d then und else .clo f caps) x
    by_cases hc : caps.contains d = true
    · rw [if_pos hc]; trivial
    · rw [if_neg hc]
      simp only [VR, Nm.box] at *
      rw [h]
      congr 2
      apply List.map_congr_left
      intro b hb
      rw [if_neg]
      intro e
      subst e
      exact hc (by simpa using hb)
  | one c => exact h
  | agg cs => exact h
  | tup vs =>
    obtain ⟨xs, h1, h2⟩ := h
    refine ⟨xs, h1, h2.mono fun a b hab => ?_⟩
    cases a <;> exact hab
  | any => trivial

theorem All2.map_left {α β : Type} {R R' : α → β → Prop} {f : α → α} {as : List α} {bs : List β} (h : All2 R as bs) (hf : ∀ a b, R a b → R' (f a) b) : All2 R' (as.map f) bs := by
  induction h with
  | nil => exact .nil
  | cons h1 _ ih => exact .cons (hf _ _ h1) ih

theorem SRel.newBox' (h : SRel gd B vs m s a w) {vs' : List Nat} {d t : Nat} {cs : List C} {xs : List Value} {ty : TypeId} (hc : All2 (CR m.hp s.H.length) cs xs) (u : New w (.cells xs.toArray ty (0, 0)) w') (hvs : ∀ b, b ≠ d → b ∈ vs → b ∈ vs') :
    SRel gd B vs' (m.box d w.heap.size) (newBox s d t cs) a w' := by
  have hown : ∀ k, k < w.heap.size → m.own k ≠ .box d → (m.box d w.heap.size).own k = m.own k := fun k hk hb => by
    simp only [Nm.box]
    rw [if_neg (by omega), if_neg hb]
  refine ⟨?_, fun b' t' cs' hb' hv' => ?_, fun j t' cs' hj => ?_, ?_, h.n0, h.B, fun g hg => ?_, fun g hg => ?_, h.defers⟩
  · exact h.fr.map_left fun v x hv => kill_rel hv
  · simp only [Ev.newBox] at hb'
    by_cases e : b' = d
    · subst e
      have hl : b' < s.L.length := by
        have := (List.getElem?_eq_some_iff.1 hb').1
        simpa using this
      simp only [List.getElem?_set, hl, if_true, Option.some.injEq, Prod.mk.injEq] at hb'
      obtain ⟨-, rfl⟩ := hb'
      simp only [Nm.box, if_true, and_true]
      exact ⟨xs, ty, u.at_, hc⟩
    · have hb2 : s.L[b']? = some (some (t', cs')) := by simpa [List.getElem?_set, Ne.symm e] using hb'
      obtain ⟨h1, h2⟩ := h.box b' t' cs' hb2 (fun hm => hv' (hvs b' e hm))
      have hlt := h.lt (m.lb b') (by rw [h2]; simp)
      have e1 : (m.box d w.heap.size).lb b' = m.lb b' := by simp [Nm.box, e]
      rw [e1]
      refine ⟨h1.mono (Nat.le_refl _) (fun _ _ _ h => h) (u.other _ hlt), ?_⟩
      rw [hown _ hlt (by rw [h2]; simpa using e), h2]
  · obtain ⟨h1, h2⟩ := h.ref j t' cs' hj
    have hlt := h.lt (m.rf j) (by rw [h2]; simp)
    refine ⟨h1.mono (Nat.le_refl _) (fun _ _ _ h => h) (u.other _ hlt), ?_⟩
    show (m.box d w.heap.size).own (m.rf j) = _
    rw [hown _ hlt (by rw [h2]; simp), h2]
  · have h1 : HRel (m.box d w.heap.size) w s.H (bnd B s.n0 s.H.length) := h.heap.renm rfl (fun k hk h0 => by rw [hown k hk (by rw [h0]; simp), h0]) (fun k id hk h0 => by rw [hown k hk (by rw [h0]; simp), h0])
    exact h1.keep fun k hk _ => u.other k hk
  · rw [u.size]
    simp only [Nm.box] at hg
    by_cases e : g = w.heap.size
    · omega
    · rw [if_neg e] at hg
      have := h.lt g (by intro h0; rw [h0] at hg; simp at hg)
      omega
  · obtain ⟨h1, h2⟩ := h.glob g hg
    obtain ⟨ys, t', fz, h3, _⟩ := id h1
    have hlt := lt_of_get h3
    exact ⟨h1.mono (u.other _ hlt), by rw [hown _ hlt (by rw [h2]; simp), h2]⟩
theorem SRel.newBox (h : SRel gd B vs m s a w) {d t : Nat} {cs : List C} {xs : List Value} {ty : TypeId} (hc : All2 (CR m.hp s.H.length) cs xs) (u : New w (.cells xs.toArray ty (0, 0)) w') :
    SRel gd B vs (m.box d w.heap.size) (newBox s d t cs) a w' := h.newBox' hc u fun _ _ h => h

/-- A box that is laid in the abstract state alone. -/
theorem SRel.layBox (h : SRel gd B vs m s a w) (d t : Nat) (cs : List C) : SRel gd B (d :: vs) m (Ev.newBox s d t cs) a w where
  fr := h.fr.map_left fun v x hv => by
    cases v with
    | ptr p => cases p with
      | loc s o => simp only [killV]; split; exact VR.und x; exact hv
      | _ => exact hv
    | clo f caps => simp only [killV]; split; exact VR.und x; exact hv
    | _ => exact hv
  box := fun b' t' cs' hb' hv' => by
    simp only [List.mem_cons, not_or] at hv'
    simp only [Ev.newBox] at hb'
    have hb2 : s.L[b']? = some (some (t', cs')) := by simpa [List.getElem?_set, Ne.symm hv'.1] using hb'
    exact h.box b' t' cs' hb2 hv'.2
  ref := h.ref
  heap := h.heap
  n0 := h.n0
  B := h.B
  lt := h.lt
  glob := h.glob
  defers := h.defers
end Go.Ev
end

section
set_option linter.all false
/- A block of the heap turns, or one comes. -/
namespace Go.Ev
variable {gd : Nat → List C} {B : Nat → Nat} {vs : List Nat} {m m' : Nm} {s : St} {a : Act} {w w' : World}

/-- A world that has turned at most at one block, old or new. -/
structure Chg (w : World) (g : Nat) (w' : World) : Prop where
  other : ∀ k, k < w.heap.size → k ≠ g → w'.heap[k]? = w.heap[k]?
  le : w.heap.size ≤ w'.heap.size
  lt : g < w'.heap.size
  os : w'.os = w.os
  tape : w'.tape = w.tape
  output : w'.output = w.output

theorem Upd.chg {g : Nat} {o : Obj} (u : Upd w g o w') : Chg w g w' :=
  ⟨fun k _ hk => u.other k hk, by rw [u.size]; exact Nat.le_refl _, lt_of_get u.at_, u.os, u.tape, u.output⟩
theorem New.chg {o : Obj} (u : New w o w') : Chg w w.heap.size w' :=
  ⟨fun k hk _ => u.other k hk, by rw [u.size]; omega, by rw [u.size]; omega, u.os, u.tape, u.output⟩

/-- The names behind a block g that bears the cells of id; cps: its copies. -/
def Nm.heap (m : Nm) (id g : Nat) (cps : List Cp) : Nm :=
  { m with hp := fun k => if k = id then cps else m.hp k, own := fun k => if k = g then .heap id else m.own k }

theorem Nm.heap_le {id g n : Nat} {cps : List Cp} (h : id < n → ∀ c ∈ m.hp id, c ∈ cps) : m.Le n (m.heap id g cps) where
  lb := rfl
  rf := rfl
  hp := fun k hk c hc => by
    simp only [Nm.heap]
    split
    · rename_i e; subst e; exact h hk c hc
    · exact hc

/-- A block of the heap has new cells, new copies; all else goes on. -/
theorem SRel.turn (h : SRel gd B vs m s a w) {id g kd : Nat} {cs : List C} {cps : List Cp} {H' : Heap} (u : Chg w g w')
    (hg : m.own g = .heap id ∨ (w.heap.size ≤ g ∧ ∀ c ∈ m.hp id, id < s.H.length → m.own c.g = .heap id))
    (hsub : id < s.H.length → ∀ c ∈ m.hp id, c ∈ cps) (hlen : s.H.length ≤ H'.length)
    (hold : ∀ k, k < H'.length → k ≠ id → k < s.H.length ∧ H'[k]? = s.H[k]?) (hid : H'[id]? = some (.mem kd cs)) (hk0 : kd ≠ 0)
    (hcp : ∀ c ∈ cps, CpAt (m.heap id g cps).hp (bnd B s.n0 H'.length id) w' c kd cs)
    (hone : kd = 2 → ∃ g, ∀ c ∈ cps, 0 < c.p → c.g = g ∧ c.p = cs.length)
    (hown : ∀ c ∈ cps, (m.heap id g cps).own c.g = .heap id) :
    SRel gd B vs (m.heap id g cps) { s with H := H' } a w' := by
  have hle := Nm.heap_le (m := m) (id := id) (g := g) (n := s.H.length) (cps := cps) hsub
  have hne : ∀ k, k < w.heap.size → m.own k ≠ .heap id → k ≠ g := fun k hk hb e => by
    subst e
    rcases hg with hg | ⟨hg, _⟩
    · exact hb hg
    · omega
  have hsame : ∀ k, k < w.heap.size → m.own k ≠ .heap id → w'.heap[k]? = w.heap[k]? := fun k hk hb => u.other k hk (hne k hk hb)
  have hown' : ∀ k, k < w.heap.size → m.own k ≠ .heap id → (m.heap id g cps).own k = m.own k := fun k hk hb => by
    simp only [Nm.heap]; rw [if_neg (hne k hk hb)]
  have hbd : ∀ k, bnd B s.n0 s.H.length k ≤ bnd B s.n0 H'.length k := fun k => by unfold bnd; split <;> omega
  have hbl : ∀ k, bnd B s.n0 s.H.length k ≤ s.H.length := fun k => by
    unfold bnd
    split
    · rename_i hk; exact Nat.le_trans (h.B k hk) h.n0
    · exact Nat.le_refl _
  refine ⟨h.fr.mono fun v x hv => hv.mono hlen hle, fun b t' cs' hb hv => ?_, fun j t' cs' hj => ?_, ⟨?_, ?_, ?_, ?_, ?_, ?_⟩, by have := h.n0; show s.n0 ≤ H'.length; omega, h.B, fun k hk => ?_, fun k hk => ?_, h.defers⟩
  · obtain ⟨h1, h2⟩ := h.box b t' cs' hb hv
    have hlt := h.lt _ (show m.own (m.lb b) ≠ .none by rw [h2]; simp)
    have hb' : m.own (m.lb b) ≠ .heap id := by rw [h2]; simp
    exact ⟨h1.mono hlen hle.hp (hsame _ hlt hb'), by rw [show (m.heap id g cps).lb b = m.lb b from rfl, hown' _ hlt hb', h2]⟩
  · obtain ⟨h1, h2⟩ := h.ref j t' cs' hj
    have hlt := h.lt _ (show m.own (m.rf j) ≠ .none by rw [h2]; simp)
    have hb' : m.own (m.rf j) ≠ .heap id := by rw [h2]; simp
    exact ⟨h1.mono hlen hle.hp (hsame _ hlt hb'), by rw [show (m.heap id g cps).rf j = m.rf j from rfl, hown' _ hlt hb', h2]⟩
  · intro k kd' cs' hk c hc
    by_cases e : k = id
    · subst e
      rw [hid] at hk
      simp only [Option.some.injEq, Blk.mem.injEq] at hk
      obtain ⟨rfl, rfl⟩ := hk
      exact hcp c (by simpa [Nm.heap] using hc)
    · have hlk : k < H'.length := (List.getElem?_eq_some_iff.1 hk).1
      obtain ⟨hl, hs⟩ := hold k hlk e
      rw [hs] at hk
      have hc' : c ∈ m.hp k := by simpa [Nm.heap, e] using hc
      have h1 := h.heap.cells k kd' cs' hk c hc'
      have h2 := h1
      obtain ⟨_, _, xs, t, fz, hx, _⟩ := h2
      refine h1.mono (hbd k) (fun i hi => hle.hp i (Nat.lt_of_lt_of_le hi (hbl k))) (hsame _ (lt_of_get hx) ?_)
      by_cases k0 : kd' = 0
      · subst k0; rw [h.heap.ro k cs' hk c hc']; simp
      · rw [h.heap.own k kd' cs' hk k0 c hc']; simpa using e
  · intro k cs' hk
    by_cases e : k = id
    · subst e
      rw [hid] at hk
      simp only [Option.some.injEq, Blk.mem.injEq] at hk
      obtain ⟨rfl, rfl⟩ := hk
      simpa [Nm.heap] using hone rfl
    · have hlk : k < H'.length := (List.getElem?_eq_some_iff.1 hk).1
      obtain ⟨hl, hs⟩ := hold k hlk e
      rw [hs] at hk
      simpa [Nm.heap, e] using h.heap.one k cs' hk
  · intro k kd' cs' hk k0 c hc
    by_cases e : k = id
    · subst e
      exact hown c (by simpa [Nm.heap] using hc)
    · have hlk : k < H'.length := (List.getElem?_eq_some_iff.1 hk).1
      obtain ⟨hl, hs⟩ := hold k hlk e
      rw [hs] at hk
      have hc' : c ∈ m.hp k := by simpa [Nm.heap, e] using hc
      obtain ⟨_, _, xs, t, fz, hx, _⟩ := h.heap.cells k kd' cs' hk c hc'
      have h3 := h.heap.own k kd' cs' hk k0 c hc'
      rw [hown' _ (lt_of_get hx) (by rw [h3]; simpa using e), h3]
  · intro k cs' hk c hc
    by_cases e : k = id
    · subst e
      rw [hid] at hk
      simp only [Option.some.injEq, Blk.mem.injEq] at hk
      exact absurd hk.1 hk0
    · have hlk : k < H'.length := (List.getElem?_eq_some_iff.1 hk).1
      obtain ⟨hl, hs⟩ := hold k hlk e
      rw [hs] at hk
      have hc' : c ∈ m.hp k := by simpa [Nm.heap, e] using hc
      obtain ⟨_, _, xs, t, fz, hx, _⟩ := h.heap.cells k 0 cs' hk c hc'
      have h3 := h.heap.ro k cs' hk c hc'
      rw [hown' _ (lt_of_get hx) (by rw [h3]; simp), h3]
  · intro k es hk c hc
    have e : k ≠ id := by intro e; subst e; rw [hid] at hk; cases hk
    have hlk : k < H'.length := (List.getElem?_eq_some_iff.1 hk).1
    obtain ⟨hl, hs⟩ := hold k hlk e
    rw [hs] at hk
    have hc' : c ∈ m.hp k := by simpa [Nm.heap, e] using hc
    obtain ⟨h1, h3⟩ := h.heap.map k es hk c hc'
    have h2 := h1
    obtain ⟨ms, clock, hx, _⟩ := h2
    have hb' : m.own c.g ≠ .heap id := by rw [h3]; simpa using e
    exact ⟨h1.mono (hsame _ (lt_of_get hx) hb'), by rw [hown' _ (lt_of_get hx) hb', h3]⟩
  · intro k es hk
    have e : k ≠ id := by intro e; subst e; rw [hid] at hk; cases hk
    have hlk : k < H'.length := (List.getElem?_eq_some_iff.1 hk).1
    obtain ⟨hl, hs⟩ := hold k hlk e
    rw [hs] at hk
    obtain ⟨g1, h1⟩ := h.heap.mone k es hk
    exact ⟨g1, fun c hc => h1 c (by simpa [Nm.heap, e] using hc)⟩
  · simp only [Nm.heap] at hk
    by_cases e : k = g
    · subst e; exact u.lt
    · rw [if_neg e] at hk
      exact Nat.lt_of_lt_of_le (h.lt k hk) u.le
  · obtain ⟨h1, h2⟩ := h.glob k hk
    have h3 := h1
    obtain ⟨ys, t', fz, h4, _⟩ := h3
    have hb' : m.own k ≠ .heap id := by rw [h2]; simp
    exact ⟨h1.mono (hsame _ (lt_of_get h4) hb'), by rw [hown' _ (lt_of_get h4) hb', h2]⟩

theorem Kept.chg {m0 : Nm} {n : Nat} {w0 : World} {g id : Nat} {cps : List Cp} (h : Kept m0 n w0 m w) (u : Chg w g w') (hg : m.own g = .heap id ∨ w.heap.size ≤ g) (hsub : id < n → ∀ c ∈ m.hp id, c ∈ cps) :
    Kept m0 n w0 (m.heap id g cps) w' where
  same := fun k hk h0 => by
    have hl : k < w.heap.size := Nat.lt_of_lt_of_le hk h.size
    rw [u.other k hl (fun e => ?_), h.same k hk h0]
    subst e
    rcases hg with hg | hg
    · rw [h.own k hk, h0] at hg; cases hg
    · omega
  os := by rw [u.os, h.os]
  tape := by rw [u.tape, h.tape]
  output := by rw [u.output, h.output]
  size := Nat.le_trans h.size u.le
  own := fun k hk => by
    have hl : k < w.heap.size := Nat.lt_of_lt_of_le hk h.size
    simp only [Nm.heap]
    split
    · rename_i e
      subst e
      rcases hg with hg | hg
      · rw [← hg, h.own k hk]
      · omega
    · exact h.own k hk
  nobox := h.nobox
  rf := h.rf
  hp := fun k hk c hc => by
    simp only [Nm.heap]
    split
    · rename_i e; subst e; exact hsub hk c (h.hp k hk c hc)
    · exact h.hp k hk c hc

theorem Kept.box {m0 : Nm} {n d : Nat} {w0 : World} {o : Obj} (h : Kept m0 n w0 m w) (u : New w o w') : Kept m0 n w0 (m.box d w.heap.size) w' where
  same := fun k hk h0 => by rw [u.other k (Nat.lt_of_lt_of_le hk h.size), h.same k hk h0]
  os := by rw [u.os, h.os]
  tape := by rw [u.tape, h.tape]
  output := by rw [u.output, h.output]
  size := by rw [u.size]; have := h.size; omega
  own := fun k hk => by
    have := h.size
    simp only [Nm.box]
    rw [if_neg (by omega), if_neg (by rw [h.own k hk]; exact h.nobox k d), h.own k hk]
  nobox := h.nobox
  rf := h.rf
  hp := h.hp
end Go.Ev
end

section
set_option linter.all false
/- Operators: what the model reckons is what the evaluator says. -/
namespace Go.Ev
variable {P : Program} {tab : Nat → Option TI} {m : Nm} {n : Nat} {w : World}

/-- The value of a whole number or a bool. -/
def cv : C → Value
  | .int k a => .int k a
  | .bool b => .bool b
  | _ => undef

def isNum : C → Bool
  | .int _ _ | .bool _ => true
  | _ => false

theorem cv_rel {hp : Nat → List Cp} {c : C} (h : isNum c = true) : CR hp n c (cv c) := by
  cases c <;> first | rfl | cases h

theorem guard_run (op : BinOp) (t : Nat) (X Y : Operand) (x y : Value) (h : ∀ cs, x ≠ .agg cs) (h' : x ≠ .nilIface) : (eqGuard op t X Y x y).run P w = .ok () w := by
  unfold eqGuard
  cases op <;> simp <;> (split <;> first | exact absurd rfl h' | exact absurd rfl (h _) | rfl)

theorem int_run (op : BinOp) (t : Nat) (k : IntKind) (a b : Int) {c : C} (h : intOp op k a b some = some c) (h1 : op ≠ .shl) (h2 : op ≠ .shr) :
    (binOp op t (.int k a) (.int k b)).run P w = .ok (cv c) w ∧ isNum c = true := by
  unfold intOp at h
  cases op <;> first
    | exact absurd rfl h1
    | exact absurd rfl h2
    | (injection h with h; subst h; exact ⟨by simp [binOp, Op.intArith, Op.intBits, Op.intCmp, cv, bitI], rfl⟩)
    | (cases hb : (b == 0)
       · rw [hb, cond_false] at h; injection h with h; subst h
         have hb' : b ≠ 0 := by simpa using hb
         exact ⟨by simp [binOp, Op.intDiv, cv, hb'], rfl⟩
       · rw [hb] at h; cases h)
    | cases h

theorem shift_run (t : Nat) (k k' : IntKind) (a b : Int) (hb : decide (b < 0) = false) :
    (binOp .shl t (.int k a) (.int k' b)).run P w = .ok (.int k (shlI k a b)) w ∧ (binOp .shr t (.int k a) (.int k' b)).run P w = .ok (.int k (shrI k a b)) w := by
  have hb' : ¬ b < 0 := by simpa using hb
  constructor <;> simp [binOp, Op.shift, hb', shlI, shrI]

theorem nil_run {op : BinOp} {t : Bool} {c : C} (h : nilOp op t some = some c) : (op = .eql ∧ c = .bool t) ∨ (op = .neq ∧ c = .bool (!t)) := by
  unfold nilOp at h
  cases op
  case eql => injection h with h; exact .inl ⟨rfl, h.symm⟩
  case neq => injection h with h; exact .inr ⟨rfl, h.symm⟩
  all_goals cases h

theorem eqFields_run (d : Nat) (xs ys : Array Value) : ∀ (fs : List Field) (k : Nat) (cs ds : List C) (us vs : List Value) (b : Bool), fs.map (·.offset) = List.range' k fs.length → fs.length = cs.length →
    (∀ f ∈ fs, f.name ≠ "_" ∧ ∃ k, P.underlying f.type = some (.int k)) → All2 (CR m.hp n) cs us → All2 (CR m.hp n) ds vs → eqCells cs ds = some b →
    (∀ (j : Nat) (v : Value), us[j]? = some v → xs[k + j]? = some v) → (∀ (j : Nat) (v : Value), vs[j]? = some v → ys[k + j]? = some v) → (Op.eqFields (d + 1) xs ys fs).run P w = .ok b w := by
  intro fs
  induction fs with
  | nil =>
    intro k cs ds us vs b _ hl _ _ _ he _ _
    have : cs = [] := by cases cs with | nil => rfl | cons c cs => simp at hl
    subst this
    cases ds with
    | nil => simp [eqCells] at he; subst he; simp [Op.eqFields]
    | cons d ds => simp [eqCells] at he
  | cons f fs ih =>
    intro k cs ds us vs b ho hl hf hu hv he hx hy
    cases cs with
    | nil => simp at hl
    | cons c cs =>
      cases c with
      | int k1 a =>
        cases ds with
        | nil => simp [eqCells] at he
        | cons e ds =>
          cases e with
          | int k2 a2 =>
            simp only [eqCells] at he
            split at he
            · rename_i hk
              subst hk
              cases hr : eqCells cs ds with
              | none => rw [hr] at he; cases he
              | some r =>
                rw [hr] at he
                simp only [Option.map_some, Option.some.injEq] at he
                subst he
                cases hu with
                | cons hu1 hu2 =>
                  cases hv with
                  | cons hv1 hv2 =>
                    rename_i u us v vs
                    simp only [CR] at hu1 hv1
                    subst hu1
                    subst hv1
                    simp only [List.map_cons, List.length_cons, List.range'_succ, List.cons.injEq] at ho
                    obtain ⟨hn, ki, hki⟩ := hf f (by simp)
                    have ha : (isAgg f.type).run P w = .ok false w := by simp [Go.isAgg, run_underlying hki]
                    have h1 : (part f.type xs f.offset).run P w = .ok (.int k1 a) w := by
                      have := hx 0 (.int k1 a) (by simp)
                      simp [part, ha, ho.1] at this ⊢
                      simp [this]
                    have h2 : (part f.type ys f.offset).run P w = .ok (.int k1 a2) w := by
                      have := hy 0 (.int k1 a2) (by simp)
                      simp [part, ha, ho.1] at this ⊢
                      simp [this]
                    have h3 := run_equalIn_int (P := P) w d f.type k1 ki a a2 hki
                    have h4 := ih (k + 1) cs ds us vs r ho.2 (by simpa using hl) (fun f hf' => hf f (by simp [hf'])) hu2 hv2 hr
                      (fun j v hj => by have := hx (j + 1) v (by simpa using hj); rw [← this]; congr 1; omega) (fun j v hj => by have := hy (j + 1) v (by simpa using hj); rw [← this]; congr 1; omega)
                    rw [Op.eqFields]
                    simp only [if_pos hn, Sem.run_bind, h1, h2, h3, Result.andThen_ok]
                    cases hab : (a == a2)
                    · simp
                    · simpa using h4
            · cases he
          | _ => simp [eqCells] at he
      | _ => simp [eqCells] at he

theorem equalIn_ptr (d t : Nat) (e : Nat) (a b : Option Addr) (h : P.underlying t = some (.pointer e)) (hab : a = none ∨ b = none) :
    (Op.equalIn (d + 1) t (.pointer a) (.pointer b)).run P w = .ok (a.isNone && b.isNone) w := by
  rcases hab with rfl | rfl
  · simp [Op.equalIn, Ev.run_underlying h]
  · cases a <;> simp [Op.equalIn, Ev.run_underlying h]

/-- An operator, run on what two abstract values stand for. -/
theorem bin_run (hT : TabOk P tab) {op : BinOp} {t : Nat} {X Y : Operand} {x y : V} {u v : Value} {c : C} (h : binV tab t op x y some = some c) (hx : VR m n x u) (hy : VR m n y v) :
    (do eqGuard op t X Y u v; binOp op t u v : Sem Value).run P w = .ok (cv c) w ∧ isNum c = true := by
  unfold binV at h
  split at h
  · rename_i k a k' b
    simp only [VR, CR] at hx hy
    subst hx
    subst hy
    have hg := guard_run (P := P) (w := w) op t X Y (.int k a) (.int k' b) (by simp) (by simp)
    simp only [Sem.run_bind, hg, Result.andThen_ok]
    split at h
    · cases hb : decide (b < 0)
      · rw [hb, cond_false] at h; injection h with h; subst h
        exact ⟨(shift_run t k k' a b hb).1, rfl⟩
      · rw [hb] at h; cases h
    · cases hb : decide (b < 0)
      · rw [hb, cond_false] at h; injection h with h; subst h
        exact ⟨(shift_run t k k' a b hb).2, rfl⟩
      · rw [hb] at h; cases h
    · rename_i h1 h2
      split at h
      · rename_i hk
        subst hk
        exact int_run op t k a b h h1 h2
      · cases h
  · rename_i a b
    simp only [VR, CR] at hx hy
    subst hx
    subst hy
    have hg := guard_run (P := P) (w := w) op t X Y (.bool a) (.bool b) (by simp) (by simp)
    simp only [Sem.run_bind, hg, Result.andThen_ok]
    split at h
    · rename_i z by_ sh eq ht
      have hu := (hT _ _ ht).under
      simp only [UnderOk] at hu
      have he : (Op.equal t (.bool a) (.bool b)).run P w = .ok (a == b) w := run_equalIn_bool' (P := P) w 9999 t a b hu
      rcases nil_run h with ⟨rfl, rfl⟩ | ⟨rfl, rfl⟩
      · exact ⟨by simp [binOp, he, cv], rfl⟩
      · exact ⟨by simp [binOp, he, cv], rfl⟩
    · cases h
  · rename_i p q
    have key : ∀ (a b : Option Addr) (r : Bool), (∃ z by_ sh eq, tab t = some ⟨.ptr, z, by_, sh, eq⟩) → u = .pointer a → v = .pointer b → (a = none ∨ b = none) → r = (a.isNone && b.isNone) → nilOp op r some = some c →
        (do eqGuard op t X Y u v; binOp op t u v : Sem Value).run P w = .ok (cv c) w ∧ isNum c = true := by
      intro a b r ⟨z, by_, sh, eq, ht⟩ ha hb hab hr h
      subst ha
      subst hb
      have hg := guard_run (P := P) (w := w) op t X Y (.pointer a) (.pointer b) (by simp) (by simp)
      simp only [Sem.run_bind, hg, Result.andThen_ok]
      obtain ⟨e, hu⟩ := (hT _ _ ht).under
      have he : (Op.equal t (.pointer a) (.pointer b)).run P w = .ok r w := by
        subst hr
        exact equalIn_ptr 9999 t e a b hu hab
      rcases nil_run h with ⟨rfl, rfl⟩ | ⟨rfl, rfl⟩
      · exact ⟨by simp [binOp, he, cv], rfl⟩
      · exact ⟨by simp [binOp, he, cv], rfl⟩
    split at h
    · rename_i ht; exact key _ _ _ ⟨_, _, _, _, ht⟩ hx hy (.inl rfl) rfl h
    · rename_i ht; exact key _ _ _ ⟨_, _, _, _, ht⟩ hx hy (.inr rfl) rfl h
    · rename_i ht; exact key _ _ _ ⟨_, _, _, _, ht⟩ hx hy (.inr rfl) rfl h
    · rename_i ht; exact key _ _ _ ⟨_, _, _, _, ht⟩ hx hy (.inl rfl) rfl h
    · rename_i ht; exact key _ _ _ ⟨_, _, _, _, ht⟩ hx hy (.inl rfl) rfl h
    · cases h
  · rename_i cs ds
    obtain ⟨us, rfl, hus⟩ := hx
    obtain ⟨vs, rfl, hvs⟩ := hy
    split at h
    · rename_i d z by_ sh b ht he0
      split at h
      · rename_i hz
        have hok := hT _ _ ht
        obtain ⟨fs, hfs⟩ := hok.eq rfl
        simp only at hfs
        subst hfs
        obtain ⟨flds, hu, hf1, hf2, hf3⟩ := hok.under
        obtain ⟨g1, g2, g3, g4, g5⟩ := hf3 rfl
        have hg : (eqGuard op t X Y (.agg us.toArray) (.agg vs.toArray)).run P w = .ok () w := by
          unfold eqGuard
          cases op <;> simp [g1]
        simp only [Sem.run_bind, hg, Result.andThen_ok]
        have hfo : P.fieldsOf t = flds := by simp [Program.fieldsOf, hu]
        have he : (Op.equal t (.agg us.toArray) (.agg vs.toArray)).run P w = .ok b w := by
          show (Op.equalIn (9999 + 1) t _ _).run P w = _
          rw [run_equalIn_struct (P := P) w 9999 t us.toArray vs.toArray (by rw [hfo]; exact hu) g2, hfo]
          refine eqFields_run (m := m) (n := n) 9998 us.toArray vs.toArray flds.toList 0 cs ds us vs b ?_ ?_ g3 hus hvs he0 (fun j v hj => by simpa using hj) (fun j v hj => by simpa using hj)
          · rw [g4, List.range_eq_range']; simp
          · simp only [Array.length_toList]; rw [hz]; exact g5.symm
        rcases nil_run h with ⟨rfl, rfl⟩ | ⟨rfl, rfl⟩
        · exact ⟨by simp [binOp, he, cv], rfl⟩
        · exact ⟨by simp [binOp, he, cv], rfl⟩
      · cases h
    · cases h
  · cases h
end Go.Ev
end

section
set_option linter.all false
/- What an operation does to the world is what the evaluator says: all operations but calls. -/
namespace Go.Ev
variable {P : Program} {tab : Nat → Option TI} {gd : Nat → List C} {B : Nat → Nat} {vs : List Nat} {m : Nm} {s s' : St} {a : Act} {w : World} {o : Oper} {v : V} {rd wr : List Root}

/-- What is so when an operation has been carried out. -/
def Does (P : Program) (o : Oper) (a : Act) (w : World) (R : Value → World → Prop) : Prop :=
  match (execOp a.eval o).run P w with
  | .ok (.value v) w' => R v w'
  | .ok .skip w' => R undef w'
  | .ok (.enter f args) w' => Calls P f args w' fun e w'' => ∃ v, e = .returned v ∧ R v w''
  | _ => False

theorem Does.value {x : Value} {w' : World} {R : Value → World → Prop} (h : (execOp a.eval o).run P w = .ok (.value x) w') (hR : R x w') : Does P o a w R := by
  unfold Does; rw [h]; exact hR
theorem Does.skip {w' : World} {R : Value → World → Prop} (h : (execOp a.eval o).run P w = .ok .skip w') (hR : R undef w') : Does P o a w R := by
  unfold Does; rw [h]; exact hR

/-- An abstract state behind an operation, and what it has kept. -/
def Done (gd : Nat → List C) (B : Nat → Nat) (vs : List Nat) (m : Nm) (s : St) (w : World) (s' : St) (a : Act) (v : V) (x : Value) (w' : World) : Prop :=
  ∃ m', SRel gd B vs m' s' a w' ∧ VR m' s'.H.length v x ∧ (∀ m0 w0, Kept m0 s.n0 w0 m w → Kept m0 s.n0 w0 m' w') ∧ s'.n0 = s.n0

theorem Done.same {x : Value} (h : SRel gd B vs m s a w) (hv : VR m s.H.length v x) : Done gd B vs m s w s a v x w := ⟨m, h, hv, fun _ _ h => h, rfl⟩

theorem run_val {α : Type} {x : α} {w' : World} {s : Sem α} (f : α → Next) (h : s.run P w = .ok x w') : (do pure (f (← s)) : Sem Next).run P w = .ok (f x) w' := by
  simp [h]

/-- A value read out of cells. -/
theorem readC_run (hT : TabOk P tab) {t : Nat} {cs : List C} {xs : List Value} {off : Nat} {hp : Nat → List Cp} {n : Nat} (h : readC tab t cs off some = some v) (hc : All2 (CR hp n) cs xs) :
    ∃ x, (∀ (g base : Nat) (ys : Array Value) (ty : TypeId) (fz : Nat × Nat), w.heap[g]? = some (.cells ys ty fz) → (∀ (j : Nat) (z : Value), xs[j]? = some z → ys[base + j]? = some z) → (loadVar t ⟨g, base + off, none⟩).run P w = .ok x w) ∧
      (part t xs.toArray off).run P w = .ok x w ∧ VR1 { lb := fun _ => 0, rf := fun _ => 0, hp := hp, own := fun _ => .none } n v x := by
  unfold readC at h
  cases ht : tab t with
  | none => rw [ht] at h; cases h
  | some ti =>
    rw [ht] at h
    simp only at h
    split at h
    · rename_i hl
      obtain ⟨hl, hz0⟩ := hl
      have hok := hT t ti ht
      split at h
      · rename_i hagg
        injection h with h
        subst h
        have hnt := agg_not_tup hagg
        refine ⟨.agg ((xs.drop off).take ti.zero.length).toArray, fun g base ys ty fz hg hy => ?_, ?_, _, rfl, (hc.drop off).take _⟩
        · have hlen : ((xs.drop off).take ti.zero.length).length = ti.zero.length := by
            have := hc.length
            simp; omega
          have h1 := run_loads P w g (base + off) ys ty fz ((xs.drop off).take ti.zero.length) hg (fun j z hj => by
            rw [List.getElem?_take] at hj
            split at hj
            · rw [List.getElem?_drop] at hj
              have := hy _ _ hj
              rw [← this]; congr 1; omega
            · cases hj)
          rw [hlen] at h1
          simp [loadVar, hok.isAgg hnt, hok.size hnt, hagg, h1]
        · simp [part, hok.isAgg hnt, hok.size hnt, hagg]
      · rename_i hagg
        split at h
        · rename_i hz
          cases hd : cs.drop off with
          | nil => rw [hd] at h; cases h
          | cons c r =>
            rw [hd] at h
            injection h with h
            subst h
            have hco : cs[off]? = some c := by
              have : (cs.drop off)[0]? = some c := by rw [hd]; rfl
              rw [List.getElem?_drop] at this
              simpa using this
            obtain ⟨x, hx, hr⟩ := hc.get off c hco
            have hnt := hok.not_tup (by omega)
            have hagg' : ti.d.agg = false := by simpa using hagg
            refine ⟨x, fun g base ys ty fz hg hy => ?_, ?_, hr⟩
            · simp only [loadVar, Sem.run_bind, hok.isAgg hnt, Result.andThen_ok, hagg', Bool.false_eq_true, if_false]
              exact run_load1 P w g (base + off) ys ty fz x hg (hy _ _ hx)
            · simp [part, hok.isAgg hnt, hagg', hx]
        · cases h
    · cases h

theorem VR1.to {m m' : Nm} {n : Nat} {v : V} {x : Value} (h : VR1 m n v x) (hp : m.hp = m'.hp) : VR m' n v x := by
  cases v with
  | one c => simp only [VR1, VR, hp] at *; exact h
  | agg cs => simp only [VR1, VR, hp] at *; exact h
  | _ => exact h.elim

theorem VR1.hp {m m' : Nm} {n : Nat} {v : V} {x : Value} (h : VR1 m n v x) (hp : m.hp = m'.hp) : VR1 m' n v x := by
  cases v with
  | one c => simp only [VR1, hp] at *; exact h
  | agg cs => simp only [VR1, hp] at *; exact h
  | _ => exact h.elim

/-- Shaped cells are the same cells. -/
theorem shapeC_same (sh : List Sh) (cs ds : List C) (h : shapeC sh cs some = some ds) : ds = cs := by
  have key : ∀ (sh : List Sh) (cs : List C) (F : List C → Option (List C)) (ds : List C), shapeC sh cs F = some ds → F cs = some ds := by
    intro sh
    induction sh with
    | nil => intro cs F ds h; cases cs with
      | nil => exact h
      | cons c cs => cases h
    | cons s sh ih =>
      intro cs F ds h
      cases cs with
      | nil => cases s <;> cases h
      | cons c cs => cases s with
        | int k =>
          simp only [shapeC, asI] at h
          split at h
          · split at h
            · rename_i hk; subst hk; exact ih cs _ ds h
            · cases h
          · cases h
        | bool =>
          simp only [shapeC, asB] at h
          split at h
          · exact ih cs _ ds h
          · cases h
        | other => exact ih cs _ ds h
  have := key sh cs some ds h
  injection this with this; exact this.symm

theorem shapeC_len (sh : List Sh) : ∀ (cs ds : List C), shapeC sh cs some = some ds → cs.length = sh.length := by
  intro cs
  have key : ∀ (sh : List Sh) (cs : List C) {β : Type} (F : List C → Option β) (d : β), shapeC sh cs F = some d → cs.length = sh.length := by
    intro sh
    induction sh with
    | nil => intro cs β F d h; cases cs with
      | nil => rfl
      | cons c cs => cases h
    | cons s sh ih =>
      intro cs β F d h
      cases cs with
      | nil => cases s <;> cases h
      | cons c cs => cases s with
        | int k =>
          simp only [shapeC, asI] at h
          split at h
          · split at h
            · simp [ih cs _ d h]
            · cases h
          · cases h
        | bool =>
          simp only [shapeC, asB] at h
          split at h
          · simp [ih cs _ d h]
          · cases h
        | other => simp only [shapeC] at h; simp [ih cs _ d h]
  intro ds h
  exact key sh cs some ds h

theorem All2.sub {α β : Type} {R : α → β → Prop} {as : List α} {bs : List β} (h : All2 R as bs) (i n : Nat) : All2 R ((as.drop i).take n) ((bs.drop i).take n) := (h.drop i).take n

/-- Where an abstract block's cells are read, the world's copy has them. -/
theorem elt_cells {hp : Nat → List Cp} {n : Nat} {c : Cp} {kd : Nat} {cs : List C} {i k : Nat} (h : CpAt hp n w c kd cs) (hi : i + k ≤ c.p) :
    ∃ (xs : Array Value) (t : TypeId) (fz : Nat × Nat) (zs : List Value), w.heap[c.g]? = some (.cells xs t fz) ∧ All2 (CR hp n) ((cs.drop i).take k) zs ∧ zs.length = k ∧ ∀ (j : Nat) (v : Value), zs[j]? = some v → xs[c.base + i + j]? = some v := by
  obtain ⟨h1, h2, xs, t, fz, h3, h4, h5, h6⟩ := h
  have hb : c.base + i + k ≤ xs.size := by omega
  refine ⟨xs, t, fz, (List.range k).map fun j => xs.getD (c.base + i + j) undef, h3, ?_, by simp, fun j v hj => ?_⟩
  · refine All2.of_get (by simp; omega) fun j a b ha hb' => ?_
    rw [List.getElem?_take] at ha
    split at ha
    · rename_i hjk
      rw [List.getElem?_drop] at ha
      obtain ⟨x, hx, hr⟩ := h5 (i + j) a (by omega) ha
      have : xs[c.base + i + j]? = some x := by rw [← hx]; congr 1; omega
      simp only [List.getElem?_map, List.getElem?_range hjk, Option.map_some, Option.some.injEq] at hb'
      rw [Array.getD_eq_getD_getElem?, this] at hb'
      simp at hb'
      subst hb'
      exact hr
    · cases ha
  · simp only [List.getElem?_map] at hj
    by_cases hjk : j < k
    · rw [List.getElem?_range hjk] at hj
      simp only [Option.map_some, Option.some.injEq] at hj
      have : c.base + i + j < xs.size := by omega
      rw [Array.getD_eq_getD_getElem?, Array.getElem?_eq_getElem this] at hj
      rw [Array.getElem?_eq_getElem this]
      simpa using hj
    · rw [List.getElem?_eq_none (by simp; omega)] at hj
      cases hj
end Go.Ev
end

section
set_option linter.all false
/- The evaluator hands its answer on: what a continuation makes of it, it makes of the plain answer. -/
namespace Go.Ev
variable {α : Type}

theorem cond_bind {β : Type} (b : Bool) (x y : Option β) (K : β → Option α) : (bif b then x else y).bind K = bif b then x.bind K else y.bind K := by cases b <;> rfl
theorem ite_bind {β : Type} (p : Prop) [Decidable p] (x y : Option β) (K : β → Option α) : (if p then x else y).bind K = if p then x.bind K else y.bind K := by split <;> rfl

theorem intOp_bind (op : BinOp) (k : IntKind) (a b : Int) (K : C → Option α) : intOp op k a b K = (intOp op k a b some).bind K := by
  unfold intOp
  cases op <;> first | rfl | (rw [cond_bind]; rfl)

theorem nilOp_bind (op : BinOp) (t : Bool) (K : C → Option α) : nilOp op t K = (nilOp op t some).bind K := by
  unfold nilOp
  cases op <;> rfl

theorem binV_bind (tab : Nat → Option TI) (t : Nat) (op : BinOp) (x y : V) (K : C → Option α) : binV tab t op x y K = (binV tab t op x y some).bind K := by
  unfold binV
  split
  · split
    · rw [cond_bind]; rfl
    · rw [cond_bind]; rfl
    · rw [ite_bind, ← intOp_bind]; rfl
  · split <;> first | exact nilOp_bind _ _ _ | rfl
  · split <;> first | exact nilOp_bind _ _ _ | rfl
  · split
    · rw [ite_bind, ← nilOp_bind]; rfl
    · rfl
  · rfl

variable {tab : Nat → Option TI} {gd : Nat → List C}

theorem readC_bind (t : Nat) (cs : List C) (off : Nat) (K : V → Option α) : readC tab t cs off K = (readC tab t cs off some).bind K := by
  unfold readC
  split
  · rfl
  · rw [ite_bind, ite_bind]
    split
    · split
      · rfl
      · rw [ite_bind]
        refine ite_congr rfl (fun _ => ?_) (fun _ => rfl)
        split <;> rfl
    · rfl

theorem asI_bind {β : Type} (k : IntKind) (c : C) (F : Int → Option β) (K : β → Option α) : asI k c (fun n => (F n).bind K) = (asI k c F).bind K := by
  unfold asI
  split
  · split <;> rfl
  · rfl
theorem asB_bind {β : Type} (c : C) (F : Bool → Option β) (K : β → Option α) : asB c (fun n => (F n).bind K) = (asB c F).bind K := by
  unfold asB
  split <;> rfl

theorem shapeC_bind (sh : List Sh) (cs : List C) {β : Type} (F : List C → Option β) (K : β → Option α) : shapeC sh cs (fun cs => (F cs).bind K) = (shapeC sh cs F).bind K := by
  induction sh generalizing cs F with
  | nil => cases cs <;> rfl
  | cons s sh ih => cases cs with
    | nil => cases s <;> rfl
    | cons c cs => cases s with
      | int k => simp only [shapeC]; rw [← asI_bind]; congr; funext n; exact ih cs fun cs => F (.int k n :: cs)
      | bool => simp only [shapeC]; rw [← asB_bind]; congr; funext n; exact ih cs fun cs => F (.bool n :: cs)
      | other => simp only [shapeC]; exact ih cs fun cs => F (c :: cs)

theorem shapeC_eq (sh : List Sh) (cs : List C) (K : List C → Option α) : shapeC sh cs K = (shapeC sh cs some).bind K := shapeC_bind sh cs some K

theorem shape1_bind (t : Nat) (v : V) {β : Type} (F : V → Option β) (K : β → Option α) : shape1 tab t v (fun v => (F v).bind K) = (shape1 tab t v F).bind K := by
  unfold shape1
  split
  · rfl
  · rw [ite_bind]
    split
    · split
      · exact shapeC_bind _ _ (fun cs => F (.agg cs)) K
      · rfl
    · split
      · rw [← shapeC_bind]; congr; funext cs; split <;> rfl
      · rfl

theorem shapeL_bind (ts : List Nat) (vs : List V) {β : Type} (F : List V → Option β) (K : β → Option α) : shapeL tab ts vs (fun v => (F v).bind K) = (shapeL tab ts vs F).bind K := by
  induction ts generalizing vs F with
  | nil => cases vs <;> rfl
  | cons t ts ih => cases vs with
    | nil => rfl
    | cons v vs => simp only [shapeL]; rw [← shape1_bind]; congr; funext v; exact ih vs fun vs => F (v :: vs)

theorem shapeV_bind (t : Nat) (v : V) {β : Type} (F : V → Option β) (K : β → Option α) : shapeV tab t v (fun v => (F v).bind K) = (shapeV tab t v F).bind K := by
  unfold shapeV
  split
  · rfl
  · split
    · split
      · exact shapeL_bind _ _ (fun vs => F (.tup vs)) K
      · rfl
    · exact shape1_bind _ _ _ _

theorem shapeB_bind (as bs : List Box) {β : Type} (F : List Box → Option β) (K : β → Option α) : shapeB tab as bs (fun v => (F v).bind K) = (shapeB tab as bs F).bind K := by
  induction as generalizing bs F with
  | nil => cases bs <;> rfl
  | cons a as ih => cases bs with
    | nil => simp only [shapeB]; split <;> rfl
    | cons b bs =>
      simp only [shapeB]
      split
      · rfl
      · rw [← shapeC_bind]; congr; funext cs; exact ih bs fun bs => F ((a.1, cs) :: bs)

abbrev pair2 {β γ : Type} : β → γ → Option (β × γ) := fun a b => some (a, b)

theorem loadV_bind (s : St) (cx : Option Cx) (t : Nat) (p : Ptr) (K : V → List Root → Option α) :
    loadV tab gd s cx t p K = (loadV tab gd s cx t p pair2).bind fun x => K x.1 x.2 := by
  unfold loadV
  split
  · split
    · rw [readC_bind, readC_bind _ _ _ (fun v => pair2 v _), Option.bind_assoc]; rfl
    · rfl
  · split
    · rw [readC_bind, readC_bind _ _ _ (fun v => pair2 v _), Option.bind_assoc]; rfl
    · rfl
  · split
    · rfl
    · rw [ite_bind]
      refine ite_congr rfl (fun _ => ?_) (fun _ => rfl)
      unfold rdS
      rw [← shapeC_bind]; congr; funext cs
      rw [ite_bind]
      refine ite_congr rfl (fun _ => rfl) (fun _ => ?_)
      split <;> rfl
  · rw [readC_bind, readC_bind _ _ _ (fun v => pair2 v _), Option.bind_assoc]; rfl
  · rfl

theorem storeV_bind (s : St) (cx : Option Cx) (t : Nat) (p : Ptr) (xs : List C) (K : St → List Root → Option α) :
    storeV tab s cx t p xs K = (storeV tab s cx t p xs pair2).bind fun x => K x.1 x.2 := by
  unfold storeV
  rw [ite_bind]
  split
  · split
    · split
      · rw [ite_bind]; rfl
      · rfl
    · split
      · rw [ite_bind]; rfl
      · rfl
    · split
      · rw [ite_bind, cond_bind]; rfl
      · rfl
    · rfl
  · rfl

theorem eltC_bind (c : C) (sz : Nat) (i : Int) (K : Ptr → Option α) : eltC c sz i K = (eltC c sz i some).bind K := by
  unfold eltC
  split
  · rw [ite_bind, cond_bind]; rfl
  · rfl

theorem sliceC_bind (c : C) (sz : Nat) (lo hi : Option Int) (K : C → Option α) : sliceC c sz lo hi K = (sliceC c sz lo hi some).bind K := by
  unfold sliceC
  split
  · rw [ite_bind, cond_bind]; rfl
  · rw [cond_bind]; rfl
  · rfl

theorem foldI_bind (f : IntKind → Int → Int → C) (v : V) (vs : List V) (K : V → Option α) : foldI f v vs K = (foldI f v vs some).bind K := by
  induction vs generalizing v with
  | nil => cases v with
    | one c => cases c <;> rfl
    | _ => rfl
  | cons x vs ih => cases v with
    | one c => cases c with
      | int k a => cases x with
        | one d => cases d with
          | int k' b => exact ih _
          | _ => rfl
        | _ => rfl
      | _ => rfl
    | _ => rfl

theorem appendC_bind (H : Heap) (n0 sz bytes : Nat) (c : C) (xs : List C) (K : C → Heap → Option α) :
    appendC H n0 sz bytes c xs K = (appendC H n0 sz bytes c xs pair2).bind fun x => K x.1 x.2 := by
  unfold appendC
  split
  · rw [cond_bind, ite_bind]; rfl
  · rw [cond_bind]
    congr 1
    split
    · rw [ite_bind, ite_bind, ite_bind]; rfl
    · rfl
  · rfl

theorem copyC_bind (H : Heap) (n0 sz : Nat) (c : C) (xs : List C) (K : Int → Heap → Option α) :
    copyC H n0 sz c xs K = (copyC H n0 sz c xs pair2).bind fun x => K x.1 x.2 := by
  unfold copyC
  split
  · rfl
  · split
    · rw [ite_bind]; rfl
    · rfl
  · rfl

variable {call : Nat → List V → List Box → Heap → Option Res}
abbrev trip {β γ δ : Type} : β → γ → δ → Option (β × γ × δ) := fun a b c => some (a, b, c)
abbrev quad {β γ δ ε : Type} : β → γ → δ → ε → Option (β × γ × δ × ε) := fun a b c d => some (a, b, c, d)

theorem callV_bind (lk : Bool) (g : Nat) (args : List V) (ty : Nat) (s : St) (K : V → St → List Root → Option α) :
    callV tab call lk g args ty s K = (callV tab call lk g args ty s trip).bind fun x => K x.1 x.2.1 x.2.2 := by
  unfold callV
  split
  · rfl
  · split
    · rfl
    · rw [Option.bind_assoc]
      congr; funext x
      obtain ⟨r, bs', H'⟩ := x
      dsimp only
      rw [← shapeV_bind]; congr; funext r
      rw [← shapeB_bind]; congr; funext bs'
      rw [ite_bind]; rfl

theorem makeV_bind (cx : Option Cx) (s : St) (ti : TI) (n m : Int) (K : V → St → Option α) : makeV cx s ti n m K = (makeV cx s ti n m pair2).bind fun x => K x.1 x.2 := by
  unfold makeV
  rw [cond_bind]
  cases (decide (0 ≤ n) && decide (n ≤ m) && decide (m ≤ 2 ^ 40) && decide (m * ti.bytes ≤ 2 ^ 40) && !ti.zero.isEmpty)
  · rfl
  · simp only [cond_true]
    split <;> rfl

theorem sliceV_bind (s : St) (t : Nat) (x lo hi mx : Option Operand) (K : C → Option α) : sliceV tab s t x lo hi mx K = (sliceV tab s t x lo hi mx some).bind K := by
  unfold sliceV
  split
  · exact sliceC_bind _ _ _ _ _
  · rw [cond_bind, ← sliceC_bind]; rfl
  · rfl

theorem builtinV_bind (cx : Option Cx) (b : Builtin) (c : Call) (s : St) (K : V → St → Option α) :
    builtinV tab cx b c s K = (builtinV tab cx b c s pair2).bind fun x => K x.1 x.2 := by
  unfold builtinV
  split
  · split <;> rfl
  · rw [foldI_bind, foldI_bind _ _ _ (fun v => pair2 v s), Option.bind_assoc]; rfl
  · rw [foldI_bind, foldI_bind _ _ _ (fun v => pair2 v s), Option.bind_assoc]; rfl
  · split
    · split
      · split
        · rw [ite_bind]
          split
          · rfl
          · rw [appendC_bind, appendC_bind _ _ _ _ _ _ (fun v H => pair2 (V.one v) _), Option.bind_assoc]; rfl
        · rfl
      · rfl
    · rfl
  · split
    · split
      · split
        · rw [ite_bind]
          split
          · rfl
          · rw [copyC_bind, copyC_bind _ _ _ _ _ (fun n H => pair2 (V.one (C.int IntKind.i64 n)) _), Option.bind_assoc]; rfl
        · rfl
      · rfl
    · rfl
  · rfl

theorem act_bind (cx : Option Cx) (o : Oper) (s : St) (K : V → St → List Root → List Root → Option α) :
    act tab gd call cx o s K = (act tab gd call cx o s quad).bind fun x => K x.1 x.2.1 x.2.2.1 x.2.2.2 := by
  unfold act
  split
  · rfl
  · rfl
  · split
    · rw [cond_bind]; rfl
    · rfl
  · split
    · rw [ite_bind, ite_bind]; rfl
    · rfl
  · split
    · rw [ite_bind, ite_bind]; rfl
    · rfl
  · split
    · split <;> rfl
    · rfl
  · split
    · split
      · split
        · rw [ite_bind]; rfl
        · rfl
      · rfl
    · rfl
  · split
    · rw [loadV_bind, loadV_bind _ _ _ _ (fun v rd => quad v s rd []), Option.bind_assoc]; rfl
    · rfl
  · split
    · rw [storeV_bind, storeV_bind _ _ _ _ _ (fun s wr => quad (V.tup []) s [] wr), Option.bind_assoc]; rfl
    · rfl
  · split
    · split <;> rfl
    · rfl
    · rfl
    · rfl
  · rw [binV_bind, binV_bind _ _ _ _ _ (fun c => quad (V.one c) s [] []), Option.bind_assoc]; rfl
  · split <;> rfl
  · split <;> rfl
  · split
    · split
      · rw [makeV_bind, makeV_bind _ _ _ _ _ (fun v s => quad v s [] []), Option.bind_assoc]; rfl
      · rfl
    · rfl
  · rw [sliceV_bind, sliceV_bind _ _ _ _ _ _ (fun c => quad (V.one c) s [] []), Option.bind_assoc]; rfl
  · split
    · split <;> rfl
    · rfl
  · split
    · rw [readC_bind, readC_bind _ _ _ (fun v => quad v s [] []), Option.bind_assoc]; rfl
    · rfl
  · split
    · rw [eltC_bind, eltC_bind _ _ _ (fun p => quad (V.ptr p) s [] []), Option.bind_assoc]; rfl
    · split
      · rfl
      · rw [cond_bind]; rfl
    · rfl
  · split
    · rw [cond_bind, readC_bind, readC_bind _ _ _ (fun v => quad v s [] []), Option.bind_assoc]; rfl
    · rfl
  · split
    · split <;> rfl
    · rfl
  · split <;> rfl
  · split
    · rw [ite_bind]; rfl
    · rfl
  · split
    · split
      · rw [ite_bind]; rfl
      · rfl
    · rfl
  · split
    · split
      · rw [ite_bind]; rfl
      · rfl
    · rfl
  · split
    · rw [builtinV_bind, builtinV_bind _ _ _ _ (fun v s => quad v s [] []), Option.bind_assoc]; rfl
    · split
      · rw [callV_bind, callV_bind _ _ _ _ _ (fun v s rs => quad v s rs rs), Option.bind_assoc]; rfl
      · rw [callV_bind, callV_bind _ _ _ _ _ (fun v s rs => quad v s rs rs), Option.bind_assoc]; rfl
      · rfl
    · rfl
  · rfl

end Go.Ev
end

section
set_option linter.all false
/- Loads and stores. -/
namespace Go.Ev
variable {P : Program} {tab : Nat → Option TI} {gd : Nat → List C} {B : Nat → Nat} {vs : List Nat} {m : Nm} {s s' : St} {a : Act} {w : World} {v : V} {rd wr : List Root}

theorem loadAt_run {t : Nat} {ad : Addr} {x : Value} (h : (loadVar t ad).run P w = .ok x w) : (Instr.loadAt t (.pointer (some ad))).run P w = .ok x w := by
  simp [Instr.loadAt, Instr.sureAddr, h]

theorem memAt_of {H : Heap} {id : Nat} {cs : List C} (h : memAt H id = cs) (hc : cs ≠ []) : ∃ kd, H[id]? = some (.mem kd cs) := by
  unfold memAt at h
  rw [List.getD_eq_getElem?_getD] at h
  cases hg : H[id]? with
  | none => rw [hg] at h; exact absurd h.symm hc
  | some b =>
    rw [hg] at h
    cases b with
    | mem kd cs' => exact ⟨kd, by rw [← h]; rfl⟩
    | dead => exact absurd h.symm hc
    | map es => exact absurd h.symm hc

/-- A value read where a pointer leads. H0: the heap that elements are read of: what the heap begins with. -/
theorem load_run (hT : TabOk P tab) (h : SRel gd B vs m s a w) {cx : Option Cx} {t : Nat} {p : Ptr} {x : Value} (hl : loadV tab gd s cx t p pair2 = some (v, rd)) (hp : PR m s.H.length p x)
    (hvs : ∀ b off, p = .loc b off → b ∉ vs)
    (hH : ∀ c, cx = some c → ∀ (id kd : Nat) (cs : List C), c.H0[id]? = some (.mem kd cs) → ∃ (kd' : Nat) (cs' : List C), s.H[id]? = some (.mem kd' cs') ∧ cs'.take cs.length = cs) :
    ∃ y, (Instr.loadAt t x).run P w = .ok y w ∧ VR m s.H.length v y := by
  unfold loadV at hl
  cases p with
  | nil => cases hl
  | loc b off =>
    simp only at hl
    split at hl
    · rename_i ty cs hb
      rw [readC_bind] at hl
      cases hr : readC tab t cs off some with
      | none => rw [hr] at hl; cases hl
      | some v' =>
        rw [hr] at hl
        simp only [Option.bind_some, pair2, Option.some.injEq, Prod.mk.injEq] at hl
        obtain ⟨rfl, -⟩ := hl
        have hb' : s.L[b]? = some (some (ty, cs)) := by
          rw [List.getD_eq_getElem?_getD] at hb
          cases hg : s.L[b]? with
          | none => rw [hg] at hb; cases hb
          | some z => rw [hg] at hb; simp at hb; rw [hb]
        obtain ⟨⟨xs, ty', hx, hc⟩, ho⟩ := h.box b ty cs hb' (hvs b off rfl)
        obtain ⟨y, hy, _, hv⟩ := readC_run (P := P) (w := w) hT hr hc
        refine ⟨y, ?_, hv.to rfl⟩
        rw [show x = .pointer (some ⟨m.lb b, off, none⟩) from hp]
        refine loadAt_run ?_
        have := hy (m.lb b) 0 xs.toArray ty' (0, 0) hx (fun j z hj => by simpa using hj)
        simpa using this
    · cases hl
  | ref j off =>
    simp only at hl
    split at hl
    · rename_i ty cs hb
      rw [readC_bind] at hl
      cases hr : readC tab t cs off some with
      | none => rw [hr] at hl; cases hl
      | some v' =>
        rw [hr] at hl
        simp only [Option.bind_some, pair2, Option.some.injEq, Prod.mk.injEq] at hl
        obtain ⟨rfl, -⟩ := hl
        obtain ⟨⟨xs, ty', hx, hc⟩, ho⟩ := h.ref j ty cs hb
        obtain ⟨y, hy, _, hv⟩ := readC_run (P := P) (w := w) hT hr hc
        refine ⟨y, ?_, hv.to rfl⟩
        rw [show x = .pointer (some ⟨m.rf j, off, none⟩) from hp]
        refine loadAt_run ?_
        have := hy (m.rf j) 0 xs.toArray ty' (0, 0) hx (fun j z hj => by simpa using hj)
        simpa using this
    · cases hl
  | glob g off =>
    simp only at hl
    rw [readC_bind] at hl
    cases hr : readC tab t (gd g) off some with
    | none => rw [hr] at hl; cases hl
    | some v' =>
      rw [hr] at hl
      simp only [Option.bind_some, pair2, Option.some.injEq, Prod.mk.injEq] at hl
      obtain ⟨rfl, -⟩ := hl
      have hne : gd g ≠ [] := by
        intro e
        rw [e] at hr
        unfold readC at hr
        split at hr
        · cases hr
        · split at hr
          · rename_i h1; simp at h1; exact absurd h1.1.2 h1.2
          · cases hr
      obtain ⟨⟨xs, ty', fz, hx, hc⟩, ho⟩ := h.glob g hne
      obtain ⟨y, hy, _, hv⟩ := readC_run (P := P) (w := w) hT hr hc
      refine ⟨y, ?_, ?_⟩
      · rw [show x = .pointer (some ⟨g, off, none⟩) from hp]
        refine loadAt_run ?_
        have := hy g 0 xs.toArray ty' fz hx (fun j z hj => by simpa using hj)
        simpa using this
      · have h5 : VR1 { lb := fun _ => 0, rf := fun _ => 0, hp := m.hp, own := fun _ => .none } s.H.length v' y := by
          refine VR1.mono (Nat.zero_le _) ?_ hv
          exact ⟨rfl, rfl, fun id hid => by omega⟩
        exact h5.to rfl
  | elt id i k =>
    obtain ⟨hid, c, hc, hx, hik⟩ := hp
    simp only at hl
    split at hl
    · cases hl
    · rename_i ti ht
      split at hl
      · rename_i hcond
        obtain ⟨h1, h2, h3, _⟩ := hcond
        have hok := hT t ti ht
        have hnt := hok.not_tup h2
        unfold rdS at hl
        generalize hH0 : rdHeap s cx = H0 at hl
        rw [shapeC_eq] at hl
        cases hs : shapeC ti.sh (((memAt H0 id).drop i).take ti.sh.length) some with
        | none => rw [hs] at hl; cases hl
        | some ds =>
          rw [hs] at hl
          simp only [Option.bind_some] at hl
          have hds := shapeC_same _ _ _ hs
          have hlen := shapeC_len _ _ _ hs
          have hne : memAt H0 id ≠ [] := by
            intro e
            rw [e] at hlen
            simp at hlen
            omega
          obtain ⟨kd0, hm0⟩ := memAt_of rfl hne
          obtain ⟨kd, cs, hm, hpre⟩ : ∃ kd cs, s.H[id]? = some (.mem kd cs) ∧ cs.take (memAt H0 id).length = memAt H0 id := by
            cases cx with
            | none => simp only [rdHeap] at hH0; subst hH0; exact ⟨kd0, _, hm0, List.take_length⟩
            | some c => simp only [rdHeap] at hH0; subst hH0; exact hH c rfl id kd0 _ hm0
          have hcells := h.heap.cells id kd cs hm c hc
          have hlen' : i + ti.sh.length ≤ (memAt H0 id).length := by
            simp only [List.length_take, List.length_drop] at hlen
            omega
          have hcs : (cs.drop i).take ti.sh.length = ((memAt H0 id).drop i).take ti.sh.length := by
            apply List.ext_getElem?
            intro j
            simp only [List.getElem?_take, List.getElem?_drop]
            split
            · rw [← hpre, List.getElem?_take, if_pos (by omega)]
            · rfl
          obtain ⟨xs, ty, fz, zs, hg, hz, hzl, hzx⟩ := elt_cells (k := ti.sh.length) (i := i) hcells (by rw [h1]; omega)
          rw [hcs, ← hds] at hz
          have hbl : bnd B s.n0 s.H.length id ≤ s.H.length := by
            unfold bnd
            split
            · rename_i hk; exact Nat.le_trans (h.B id hk) h.n0
            · exact Nat.le_refl _
          have hz' : All2 (CR m.hp s.H.length) ds zs := hz.mono fun _ _ h' => CR.mono hbl (fun _ _ _ h => h) h'
          rw [hx]
          by_cases hagg : ti.d.agg = true
          · rw [if_pos hagg] at hl
            simp only [pair2, Option.some.injEq, Prod.mk.injEq] at hl
            obtain ⟨rfl, -⟩ := hl
            refine ⟨.agg zs.toArray, loadAt_run ?_, zs, rfl, hz'⟩
            have h4 := run_loads P w c.g (c.base + i) xs ty fz zs hg hzx
            rw [hzl, h1] at h4
            simp [loadVar, hok.isAgg hnt, hok.size hnt, hagg, h4]
          · rw [if_neg hagg] at hl
            split at hl
            · rename_i c0
              simp only [pair2, Option.some.injEq, Prod.mk.injEq] at hl
              obtain ⟨rfl, -⟩ := hl
              cases hz' with
              | cons hz1 hz2 =>
                rename_i z zs
                refine ⟨z, loadAt_run ?_, hz1⟩
                have hagg' : ti.d.agg = false := by simpa using hagg
                simp only [loadVar, Sem.run_bind, hok.isAgg hnt, Result.andThen_ok, hagg', Bool.false_eq_true, if_false]
                exact run_load1 P w c.g (c.base + i) xs ty fz z hg (by have := hzx 0 z (by simp); simpa using this)
            · cases hl
      · cases hl
end Go.Ev
end

section
set_option linter.all false
/- Stores. -/
namespace Go.Ev
variable {P : Program} {tab : Nat → Option TI} {gd : Nat → List C} {B : Nat → Nat} {vs : List Nat} {m : Nm} {s s' : St} {a : Act} {w : World} {v : V} {rd wr : List Root}

theorem put_get {α : Type} (cs ys : List α) (off j : Nat) (h : off + ys.length ≤ cs.length) :
    (cs.take off ++ ys ++ cs.drop (off + ys.length))[j]? = if j < off then cs[j]? else if j < off + ys.length then ys[j - off]? else cs[j]? := by
  simp only [List.getElem?_append, List.getElem?_take, List.getElem?_drop, List.length_append, List.length_take]
  have e : min off cs.length = off := by omega
  rw [e]
  by_cases h1 : j < off
  · rw [if_pos (by omega), if_pos h1, if_pos h1, if_pos h1]
  · by_cases h2 : j < off + ys.length
    · rw [if_pos h2, if_neg h1, if_neg h1, if_pos h2]
    · rw [if_neg h2, if_neg h1, if_neg h2]
      congr 1; omega

theorem put_len {α : Type} (cs ys : List α) (off : Nat) (h : off + ys.length ≤ cs.length) : (cs.take off ++ ys ++ cs.drop (off + ys.length)).length = cs.length := by
  simp; omega

theorem CR.flat {hp hp' : Nat → List Cp} {n n' : Nat} {c : C} {x : Value} (h : CR hp n c x) (hf : flatC c = true) : CR hp' n' c x := by
  cases c <;> first | exact h | cases hf

theorem storeAt_run {t : Nat} {ti : TI} {ad : Addr} {y : Value} {zs : List Value} {w' : World} (hok : TyOk P t ti) (hnt : ∀ ts, ti.d ≠ .tup ts) (hy : y.cells = zs.toArray) (hl : zs.length = ti.zero.length)
    (h : (storeCells ad zs).run P w = .ok () w') : (Instr.storeAt t (.pointer (some ad)) y).run P w = .ok () w' := by
  simp [Instr.storeAt, Instr.sureAddr, storeVar, hok.size hnt, hy, hl, h]

theorem bnd_le (h : SRel gd B vs m s a w) (id : Nat) : bnd B s.n0 s.H.length id ≤ s.H.length := by
  unfold bnd
  split
  · rename_i hk; exact Nat.le_trans (h.B id hk) h.n0
  · exact Nat.le_refl _

/-- A store where a pointer leads. -/
theorem store_run (hT : TabOk P tab) (h : SRel gd B vs m s a w) {cx : Option Cx} {t : Nat} {p : Ptr} {xs : List C} {x y : Value} {zs : List Value} (hs : storeV tab s cx t p xs pair2 = some (s', wr))
    (hp : PR m s.H.length p x) (hc : All2 (CR m.hp s.H.length) xs zs) (hy : y.cells = zs.toArray) (hvs : ∀ b off, p = .loc b off → b ∉ vs) :
    ∃ w' m', (Instr.storeAt t x y).run P w = .ok () w' ∧ SRel gd B vs m' s' a w' ∧ (∀ m0 w0, Kept m0 s.n0 w0 m w → Kept m0 s.n0 w0 m' w') ∧ m'.lb = m.lb ∧ s'.fr = s.fr ∧ s'.n0 = s.n0 ∧ m.Le s.H.length m' ∧ s'.H.length = s.H.length := by
  unfold storeV at hs
  split at hs
  · rename_i hsz
    obtain ⟨hsz, hne⟩ := hsz
    have hone : ∀ z ∈ zs, z.oneCell' = true := by
      intro z hz
      obtain ⟨i, hi⟩ := List.getElem?_of_mem hz
      obtain ⟨c, _, hr⟩ := hc.getR i z hi
      exact hr.oneCell
    cases ht : tab t with
    | none => simp [sizeT, ht] at hsz; exact absurd hsz (by intro e; exact hne (by simp [e]))
    | some ti =>
      have hok := hT t ti ht
      rw [sizeT_of ht] at hsz
      have hnt := hok.not_tup (by omega)
      have hzl : zs.length = ti.zero.length := by rw [← hc.length, hsz]
      cases p with
      | nil => cases hs
      | glob g off => cases hs
      | loc b off =>
        simp only at hs
        split at hs
        · rename_i ty cs hb
          split at hs
          · rename_i hle
            simp only [pair2, Option.some.injEq, Prod.mk.injEq] at hs
            obtain ⟨rfl, -⟩ := hs
            have hb' : s.L[b]? = some (some (ty, cs)) := by
              rw [List.getD_eq_getElem?_getD] at hb
              cases hg : s.L[b]? with
              | none => rw [hg] at hb; cases hb
              | some z => rw [hg] at hb; simp at hb; rw [hb]
            obtain ⟨⟨us, ty', hx, hcu⟩, ho⟩ := h.box b ty cs hb' (hvs b off rfl)
            have hlen := hcu.length
            obtain ⟨w', hr, u⟩ := run_stores P (m.lb b) ty' zs w off 0 us hx (by rw [← hc.length]; omega) hone
            refine ⟨w', m, ?_, h.setBox hb' (hvs b off rfl) hcu hc (by simpa using u), fun m0 w0 hk => hk.trans_upd u (by rw [ho]; simp), rfl, rfl, rfl, ⟨rfl, rfl, fun _ _ _ h => h⟩, rfl⟩
            rw [show x = .pointer (some ⟨m.lb b, off, none⟩) from hp]
            exact storeAt_run hok hnt hy hzl hr
          · cases hs
        · cases hs
      | ref j off =>
        simp only at hs
        split at hs
        · rename_i ty cs hb
          split at hs
          · rename_i hle
            simp only [pair2, Option.some.injEq, Prod.mk.injEq] at hs
            obtain ⟨rfl, -⟩ := hs
            obtain ⟨⟨us, ty', hx, hcu⟩, ho⟩ := h.ref j ty cs hb
            have hlen := hcu.length
            obtain ⟨w', hr, u⟩ := run_stores P (m.rf j) ty' zs w off 0 us hx (by rw [← hc.length]; omega) hone
            refine ⟨w', m, ?_, h.setRef hb hcu hc (by simpa using u), fun m0 w0 hk => hk.trans_upd u (by rw [ho]; simp), rfl, rfl, rfl, ⟨rfl, rfl, fun _ _ _ h => h⟩, rfl⟩
            rw [show x = .pointer (some ⟨m.rf j, off, none⟩) from hp]
            exact storeAt_run hok hnt hy hzl hr
          · cases hs
        · cases hs
      | elt id i k =>
        simp only at hs
        split at hs
        · rename_i cs hb
          split at hs
          · rename_i hle
            cases hfl : (xs.all flatC || decide (s.n0 ≤ id)) with
            | false => rw [hfl] at hs; cases hs
            | true =>
              rw [hfl, cond_true] at hs
              simp only [pair2, Option.some.injEq, Prod.mk.injEq] at hs
              obtain ⟨rfl, -⟩ := hs
              obtain ⟨hid, c, hcm, hx, hik⟩ := hp
              have hb' : s.H[id]? = some (.mem 2 cs) := by
                rw [List.getD_eq_getElem?_getD] at hb
                cases hg : s.H[id]? with
                | none => rw [hg] at hb; cases hb
                | some z => rw [hg] at hb; simp at hb; rw [hb]
              have hcp := h.heap.cells id 2 cs hb' c hcm
              obtain ⟨q1, q2, ys, ty', fz, q3, q4, q5, q6⟩ := hcp
              obtain ⟨q7, q8⟩ := q6 (by omega)
              subst q8
              have hown := h.heap.own id 2 cs hb' (by omega) c hcm
              have hle' : i + zs.length ≤ ys.toList.length := by rw [← hc.length]; simp; omega
              obtain ⟨w', hr, u⟩ := run_stores P c.g ty' zs w i 0 ys.toList (by simpa using q3) (by simpa using hle') hone
              simp only [Nat.add_zero] at u
              have hlen : i + xs.length ≤ cs.length := by omega
              have hlx := hc.length
              obtain ⟨g0, hg0⟩ := h.heap.one id cs hb'
              have hc0 := hg0 c hcm (by omega)
              refine ⟨w', m.heap id c.g (m.hp id), ?_, ?_, fun m0 w0 hk => hk.chg u.chg (.inl hown) (fun _ _ h => h), rfl, rfl, rfl, Nm.heap_le (fun _ _ h => h), by simp⟩
              · rw [hx, q7]
                refine storeAt_run hok hnt hy hzl ?_
                rw [Nat.zero_add]
                exact hr
              · refine h.turn (id := id) (g := c.g) (kd := 2) (cs := putCells cs i xs) (cps := m.hp id) (H' := s.H.set id (.mem 2 (putCells cs i xs))) u.chg (.inl hown) (fun _ _ h => h) (by simp) (fun k hk hke => ?_) ?_ (by omega) ?_ ?_ ?_
                · refine ⟨by simpa using hk, ?_⟩
                  rw [List.getElem?_set, if_neg (Ne.symm hke)]
                · rw [List.getElem?_set, if_pos rfl, if_pos hid]
                · intro c' hc'
                  obtain ⟨r1, r2, ys', ty2, fz', r3, r4, r5, r6⟩ := h.heap.cells id 2 cs hb' c' hc'
                  have hpl : (putCells cs i xs).length = cs.length := put_len cs xs i hlen
                  obtain ⟨r7, r8⟩ := r6 (by omega)
                  by_cases e : c'.g = c.g
                  · have e2 : ys' = ys := by
                      rw [e, q3] at r3
                      simp only [Option.some.injEq, Obj.cells.injEq] at r3
                      exact r3.1.symm
                    subst e2
                    refine ⟨by rw [hpl]; exact r1, r2, _, ty', (0, 0), by rw [e]; exact u.at_, ?_, fun j b hj hb2 => ?_, fun _ => ⟨r7, rfl⟩⟩
                    · rw [List.size_toArray, put_len _ _ _ hle']
                      simpa using r4
                    · rw [r7, Nat.zero_add]
                      rw [List.getElem?_toArray, put_get _ _ _ _ hle']
                      unfold putCells at hb2
                      rw [put_get _ _ _ _ hlen] at hb2
                      rw [hlx] at hb2
                      by_cases j1 : j < i
                      · rw [if_pos j1] at hb2 ⊢
                        obtain ⟨z, hz, hzr⟩ := r5 j b hj hb2
                        rw [r7, Nat.zero_add] at hz
                        refine ⟨z, by simpa using hz, ?_⟩
                        exact CR.mono (by simp) (fun k _ => by simp only [Nm.heap]; split <;> (intro c h; first | exact h | (rename_i e; subst e; exact h))) hzr
                      · by_cases j2 : j < i + zs.length
                        · rw [if_neg j1, if_pos j2] at hb2 ⊢
                          obtain ⟨z, hz, hzr⟩ := hc.get _ b hb2
                          refine ⟨z, hz, ?_⟩
                          cases hf : xs.all flatC with
                          | true =>
                            have : flatC b = true := List.all_eq_true.1 hf b (List.mem_of_getElem? hb2)
                            exact hzr.flat this
                          | false =>
                            rw [hf] at hfl
                            have hn0 : s.n0 ≤ id := by simpa using hfl
                            refine CR.mono ?_ (fun k _ => by simp only [Nm.heap]; split <;> (intro c h; first | exact h | (rename_i e; subst e; exact h))) hzr
                            unfold bnd
                            rw [if_neg (by omega)]
                            simp
                        · rw [if_neg j1, if_neg j2] at hb2 ⊢
                          obtain ⟨z, hz, hzr⟩ := r5 j b hj hb2
                          rw [r7, Nat.zero_add] at hz
                          refine ⟨z, by simpa using hz, ?_⟩
                          exact CR.mono (by simp) (fun k _ => by simp only [Nm.heap]; split <;> (intro c h; first | exact h | (rename_i e; subst e; exact h))) hzr
                  · have hp0 : c'.p = 0 := Classical.byContradiction fun hne => by
                      have := hg0 c' hc' (by omega)
                      exact e (this.1.trans hc0.1.symm)
                    refine ⟨by omega, r2, ys', ty2, fz', by rw [u.other _ e]; exact r3, r4, fun j b hj => by omega, r6⟩
                · intro _
                  refine ⟨g0, fun c' hc' hpos => ?_⟩
                  have := hg0 c' hc' hpos
                  rw [show (putCells cs i xs).length = cs.length from put_len cs xs i hlen]
                  exact this
                · intro c' hc'
                  simp only [Nm.heap]
                  split
                  · rfl
                  · exact h.heap.own id 2 cs hb' (by omega) c' hc'
          · cases hs
        · cases hs
  · cases hs
end Go.Ev
end

section
set_option linter.all false
/- Operations that touch no memory. -/
namespace Go.Ev
variable {P : Program} {tab : Nat → Option TI} {gd : Nat → List C} {B : Nat → Nat} {vs : List Nat} {m : Nm} {s s' : St} {a : Act} {w : World} {v : V} {rd wr : List Root} {n : Nat}

theorem cells_rel {v : V} {x : Value} {cs : List C} (h : VR m n v x) (hc : v.cells = some cs) : ∃ zs : List Value, x.cells = zs.toArray ∧ All2 (CR m.hp n) cs zs := by
  cases v with
  | one c =>
    simp only [V.cells, Option.some.injEq] at hc
    subst hc
    have h' : CR m.hp n c x := h
    have := h'.oneCell
    refine ⟨[x], ?_, .cons h' .nil⟩
    cases x <;> first | rfl | cases this
  | agg ds =>
    simp only [V.cells, Option.some.injEq] at hc
    subst hc
    obtain ⟨xs, rfl, h2⟩ := h
    exact ⟨xs, rfl, h2⟩
  | _ => cases hc

theorem field_run (hT : TabOk P tab) {t f off ft : Nat} (h : fieldOff tab t f = some (off, ft)) :
    ∃ (flds : Array Field) (fl : Field), P.underlying t = some (.struct flds) ∧ flds[f]? = some fl ∧ fl.offset = off ∧ fl.type = ft ∧ 0 < P.cellsOf ft := by
  unfold fieldOff at h
  split at h
  · rename_i ti ht
    split at h
    · rename_i fs hfs
      have hu := (hT t ti ht).under
      unfold UnderOk at hu
      rw [hfs] at hu
      obtain ⟨flds, h1, h2, h3, _⟩ := hu
      rw [← h2, List.getElem?_map] at h
      cases hg : flds.toList[f]? with
      | none => rw [hg] at h; cases h
      | some fl =>
        rw [hg] at h
        simp only [Option.map_some, Option.some.injEq, Prod.mk.injEq] at h
        refine ⟨flds, fl, h1, by simpa using hg, h.1, h.2, ?_⟩
        rw [← h.2]
        exact h3 fl (List.mem_of_getElem? hg)
    · cases h
  · cases h

theorem sizeOf_pos {t : Nat} (h : 0 < P.cellsOf t) : ∃ i, P.info? t = some i ∧ i.size ≠ 0 := by
  unfold Program.cellsOf at h
  cases hi : P.info? t with
  | none => rw [hi] at h; simp at h
  | some i => rw [hi] at h; exact ⟨i, rfl, by simp at h; omega⟩

/-- Every pointer but nil leads to a place, and one further on is there too. -/
theorem ptr_add {p : Ptr} {x : Value} (hp : PR m n p x) (hn : p ≠ .nil) (off : Nat) : ∃ g o, x = .pointer (some ⟨g, o, none⟩) ∧ PR m n (p.add off) (.pointer (some ⟨g, o + off, none⟩)) := by
  cases p with
  | nil => exact absurd rfl hn
  | loc b o => exact ⟨_, _, hp, rfl⟩
  | ref j o => exact ⟨_, _, hp, rfl⟩
  | glob g o => exact ⟨_, _, hp, rfl⟩
  | elt id i k =>
    obtain ⟨h6, c, h7, rfl, h8⟩ := hp
    exact ⟨_, _, rfl, h6, c, h7, by rw [Nat.add_assoc], by omega⟩

theorem fieldAt_run (hT : TabOk P tab) {t f off ft : Nat} {p : Ptr} {x : Value} (h : fieldOff tab t f = some (off, ft)) (hp : PR m n p x) (hn : p ≠ .nil) :
    ∃ y, (Instr.fieldAt t x f).run P w = .ok y w ∧ PR m n (p.add off) y := by
  obtain ⟨flds, fl, h1, h2, h3, h4, h5⟩ := field_run hT h
  obtain ⟨i, hi, hz⟩ := sizeOf_pos h5
  obtain ⟨g, o, rfl, h6⟩ := ptr_add hp hn off
  refine ⟨_, ?_, h6⟩
  have hplace : ∀ ad : Addr, (fieldPlace ad fl).run P w = .ok (ad.add off) w := by
    intro ad
    simp [fieldPlace, h4, run_sizeOf hi, hz, h3]
  simp [Instr.fieldAt, run_underlying h1, h2, Instr.sureAddr, hplace, Addr.add_none]

theorem sizeT_some (h : sizeT tab n ≠ 0) : ∃ ti, tab n = some ti ∧ ti.zero.length ≠ 0 := by
  unfold sizeT at h
  split at h
  · rename_i i hi; exact ⟨i, hi, h⟩
  · exact absurd rfl h

theorem sizeOf_run (hT : TabOk P tab) {t : Nat} (h : sizeT tab t ≠ 0) : (sizeOf t).run P w = .ok (sizeT tab t) w := by
  obtain ⟨ti, ht, hz⟩ := sizeT_some h
  have hok := hT t ti ht
  rw [sizeT_of ht, hok.size (hok.not_tup hz)]

theorem indexAt_arr (hT : TabOk P tab) {t len e : Nat} {p : Ptr} {x : Value} {k : IntKind} {i : Int} {z : List C} {b : Nat} {sh : List Sh} {q : Bool} (ht : tab t = some ⟨.arr len e, z, b, sh, q⟩)
    (hp : PR m n p x) (hn : p ≠ .nil) (h0 : 0 ≤ i) (h1 : i < len) (hs : sizeT tab e ≠ 0) :
    ∃ y, (Instr.indexAt t x (.int k i)).run P w = .ok y w ∧ PR m n (p.add (i.toNat * sizeT tab e)) y := by
  have hu := (hT _ _ ht).under
  simp only [UnderOk] at hu
  obtain ⟨g, o, rfl, h6⟩ := ptr_add hp hn (i.toNat * sizeT tab e)
  refine ⟨_, ?_, h6⟩
  simp [Instr.indexAt, asIntOf, run_underlying hu, Instr.sureAddr, h0, h1, sizeOf_run hT hs, Addr.add_none]

theorem elt_bound {i len sz : Nat} (h : i < len) : i * sz + sz ≤ len * sz := by
  have : (i + 1) * sz ≤ len * sz := Nat.mul_le_mul_right sz h
  rw [Nat.add_mul] at this
  omega

theorem indexAt_sl (hT : TabOk P tab) {t e : Nat} {c : C} {p : Ptr} {x : Value} {k : IntKind} {i : Int} {z : List C} {b : Nat} {sh : List Sh} {q : Bool} (ht : tab t = some ⟨.slice e, z, b, sh, q⟩)
    (hc : CR m.hp n c x) (h : eltC c (sizeT tab e) i some = some p) :
    ∃ y, (Instr.indexAt t x (.int k i)).run P w = .ok y w ∧ PR m n p y := by
  have hu := (hT _ _ ht).under
  simp only [UnderOk] at hu
  unfold eltC at h
  split at h
  · rename_i id off len sz
    split at h
    · rename_i hs
      subst hs
      cases hb : (decide (0 ≤ i) && decide (i < len)) with
      | false => rw [hb] at h; cases h
      | true =>
        rw [hb] at h
        injection h with h
        subst h
        simp only [Bool.and_eq_true, decide_eq_true_eq] at hb
        obtain ⟨h1, h0, c, h2, cap, a, rfl, h3, h4, h5, h6⟩ := hc
        have ha : a = c.base + off := h3.resolve_right (by omega)
        subst ha
        refine ⟨_, ?_, h1, c, h2, rfl, .inl ?_⟩
        · simp [Instr.indexAt, asIntOf, run_underlying hu, hb.1, hb.2, sizeOf_run hT (by omega : sizeT tab e ≠ 0), Addr.add_none, Nat.add_assoc]
        · have : i.toNat < len := by omega
          have := elt_bound (sz := sizeT tab e) this
          omega
    · cases h
  · cases h

theorem readC_size {t off : Nat} {cs : List C} (h : readC tab t cs off some = some v) : sizeT tab t ≠ 0 := by
  unfold readC at h
  split at h
  · cases h
  · rename_i i hi
    split at h
    · rename_i h1; rw [sizeT_of hi]; exact h1.2
    · cases h

theorem index_run (hT : TabOk P tab) {t len e : Nat} {cs : List C} {x : Value} {k : IntKind} {i : Int} {z : List C} {b : Nat} {sh : List Sh} {q : Bool} (ht : tab t = some ⟨.arr len e, z, b, sh, q⟩)
    (hx : VR m n (.agg cs) x) (h0 : 0 ≤ i) (h1 : i < len) (h : readC tab e cs (i.toNat * sizeT tab e) some = some v) :
    ∃ y, (Instr.index t x (.int k i)).run P w = .ok y w ∧ VR m n v y := by
  have hu := (hT _ _ ht).under
  simp only [UnderOk] at hu
  obtain ⟨xs, rfl, hc⟩ := hx
  obtain ⟨y, _, hy, hv⟩ := readC_run (P := P) (w := w) hT h hc
  refine ⟨y, ?_, hv.to rfl⟩
  simp [Instr.index, asIntOf, run_underlying hu, h0, h1, sizeOf_run hT (readC_size h), hy]

theorem fieldV_run (hT : TabOk P tab) {t f off ft : Nat} {cs : List C} {x : Value} (hf : fieldOff tab t f = some (off, ft)) (hx : VR m n (.agg cs) x) (h : readC tab ft cs off some = some v) :
    ∃ y, (Instr.field t x f).run P w = .ok y w ∧ VR m n v y := by
  obtain ⟨flds, fl, h1, h2, h3, h4, h5⟩ := field_run hT hf
  obtain ⟨xs, rfl, hc⟩ := hx
  obtain ⟨y, _, hy, hv⟩ := readC_run (P := P) (w := w) hT h hc
  refine ⟨y, ?_, hv.to rfl⟩
  simp [Instr.field, run_underlying h1, h2, asAgg, h4, h3, hy]

/-! Cuts. -/
theorem cut_run (hT : TabOk P tab) {t e : Nat} {c d : C} {x : Value} {lo hi mx : Option Value} {l h : Option Int} {z : List C} {b : Nat} {sh : List Sh} {q : Bool} (ht : tab t = some ⟨.slice e, z, b, sh, q⟩)
    (hc : CR m.hp n c x) (hs : sliceC c (sizeT tab e) l h some = some d)
    (hl : lo = none ∧ l = none ∨ ∃ k i, lo = some (.int k i) ∧ l = some i) (hh : hi = none ∧ h = none ∧ mx = none ∨ ∃ k i, hi = some (.int k i) ∧ h = some i ∧ (mx = none ∨ ∃ k', mx = some (.int k' i)))
    : ∃ y, (Instr.sliceAt t x lo hi mx).run P w = .ok y w ∧ CR m.hp n d y := by
  have hu := (hT _ _ ht).under
  simp only [UnderOk] at hu
  have hz : sizeT tab e ≠ 0 := by
    unfold sliceC at hs
    split at hs
    · split at hs
      · rename_i he; obtain ⟨_, h0, _⟩ := hc; omega
      · cases hs
    · cases hb : (decide (l.getD 0 = 0) && decide (h.getD 0 = 0) && decide (sizeT tab e ≠ 0)) with
      | false => rw [hb] at hs; cases hs
      | true => simp only [Bool.and_eq_true, decide_eq_true_eq] at hb; exact hb.2
    · cases hs
  have hsz := sizeOf_run (w := w) hT hz
  unfold sliceC at hs
  split at hs
  · rename_i id off len sz
    split at hs
    · rename_i he
      subst he
      cases hb : (decide (0 ≤ l.getD 0) && decide (l.getD 0 ≤ h.getD len) && decide (h.getD len ≤ len)) with
      | false => rw [hb] at hs; cases hs
      | true =>
        rw [hb] at hs
        injection hs with hs
        subst hs
        simp only [Bool.and_eq_true, decide_eq_true_eq] at hb
        obtain ⟨⟨b1, b2⟩, b3⟩ := hb
        obtain ⟨h1, h0, c, h2, cap, a, rfl, h3, h4, h5, h6⟩ := hc
        have key : ∀ m' : Nat, (h.getD len).toNat ≤ m' → m' ≤ cap →
            CR m.hp n (.sl id (off + (l.getD 0).toNat * sizeT tab e) (h.getD len - l.getD 0).toNat (sizeT tab e))
              (.slice (if m' = (l.getD 0).toNat then some ⟨c.g, a, none⟩ else some ⟨c.g, a + (l.getD 0).toNat * sizeT tab e, none⟩) ((h.getD len).toNat - (l.getD 0).toNat) (m' - (l.getD 0).toNat)) := by
          intro m' q1 q2
          have e1 : (h.getD len - l.getD 0).toNat = (h.getD len).toNat - (l.getD 0).toNat := by omega
          have q3 : (l.getD 0).toNat ≤ (h.getD len).toNat := by omega
          have q4 : (h.getD len).toNat ≤ len := by omega
          generalize (h.getD len).toNat = H at *
          generalize (l.getD 0).toNat = L at *
          have e2 : L * sizeT tab e + (H - L) * sizeT tab e = H * sizeT tab e := by rw [← Nat.add_mul]; congr 1; omega
          have e3 : L * sizeT tab e + (m' - L) * sizeT tab e = m' * sizeT tab e := by rw [← Nat.add_mul]; congr 1; omega
          have e4 : H * sizeT tab e ≤ len * sizeT tab e := Nat.mul_le_mul_right _ q4
          have e5 : m' * sizeT tab e ≤ cap * sizeT tab e := Nat.mul_le_mul_right _ q2
          refine ⟨h1, h0, c, h2, m' - L, if m' = L then a else a + L * sizeT tab e, by rw [e1]; split <;> rfl, ?_, by rw [e1]; omega, by omega, by omega⟩
          by_cases q5 : m' = L
          · right; omega
          · left
            rw [if_neg q5, h3.resolve_right (by omega)]
            omega
        have hH : (h.getD len).toNat ≤ cap := by omega
        rcases hh with ⟨rfl, rfl, rfl⟩ | ⟨k, i, rfl, rfl, hmx⟩
        · refine ⟨_, ?_, key cap hH (Nat.le_refl _)⟩
          rcases hl with ⟨rfl, rfl⟩ | ⟨k2, j, rfl, rfl⟩
          · simp [Instr.sliceAt, Instr.slice, Instr.sliceBounds, run_underlying hu, hsz, Addr.add_none]
          · simp only [Option.getD_some, Option.getD_none] at b1 b2
            simp [Instr.sliceAt, Instr.slice, Instr.sliceBounds, Instr.sliceBound, asIntOf, run_underlying hu, hsz, Addr.add_none, b1, b2]
        · simp only [Option.getD_some] at b2 b3 hH key ⊢
          have i0 : 0 ≤ i := by omega
          have i1 : i ≤ cap := by omega
          rcases hmx with rfl | ⟨k', rfl⟩
          · refine ⟨_, ?_, key cap hH (Nat.le_refl _)⟩
            rcases hl with ⟨rfl, rfl⟩ | ⟨k2, j, rfl, rfl⟩
            · simp [Instr.sliceAt, Instr.slice, Instr.sliceBounds, Instr.sliceBound, asIntOf, run_underlying hu, hsz, Addr.add_none, i0, i1]
            · simp only [Option.getD_some] at b1 b2
              have : j ≤ max i 0 := by omega
              simp [Instr.sliceAt, Instr.slice, Instr.sliceBounds, Instr.sliceBound, asIntOf, run_underlying hu, hsz, Addr.add_none, i0, i1, b1, this]
          · refine ⟨_, ?_, key i.toNat (Nat.le_refl _) hH⟩
            have i2 : i ≤ max i 0 := by omega
            rcases hl with ⟨rfl, rfl⟩ | ⟨k2, j, rfl, rfl⟩
            · simp [Instr.sliceAt, Instr.slice, Instr.sliceBounds, Instr.sliceBound, asIntOf, run_underlying hu, hsz, Addr.add_none, i0, i1, i2]
            · simp only [Option.getD_some] at b1 b2
              have : j ≤ max i 0 := by omega
              simp [Instr.sliceAt, Instr.slice, Instr.sliceBounds, Instr.sliceBound, asIntOf, run_underlying hu, hsz, Addr.add_none, i0, i1, i2, b1, this]
    · cases hs
  · cases hb : (decide (l.getD 0 = 0) && decide (h.getD 0 = 0) && decide (sizeT tab e ≠ 0)) with
    | false => rw [hb] at hs; cases hs
    | true =>
      rw [hb] at hs
      injection hs with hs
      subst hs
      simp only [Bool.and_eq_true, decide_eq_true_eq] at hb
      obtain ⟨⟨b1, b2⟩, -⟩ := hb
      simp only [CR] at hc
      subst hc
      refine ⟨.slice none 0 0, ?_, rfl⟩
      rcases hh with ⟨rfl, rfl, rfl⟩ | ⟨k, i, rfl, rfl, hmx⟩
      · rcases hl with ⟨rfl, rfl⟩ | ⟨k2, j, rfl, rfl⟩
        · simp [Instr.sliceAt, Instr.slice, Instr.sliceBounds, run_underlying hu, hsz]
        · simp only [Option.getD_some] at b1
          subst b1
          simp [Instr.sliceAt, Instr.slice, Instr.sliceBounds, Instr.sliceBound, asIntOf, run_underlying hu, hsz]
      · simp only [Option.getD_some] at b2
        subst b2
        rcases hmx with rfl | ⟨k', rfl⟩
        · rcases hl with ⟨rfl, rfl⟩ | ⟨k2, j, rfl, rfl⟩
          · simp [Instr.sliceAt, Instr.slice, Instr.sliceBounds, Instr.sliceBound, asIntOf, run_underlying hu, hsz]
          · simp only [Option.getD_some] at b1
            subst b1
            simp [Instr.sliceAt, Instr.slice, Instr.sliceBounds, Instr.sliceBound, asIntOf, run_underlying hu, hsz]
        · rcases hl with ⟨rfl, rfl⟩ | ⟨k2, j, rfl, rfl⟩
          · simp [Instr.sliceAt, Instr.slice, Instr.sliceBounds, Instr.sliceBound, asIntOf, run_underlying hu, hsz]
          · simp only [Option.getD_some] at b1
            subst b1
            simp [Instr.sliceAt, Instr.slice, Instr.sliceBounds, Instr.sliceBound, asIntOf, run_underlying hu, hsz]
  · cases hs

/-! Built values. -/
theorem foldl_set (zs : List Value) : ∀ (k off : Nat) (xs : List Value), off + k + zs.length ≤ xs.length →
    (zs.zipIdx k).foldl (fun (cs : Array Value) (p : Value × Nat) => cs.setIfInBounds (off + p.2) p.1) xs.toArray = (xs.take (off + k) ++ zs ++ xs.drop (off + k + zs.length)).toArray := by
  induction zs with
  | nil => intro k off xs _; simp
  | cons z zs ih =>
    intro k off xs h
    simp only [List.length_cons] at h
    simp only [List.zipIdx_cons, List.foldl_cons, List.setIfInBounds_toArray]
    rw [ih (k + 1) off _ (by simp; omega)]
    congr 1
    apply List.ext_getElem?
    intro j
    have e1 : off + (k + 1) = off + k + 1 := by omega
    rw [e1]
    rw [put_get _ _ _ _ (by simp; omega), put_get _ _ _ _ (by simp; omega)]
    simp only [List.getElem?_set, List.length_cons]
    by_cases a : j < off + k
    · rw [if_pos (by omega), if_neg (by omega), if_pos a]
    · by_cases b : j = off + k
      · subst b
        rw [if_pos (by omega), if_pos rfl, if_pos (by omega), if_neg (by omega), if_pos (by omega)]
        simp
      · rw [if_neg (by omega), if_neg (Ne.symm b), if_neg a]
        by_cases c : j < off + k + 1 + zs.length
        · rw [if_pos c, if_pos (by omega), show j - (off + k) = j - (off + k + 1) + 1 from by omega]
          simp
        · rw [if_neg c, if_neg (by omega)]

/-- The parts of what is built, abstract and the machine's. -/
def PartR (hp : Nat → List Cp) (n : Nat) (p : Nat × List C) (q : Nat × Value) : Prop := p.1 = q.1 ∧ ∃ zs : List Value, q.2.cells = zs.toArray ∧ All2 (CR hp n) p.2 zs

theorem parts_rel {fr : List V} {ρ : Operand → Value} : ∀ (ps : List (Nat × Operand)) (r : List (Nat × List C)), (∀ p ∈ ps, VR m n (opnd fr p.2) (ρ p.2)) → partsIn fr ps = some r →
    All2 (PartR m.hp n) r (ps.map fun p => (p.1, ρ p.2))
  | [], r, _, h => by simp only [partsIn, Option.some.injEq] at h; subst h; exact .nil
  | (i, x) :: ps, r, hv, h => by
    simp only [partsIn] at h
    split at h
    · rename_i cs r' hc hr
      injection h with h
      subst h
      obtain ⟨zs, h1, h2⟩ := cells_rel (hv (i, x) (by simp)) hc
      exact .cons ⟨rfl, zs, h1, h2⟩ (parts_rel ps r' (fun p hp => hv p (by simp [hp])) hr)
    · cases h

theorem fill_run {hp : Nat → List Cp} {pl pl' : Nat → Option (Nat × Nat)} (hpl : ∀ i off sz, sz ≠ 0 → pl i = some (off, sz) → pl' i = some (off, sz)) :
    ∀ (ps : List (Nat × List C)) (qs : List (Nat × Value)) (cs ds : List C) (xs : List Value), All2 (PartR hp n) ps qs → All2 (CR hp n) cs xs → fillC pl cs ps = some ds →
    ∃ ys : List Value, Instr.fill pl' xs.toArray qs = some ys.toArray ∧ All2 (CR hp n) ds ys
  | [], qs, cs, ds, xs, h, hc, hf => by
    cases h
    simp only [fillC, Option.some.injEq] at hf
    subst hf
    exact ⟨xs, rfl, hc⟩
  | (i, c) :: ps, qs, cs, ds, xs, h, hc, hf => by
    cases h with
    | cons h1 h2 =>
      rename_i q qs
      obtain ⟨j, v⟩ := q
      obtain ⟨rfl, zs, h3, h4⟩ := h1
      simp only at h3 h4
      simp only [fillC] at hf
      split at hf
      · rename_i off sz hi
        split at hf
        · rename_i hz
          obtain ⟨e1, e2, e3⟩ := hz
          have hl := hc.length
          have hl4 := h4.length
          have h5 := foldl_set zs 0 off xs (by omega)
          obtain ⟨ys, h6, h7⟩ := fill_run hpl ps qs _ ds _ h2 (putCells_rel (off := off) hc h4) hf
          refine ⟨ys, ?_, h7⟩
          unfold Instr.fill
          simp only [hpl i off sz e2 hi, h3]
          rw [if_neg (by simp; omega)]
          simp only [_root_.Array.zipIdx_toArray, List.size_toArray, List.foldl_toArray']
          rw [h5]
          simpa using h6
        · cases hf
      · cases hf

theorem places_run : ∀ (fs : List Field), (∀ f ∈ fs, 0 < P.cellsOf f.type) → fs.mapM (fun f => (P.info? f.type).map fun i => (f.offset, i.size)) = some (fs.map fun f => (f.offset, P.cellsOf f.type))
  | [], _ => rfl
  | f :: fs, h => by
    obtain ⟨i, hi, _⟩ := sizeOf_pos (h f (by simp))
    simp [List.mapM_cons, hi, places_run fs fun f hf => h f (by simp [hf]), Program.cellsOf]

theorem cellsOf_eq (hT : TabOk P tab) {t : Nat} (h : sizeT tab t ≠ 0) : ∃ i, P.info? t = some i ∧ i.size = sizeT tab t := by
  obtain ⟨ti, ht, hz⟩ := sizeT_some h
  have hok := hT t ti ht
  obtain ⟨i, z, zs, h1, h2, _⟩ := hok.info (hok.not_tup hz)
  exact ⟨i, h1, by rw [h2, sizeT_of ht]⟩

theorem zero_rel (hT : TabOk P tab) {t : Nat} {ti : TI} (ht : tab t = some ti) (hd : ∀ ts, ti.d ≠ .tup ts) (hp : Nat → List Cp) (n : Nat) :
    ∃ i z zs, P.info? t = some i ∧ i.size = ti.zero.length ∧ i.bytes = ti.bytes ∧ i.zero = some z ∧ z.cells = List.toArray zs ∧ All2 (CR hp n) ti.zero zs := by
  obtain ⟨i, z, zs, h1, h2, h3, h4, h5, h6⟩ := (hT t ti ht).info hd
  exact ⟨i, z, zs, h1, h2, h3, h4, h5, h6.mono fun _ _ h => CR.mono (Nat.zero_le _) (fun id hid => by omega) h⟩

theorem build_run (hT : TabOk P tab) {t : Nat} {ti : TI} {ps : List (Nat × List C)} {qs : List (Nat × Value)} {cs : List C} (ht : tab t = some ti) (hp : All2 (PartR m.hp n) ps qs)
    (h : (match ti.d with
        | .struct fs => fillC (fun i => (fs[i]?).map fun (off, ft) => (off, sizeT tab ft)) ti.zero ps
        | .arr _ e => if sizeT tab e = 0 then none else fillC (fun i => some (i * sizeT tab e, sizeT tab e)) ti.zero ps
        | _ => none) = some cs) :
    ∃ y, (Instr.build t qs.toArray).run P w = .ok y w ∧ VR m n (.agg cs) y := by
  have hu := (hT t ti ht).under
  unfold UnderOk at hu
  cases hd : ti.d with
  | struct fs =>
    rw [hd] at h hu
    simp only at h hu
    obtain ⟨i, z, zs, h1, h2, h3, h4, h5, h6⟩ := zero_rel hT ht (by simp [hd]) m.hp n
    obtain ⟨flds, u1, u2, u3, _⟩ := hu
    obtain ⟨ys, f1, f2⟩ := fill_run (pl' := ((flds.toList.map fun f => (f.offset, P.cellsOf f.type)).toArray[·]?)) (fun j off sz hz hj => by
      rw [← u2] at hj
      simp only [List.getElem?_map, Option.map_map] at hj
      cases hg : flds.toList[j]? with
      | none => rw [hg] at hj; cases hj
      | some f =>
        rw [hg] at hj
        simp only [Option.map_some, Function.comp_apply, Option.some.injEq, Prod.mk.injEq] at hj
        obtain ⟨rfl, rfl⟩ := hj
        obtain ⟨i', hi', hz'⟩ := cellsOf_eq hT hz
        simp only [List.getElem?_toArray, List.getElem?_map, hg, Option.map_some, Program.cellsOf, hi', ← hz']
        rfl) ps qs _ cs zs hp h6 h
    refine ⟨_, run_build w t qs.toArray ys.toArray ?_, ys, rfl, f2⟩
    simp only [Program.built, h1, u1, h4, places_run _ u3, h5]
    exact f1
  | arr k e =>
    rw [hd] at h hu
    simp only at h hu
    split at h
    · cases h
    · rename_i hz
      obtain ⟨i, z, zs, h1, h2, h3, h4, h5, h6⟩ := zero_rel hT ht (by simp [hd]) m.hp n
      obtain ⟨i', hi', hz'⟩ := cellsOf_eq hT hz
      obtain ⟨ys, f1, f2⟩ := fill_run (pl' := fun j => some (j * i'.size, i'.size)) (fun j off sz hz hj => by rw [hz']; exact hj) ps qs _ cs zs hp h6 h
      refine ⟨_, run_build w t qs.toArray ys.toArray ?_, ys, rfl, f2⟩
      simp only [Program.built, h1, hu, h4, hi', h5]
      exact f1
  | _ => rw [hd] at h; cases h
end Go.Ev
end

section
set_option linter.all false
/- All operations that touch no memory, under one word. -/
namespace Go.Ev
variable {P : Program} {tab : Nat → Option TI} {gd : Nat → List C} {B : Nat → Nat} {vs : List Nat} {m : Nm} {s s' : St} {a : Act} {w : World} {v : V} {rd wr : List Root} {n : Nat}

def pureB (o : Oper) : Bool :=
  match o.op with
  | .move _ | .assign _ | .pick _ _ _ | .nilCheck _ | .binOp _ _ _ _ _ | .unOp _ _ _ | .convert _ _ _ | .slice _ _ _ _ _ | .fieldAddr _ _ _ | .field _ _ _ | .indexAddr _ _ _ | .index _ _ _ | .extract _ _ | .makeFunc _ _ _ | .build _ _ => true
  | .call c => (match c.callee with | .builtin b => (match b with | .len | .max | .min => true | _ => false) | _ => false)
  | _ => false

theorem val_run {o : Oper} {x : Value} {sm : Sem Value} {w' : World} (h : sm.run P w = .ok x w') (he : execOp a.eval o = (do pure (.value (← sm)))) : (execOp a.eval o).run P w = .ok (.value x) w' := by
  rw [he]; simp [h]

theorem not_nil {p : Ptr} {x : Value} (h : PR m n p x) (hn : p ≠ .nil) : ∃ ad, x = .pointer (some ad) := by
  obtain ⟨g, o, h1, _⟩ := ptr_add h hn 0
  exact ⟨_, h1⟩

theorem bnd_rel {fr : List V} {ρ : Operand → Value} (x : Option Operand) {r : Option Int} (hv : ∀ y, x = some y → VR m n (opnd fr y) (ρ y)) (h : bndV fr x = some r) :
    x.map ρ = none ∧ r = none ∧ x = none ∨ ∃ k i, x.map ρ = some (.int k i) ∧ r = some i := by
  cases x with
  | none => simp only [bndV, Option.some.injEq] at h; exact .inl ⟨rfl, h.symm, rfl⟩
  | some y =>
    simp only [bndV] at h
    have h1 := hv y rfl
    split at h
    · rename_i k i he
      rw [he] at h1
      injection h with h
      refine .inr ⟨k, i, ?_, h.symm⟩
      simp only [Option.map_some, Option.some.injEq]
      exact h1
    · cases h

theorem slice_run (hT : TabOk P tab) {t : Nat} {x : Operand} {lo hi mx : Option Operand} {ρ : Operand → Value} {d : C} (h : sliceV tab s t (some x) lo hi mx some = some d)
    (hx : VR m n (opnd s.fr x) (ρ x)) (hl : ∀ y, lo = some y → VR m n (opnd s.fr y) (ρ y)) (hh : ∀ y, hi = some y → VR m n (opnd s.fr y) (ρ y)) (hm : ∀ y, mx = some y → VR m n (opnd s.fr y) (ρ y)) :
    ∃ y, (Instr.sliceAt t (ρ x) (lo.map ρ) (hi.map ρ) (mx.map ρ)).run P w = .ok y w ∧ CR m.hp n d y := by
  unfold sliceV at h
  split at h
  · rename_i e z b sh q c l h' ht hc el eh em
    simp only [Option.map_some, Option.some.injEq] at hc
    rw [hc] at hx
    have r1 := bnd_rel lo hl el
    have r2 := bnd_rel hi hh eh
    have r3 := bnd_rel mx hm em
    refine cut_run hT ht hx h ?_ ?_
    · rcases r1 with ⟨q1, q2, _⟩ | ⟨k, i, q1, q2⟩
      · exact .inl ⟨q1, q2⟩
      · exact .inr ⟨k, i, q1, q2⟩
    · have q3 : mx.map ρ = none := by
        rcases r3 with ⟨q1, _, _⟩ | ⟨k, i, _, q2⟩
        · exact q1
        · cases q2
      rcases r2 with ⟨q1, q2, _⟩ | ⟨k, i, q1, q2⟩
      · exact .inl ⟨q1, q2, q3⟩
      · exact .inr ⟨k, i, q1, q2, .inl q3⟩
  · rename_i e z b sh q c l h' m' ht hc el eh em
    simp only [Option.map_some, Option.some.injEq] at hc
    rw [hc] at hx
    have r1 := bnd_rel lo hl el
    have r2 := bnd_rel hi hh eh
    have r3 := bnd_rel mx hm em
    cases hmh : (m' == h') with
    | false => rw [hmh] at h; cases h
    | true =>
      rw [hmh, cond_true] at h
      have hmh' : m' = h' := by simpa using hmh
      subst hmh'
      refine cut_run hT ht hx h ?_ ?_
      · rcases r1 with ⟨q1, q2, _⟩ | ⟨k, i, q1, q2⟩
        · exact .inl ⟨q1, q2⟩
        · exact .inr ⟨k, i, q1, q2⟩
      · right
        rcases r2 with ⟨_, q2, _⟩ | ⟨k, i, q1, q2⟩
        · cases q2
        · rcases r3 with ⟨_, q4, _⟩ | ⟨k3, i3, q3, q4⟩
          · cases q4
          · injection q2 with q2
            injection q4 with q4
            subst q2
            subst q4
            exact ⟨k, _, q1, rfl, .inr ⟨k3, q3⟩⟩
  · cases h

theorem fold_run {f : IntKind → Int → Int → C} {g : Value → Value → Sem Value} (hg : ∀ k x k' y (w : World), (g (.int k x) (.int k' y)).run P w = .ok (cv (f k x y)) w) (hf : ∀ k x y, ∃ z, f k x y = .int k z) :
    ∀ (vs : List V) (v : V) (xs : List Value) (x : Value) (r : V), VR m n v x → All2 (VR m n) vs xs → foldI f v vs some = some r → ∃ y, (xs.foldlM g x).run P w = .ok y w ∧ VR m n r y := by
  intro vs
  induction vs with
  | nil =>
    intro v xs x r hv hvs h
    cases hvs
    unfold foldI at h
    split at h
    · injection h with h; subst h; exact ⟨x, by simp, hv⟩
    · rename_i e; cases e
    · cases h
  | cons u vs ih =>
    intro v xs x r hv hvs h
    cases hvs with
    | cons hu hvs =>
      rename_i y ys
      unfold foldI at h
      split at h
      · rename_i e; cases e
      · rename_i k x0 k' y0 vs' e
        injection e with e1 e2
        subst e1
        subst e2
        simp only [VR, CR] at hu hv
        subst hu
        subst hv
        obtain ⟨z, hz⟩ := hf k x0 y0
        obtain ⟨r1, h1, h2⟩ := ih _ ys (cv (f k x0 y0)) r (by rw [hz]; rfl) hvs h
        exact ⟨r1, by simp [hg, h1], h2⟩
      · cases h

theorem caps_rel {fr : List V} {ρ : Operand → Value} : ∀ (xs : List Operand) (r : List Nat), (∀ x ∈ xs, VR m n (opnd fr x) (ρ x)) → capsIn fr xs = some r → xs.map ρ = r.map fun b => Value.pointer (some ⟨m.lb b, 0, none⟩)
  | [], r, _, h => by simp only [capsIn, Option.some.injEq] at h; subst h; rfl
  | x :: xs, r, hv, h => by
    simp only [capsIn] at h
    split at h
    · rename_i b r' hx hr
      injection h with h
      subst h
      have h1 := hv x (by simp)
      rw [hx] at h1
      simp only [List.map_cons, caps_rel xs r' (fun y hy => hv y (by simp [hy])) hr]
      rw [show ρ x = _ from h1]
    · cases h

theorem builtin_exec {o : Oper} {c : Call} {b : Builtin} {ρ : Operand → Value} (e : o.op = .call c) (hb : c.callee = .builtin b) :
    ∃ kn, (execOp ρ o).run P w = (builtin b c.argTypes o.type kn (c.args.map ρ)).run P w := by
  refine ⟨c.args.map (fun | .const _ => true | _ => false), ?_⟩
  simp only [execOp, e, resolve, hb, Sem.run_bind, Sem.run_pure, Result.andThen_ok, invoke]
  rfl

theorem pure_run (hT : TabOk P tab) {call : Nat → List V → List Box → Heap → Option Res} {cx : Option Cx} {o : Oper} (hk : pureB o = true) (hf : ∀ x ∈ o.op.operands.toList, VR m n (opnd s.fr x) (a.eval x))
    (h : act tab gd call cx o s quad = some (v, s', rd, wr)) : (∃ x, (execOp a.eval o).run P w = .ok (.value x) w ∧ VR m n v x) ∧ s' = s ∧ rd = [] ∧ wr = [] := by
  have fin : ∀ {v1 : V} {x : Value}, quad v1 s [] [] = some (v, s', rd, wr) → (execOp a.eval o).run P w = .ok (.value x) w → VR m n v1 x → (∃ x, (execOp a.eval o).run P w = .ok (.value x) w ∧ VR m n v x) ∧ s' = s ∧ rd = [] ∧ wr = [] := by
    intro v1 x h hr hv
    injection h with h
    injection h with h1 h2
    injection h2 with h2 h3
    injection h3 with h3 h4
    subst h1
    exact ⟨⟨x, hr, hv⟩, h2.symm, h3.symm, h4.symm⟩
  unfold act at h
  unfold pureB at hk
  split at h
  · rename_i x e
    rw [e] at hf
    exact fin h (by simp [execOp, e]) (hf x (by simp [Op.operands]))
  · rename_i x e
    rw [e] at hf
    exact fin h (by simp [execOp, e]) (hf x (by simp [Op.operands]))
  · rename_i c x y e
    rw [e] at hf
    have hc := hf c (by simp [Op.operands])
    split at h
    · rename_i t ht
      rw [ht] at hc
      have hc' : a.eval c = .bool t := hc
      cases t with
      | true => exact fin h (by simp [execOp, e, hc', asBool]) (hf x (by simp [Op.operands]))
      | false => exact fin h (by simp [execOp, e, hc', asBool]) (hf y (by simp [Op.operands]))
    · cases h
  · rename_i t e; rw [e] at hk; cases hk
  · rename_i t e; rw [e] at hk; cases hk
  · -- build
    rename_i t ps e
    rw [e] at hf
    split at h
    · rename_i ti qs ht hq
      split at h
      · rename_i cs hc
        have hp := parts_rel (m := m) (n := n) (ρ := a.eval) ps.toList qs (fun p hp => hf p.2 (by simp [Op.operands]; exact ⟨p.1, by simpa using hp⟩)) hq
        obtain ⟨y, hy, hv⟩ := build_run (w := w) hT ht hp hc
        refine fin h (val_run hy ?_) hv
        simp only [execOp, e]
        congr 2
        apply Array.toList_inj.1
        simp
      · cases h
    · cases h
  · rename_i e; rw [e] at hk; cases hk
  · rename_i e; rw [e] at hk; cases hk
  · rename_i e; rw [e] at hk; cases hk
  · -- nilCheck
    rename_i x e
    rw [e] at hf
    have hx := hf x (by simp [Op.operands])
    split at h
    · rename_i p hp
      rw [hp] at hx
      split at h
      · cases h
      · rename_i q hq
        obtain ⟨ad, had⟩ := not_nil hx hq
        refine fin (x := .pointer (some ad)) h (by simp [execOp, e, had]) ?_
        rw [← had]; exact hx
    · rename_i f caps hp
      rw [hp] at hx
      have hx' : a.eval x = .func (.func f) #[] (caps.map fun b => Value.pointer (some ⟨m.lb b, 0, none⟩)).toArray := hx
      exact fin h (by simp only [execOp, e, hx']; rfl) (show VR m n (.clo f caps) _ from rfl)
    · rename_i f hp
      rw [hp] at hx
      have hx' : a.eval x = .func (.func f) #[] #[] := hx
      exact fin h (by simp only [execOp, e, hx']; rfl) (show VR m n (.one (.fn f)) _ from rfl)
    · cases h
  · -- binOp
    rename_i op t x y b e
    rw [e] at hf
    rw [binV_bind] at h
    cases hb : binV tab t op (opnd s.fr x) (opnd s.fr y) some with
    | none => rw [hb] at h; cases h
    | some c =>
      rw [hb, Option.bind_some] at h
      obtain ⟨h1, h2⟩ := bin_run (P := P) (w := w) (m := m) (n := n) (X := x) (Y := y) hT hb (hf x (by simp [Op.operands])) (hf y (by simp [Op.operands]))
      exact fin h (val_run h1 (by simp only [execOp, e])) (cv_rel h2)
  · -- unOp
    rename_i op t x e
    rw [e] at hf
    have hx := hf x (by simp [Op.operands])
    split at h
    · rename_i b hb
      rw [hb] at hx
      have hx' : a.eval x = .bool b := hx
      exact fin h (by simp [execOp, e, hx', Op.unary]) rfl
    · rename_i k i hb
      rw [hb] at hx
      have hx' : a.eval x = .int k i := hx
      exact fin (x := .int k (k.wrap (0 - i))) h (by simp [execOp, e, hx', Op.unary, Op.intArith]) rfl
    · cases h
  · -- convert
    rename_i u t x e
    rw [e] at hf
    have hx := hf x (by simp [Op.operands])
    split at h
    · rename_i k1 z1 b1 s1 q1 k z b sh q k2 i hu ht hx1
      rw [hx1] at hx
      have hx' : a.eval x = .int k2 i := hx
      have u1 := (hT _ _ hu).under
      have u2 := (hT _ _ ht).under
      simp only [UnderOk] at u1 u2
      exact fin h (by simp [execOp, e, hx', convert, run_underlying u1, run_underlying u2, Conv.intToInt]) rfl
    · cases h
  · rename_i e; rw [e] at hk; cases hk
  · -- slice
    rename_i t x lo hi mx e
    rw [e] at hf
    rw [sliceV_bind] at h
    cases hb : sliceV tab s t (some x) lo hi mx some with
    | none => rw [hb] at h; cases h
    | some c =>
      rw [hb, Option.bind_some] at h
      obtain ⟨y, h1, h2⟩ := slice_run (P := P) (w := w) (m := m) (n := n) (ρ := a.eval) hT hb (hf x (by simp [Op.operands])) (fun y hy => hf y (by simp [Op.operands, hy])) (fun y hy => hf y (by simp [Op.operands, hy])) (fun y hy => hf y (by simp [Op.operands, hy]))
      exact fin h (val_run h1 (by simp only [execOp, e])) h2
  · -- fieldAddr
    rename_i t x f e
    rw [e] at hf
    have hx := hf x (by simp [Op.operands])
    split at h
    · rename_i p off ft hp hfo
      rw [hp] at hx
      split at h
      · cases h
      · rename_i q hq
        obtain ⟨y, h1, h2⟩ := fieldAt_run (w := w) hT hfo hx hq
        exact fin h (val_run h1 (by simp only [execOp, e])) h2
    · cases h
  · -- field
    rename_i t x f e
    rw [e] at hf
    have hx := hf x (by simp [Op.operands])
    split at h
    · rename_i cs off ft hp hfo
      rw [hp] at hx
      rw [readC_bind] at h
      cases hr : readC tab ft cs off some with
      | none => rw [hr] at h; cases h
      | some v' =>
        rw [hr, Option.bind_some] at h
        obtain ⟨y, h1, h2⟩ := fieldV_run (w := w) hT hfo hx hr
        exact fin h (val_run h1 (by simp only [execOp, e])) h2
    · cases h
  · -- indexAddr
    rename_i t x i e
    rw [e] at hf
    have hx := hf x (by simp [Op.operands])
    have hi := hf i (by simp [Op.operands])
    split at h
    · rename_i el z b sh q c k j ht hc hj
      rw [hc] at hx
      rw [hj] at hi
      have hi' : a.eval i = .int k j := hi
      rw [eltC_bind] at h
      cases hr : eltC c (sizeT tab el) j some with
      | none => rw [hr] at h; cases h
      | some p =>
        rw [hr, Option.bind_some] at h
        obtain ⟨y, h1, h2⟩ := indexAt_sl (w := w) (k := k) hT ht hx hr
        rw [← hi'] at h1
        exact fin h (val_run h1 (by simp only [execOp, e])) h2
    · rename_i len el z b sh q p k j ht hc hj
      rw [hc] at hx
      rw [hj] at hi
      have hi' : a.eval i = .int k j := hi
      split at h
      · cases h
      · rename_i q hq
        cases hb : (decide (0 ≤ j) && decide (j < len) && decide (sizeT tab el ≠ 0)) with
        | false => rw [hb] at h; cases h
        | true =>
          rw [hb, cond_true] at h
          simp only [Bool.and_eq_true, decide_eq_true_eq] at hb
          obtain ⟨y, h1, h2⟩ := indexAt_arr (w := w) (k := k) hT ht hx hq hb.1.1 hb.1.2 hb.2
          rw [← hi'] at h1
          exact fin h (val_run h1 (by simp only [execOp, e])) h2
    · cases h
  · -- index
    rename_i t x i e
    rw [e] at hf
    have hx := hf x (by simp [Op.operands])
    have hi := hf i (by simp [Op.operands])
    split at h
    · rename_i len el z b sh q cs k j ht hc hj
      rw [hc] at hx
      rw [hj] at hi
      have hi' : a.eval i = .int k j := hi
      cases hb : (decide (0 ≤ j) && decide (j < len)) with
      | false => rw [hb] at h; cases h
      | true =>
        rw [hb, cond_true] at h
        simp only [Bool.and_eq_true, decide_eq_true_eq] at hb
        rw [readC_bind] at h
        cases hr : readC tab el cs (j.toNat * sizeT tab el) some with
        | none => rw [hr] at h; cases h
        | some v' =>
          rw [hr, Option.bind_some] at h
          obtain ⟨y, h1, h2⟩ := index_run (w := w) (k := k) hT ht hx hb.1 hb.2 hr
          rw [← hi'] at h1
          exact fin h (val_run h1 (by simp only [execOp, e])) h2
    · cases h
  · -- extract
    rename_i x i e
    rw [e] at hf
    have hx := hf x (by simp [Op.operands])
    split at h
    · rename_i vs hv
      rw [hv] at hx
      obtain ⟨xs, hx', hxs⟩ := hx
      split at h
      · rename_i u hu
        obtain ⟨y, hy, hr⟩ := hxs.get i u hu
        refine fin (x := y) h ?_ (hr.to rfl)
        simp [execOp, e, hx', Instr.extract, hy]
      · cases h
    · cases h
  · -- makeFunc
    rename_i fn first captured e
    rw [e] at hf
    split at h
    · rename_i f caps hfirst hcaps
      have hc := caps_rel (m := m) (n := n) (ρ := a.eval) captured.toList caps (fun x hx => hf x (by simp only [Op.operands, Array.toList_append, List.mem_append]; exact .inr hx)) hcaps
      have h1 : first = #[] := by
        apply Array.toList_inj.1; simpa using hfirst
      have h2 : captured.map a.eval = (caps.map fun b => Value.pointer (some ⟨m.lb b, 0, none⟩)).toArray := by
        apply Array.toList_inj.1; simpa using hc
      refine fin (x := .func (.func f) #[] (caps.map fun b => Value.pointer (some ⟨m.lb b, 0, none⟩)).toArray) h ?_ rfl
      simp [execOp, e, Instr.makeFunc, h1, h2]
    · cases h
  · rename_i e; rw [e] at hk; cases hk
  · rename_i e; rw [e] at hk; cases hk
  · rename_i e; rw [e] at hk; cases hk
  · -- call
    rename_i c e
    rw [e] at hk hf
    simp only at hk
    split at h
    · rename_i b hb
      rw [hb] at hk
      have hargs : ∀ x ∈ c.args.toList, VR m n (opnd s.fr x) (a.eval x) := fun x hx => hf x (by simp [Op.operands, Call.operands, hb] at hx ⊢; exact hx)
      have hall : All2 (VR m n) (c.args.toList.map (opnd s.fr)) (c.args.toList.map a.eval) := by
        refine All2.of_get (by simp) fun i p q hp hq => ?_
        simp only [List.getElem?_map] at hp hq
        cases hg : c.args.toList[i]? with
        | none => rw [hg] at hp; cases hp
        | some x =>
          rw [hg] at hp hq
          simp only [Option.map_some, Option.some.injEq] at hp hq
          subst hp
          subst hq
          exact hargs x (List.mem_of_getElem? hg)
      have hmap : (c.args.map a.eval).toList = c.args.toList.map a.eval := by simp
      obtain ⟨kn, hex⟩ := builtin_exec (P := P) (w := w) (ρ := a.eval) e hb
      unfold builtinV at h
      generalize c.args.toList.map (opnd s.fr) = us at h hall
      generalize c.args.toList.map a.eval = ys at hall hmap
      split at h
      · rename_i x
        split at h
        · rename_i el z0 bb sh q z ht hlen
          cases hall with
          | cons h1 h2 =>
            cases h2
            rename_i y
            cases hat : c.argTypes[0]? with
            | none => rw [hat] at ht; cases ht
            | some t0 =>
              rw [hat] at ht
              have hu := (hT _ _ (show tab t0 = _ from ht)).under
              simp only [UnderOk] at hu
              have hlen' : ∃ b k, y = .slice b (Int.toNat z) k ∧ z = (Int.toNat z : Int) := by
                cases x with
                | sl id off len sz =>
                  simp only [lenC, Option.some.injEq] at hlen
                  subst hlen
                  obtain ⟨_, _, cp, _, cap, ad, rfl, _⟩ := h1
                  exact ⟨_, _, rfl, rfl⟩
                | nsl =>
                  simp only [lenC, Option.some.injEq] at hlen
                  subst hlen
                  simp only [VR, CR] at h1
                  subst h1
                  exact ⟨_, _, rfl, rfl⟩
                | _ => cases hlen
              obtain ⟨ba, ca, rfl, hz⟩ := hlen'
              refine fin (x := .int .i64 z) h ?_ rfl
              rw [hex]
              have ha0 : (c.args.map a.eval)[0]? = some (.slice ba z.toNat ca) := by
                rw [← Array.getElem?_toList, hmap]; rfl
              simp [builtin, Builtin.len_, hat, ha0, run_underlying hu, goInt]
              omega
        · cases h
      · rename_i v vs
        cases hall with
        | cons h1 h2 =>
          rename_i y ys
          rw [foldI_bind] at h
          cases hr : foldI maxI v vs some with
          | none => rw [hr] at h; cases h
          | some r =>
            rw [hr, Option.bind_some] at h
            obtain ⟨z, hz, hv⟩ := fold_run (P := P) (w := w) (m := m) (n := n) (g := Builtin.max2) (fun k x k' y w => by simp [Builtin.max2, cv]) (fun k x y => ⟨_, rfl⟩) vs v ys y r h1 h2 hr
            refine fin (x := z) h ?_ hv
            rw [hex]
            simp only [builtin, Builtin.max_, hmap]
            simp [hz]
      · rename_i v vs
        cases hall with
        | cons h1 h2 =>
          rename_i y ys
          rw [foldI_bind] at h
          cases hr : foldI minI v vs some with
          | none => rw [hr] at h; cases h
          | some r =>
            rw [hr, Option.bind_some] at h
            obtain ⟨z, hz, hv⟩ := fold_run (P := P) (w := w) (m := m) (n := n) (g := Builtin.min2) (fun k x k' y w => by simp [Builtin.min2, cv]) (fun k x y => ⟨_, rfl⟩) vs v ys y r h1 h2 hr
            refine fin (x := z) h ?_ hv
            rw [hex]
            simp only [builtin, Builtin.min_, hmap]
            simp [hz]
      · cases hk
      · cases hk
      · cases h
    · rename_i f hb
      rw [hb] at hk
      cases hk
    · cases h
  · cases h
end Go.Ev
end

section
set_option linter.all false
/- Slices that grow. -/
namespace Go.Ev
variable {P : Program} {tab : Nat → Option TI} {gd : Nat → List C} {B : Nat → Nat} {vs : List Nat} {m : Nm} {s s' : St} {a : Act} {w : World} {v : V} {rd wr : List Root} {n : Nat}

/-- What was in the heap is there yet: its cells a beginning of what is there. -/
def Grows (H H' : Heap) : Prop := (∀ (id kd : Nat) (cs : List C), H[id]? = some (.mem kd cs) → ∃ (kd' : Nat) (cs' : List C), H'[id]? = some (.mem kd' cs') ∧ cs'.take cs.length = cs) ∧
  ∀ (id : Nat) (es : List (Int × Bool)), H[id]? = some (.map es) → H'[id]? = some (.map es)

theorem Grows.refl (H : Heap) : Grows H H := ⟨fun _ kd cs h => ⟨kd, cs, h, List.take_length⟩, fun _ _ h => h⟩
theorem Grows.trans {H H' H'' : Heap} (h : Grows H H') (h' : Grows H' H'') : Grows H H'' := ⟨fun id kd cs hc => by
  obtain ⟨k1, c1, h1, h2⟩ := h.1 id kd cs hc
  obtain ⟨k2, c2, h3, h4⟩ := h'.1 id k1 c1 h1
  have hle : cs.length ≤ c1.length := by rw [← h2]; simp; omega
  refine ⟨k2, c2, h3, ?_⟩
  have h5 : c2.take cs.length = (c2.take c1.length).take cs.length := by rw [List.take_take, Nat.min_eq_left hle]
  rw [h5, h4, h2], fun id es he => h'.2 id es (h.2 id es he)⟩
theorem Grows.push (H : Heap) (b : List Blk) : Grows H (H ++ b) := ⟨fun id kd cs h => ⟨kd, cs, by rw [List.getElem?_append_left (List.getElem?_eq_some_iff.1 h).1]; exact h, List.take_length⟩,
  fun id es h => by rw [List.getElem?_append_left (List.getElem?_eq_some_iff.1 h).1]; exact h⟩

theorem getD_get {H : Heap} {id : Nat} {kd : Nat} {cs : List C} (h : H.getD id .dead = .mem kd cs) : H[id]? = some (.mem kd cs) := by
  rw [List.getD_eq_getElem?_getD] at h
  cases hg : H[id]? with
  | none => rw [hg] at h; cases h
  | some z => rw [hg] at h; simp at h; rw [h]

theorem memAt_get {H : Heap} {id : Nat} {kd : Nat} {cs : List C} (h : H[id]? = some (.mem kd cs)) : memAt H id = cs := by
  simp [memAt, List.getD_eq_getElem?_getD, h]

/-- What a slice reads as, in the world. -/
theorem cells_run (h : SRel gd B vs m s a w) {c : C} {x : Value} {sz : Nat} {xs : List C} (hx : CR m.hp s.H.length c x) (hc : cellsOfC s.H sz c = some xs) (hz : sz ≠ 0) :
    ∃ (b : Option Addr) (l cap : Nat) (zs : List Value), x = .slice b l cap ∧ xs.length = l * sz ∧ All2 (CR m.hp s.H.length) xs zs ∧ (b = none → l = 0 ∧ cap = 0) ∧
      ∀ ad, b = some ad → ∀ (j : Nat) (u : Value), zs[j]? = some u → w.cell? (ad.add j) = some u := by
  unfold cellsOfC at hc
  split at hc
  · rename_i id off len sz'
    split at hc
    · rename_i hcond
      obtain ⟨rfl, hlen⟩ := hcond
      injection hc with hc
      obtain ⟨h1, h0, cp, h2, cap, ad, rfl, h3, h4, h5, h6⟩ := hx
      by_cases hl : len = 0
      · subst hl
        simp at hc
        subst hc
        exact ⟨_, _, _, [], rfl, by simp, .nil, by simp, fun ad _ j u hj => by simp at hj⟩
      · have hpos : 0 < len * sz := Nat.mul_pos (by omega) (by omega)
        have hne : memAt s.H id ≠ [] := by
          intro e
          rw [e] at hlen
          simp at hlen
          omega
        obtain ⟨kd, hm⟩ := memAt_of rfl hne
        obtain ⟨ys, ty, fz, zs, hg, hz1, hz2, hz3⟩ := elt_cells (i := off) (k := len * sz) (h.heap.cells id kd _ hm cp h2) h4
        have ha : ad = cp.base + off := h3.resolve_right (by omega)
        subst ha
        refine ⟨_, _, _, zs, rfl, ?_, ?_, by simp, fun ad' e j u hj => ?_⟩
        · rw [← hc]; simp; omega
        · rw [← hc]
          exact hz1.mono fun _ _ h' => CR.mono (bnd_le h id) (fun _ _ _ h => h) h'
        · injection e with e
          subst e
          rw [Addr.add_none, cell_of_row w cp.g _ ys ty fz hg]
          exact hz3 j u hj
    · cases hc
  · simp only [CR] at hx
    subst hx
    injection hc with hc
    subst hc
    exact ⟨none, 0, 0, [], rfl, by simp, .nil, by simp, by simp⟩
  · cases hc

theorem append_types {at_ : Array TypeId} {ty t0 t1 e e' l1 k1 l2 k2 : Nat} {b1 b2 : Option Addr} (h0 : at_[0]? = some t0) (h1 : at_[1]? = some t1) (u0 : P.underlying t0 = some (.slice e)) (u1 : P.underlying t1 = some (.slice e')) :
    (Builtin.append_ at_ ty #[.slice b1 l1 k1, .slice b2 l2 k2]).run P w = (Builtin.append_ #[t0, t0] ty #[.slice b1 l1 k1, .slice b2 l2 k2]).run P w := by
  simp only [Builtin.append_, h0, h1]
  simp [run_underlying u0, run_underlying u1]

theorem New.drew_alloc (w : World) (o : Obj) : New w o (w.drew.alloc o) where
  at_ := heap_alloc_new w.drew o
  other := fun k hk => heap_alloc_old w.drew o k hk
  size := by simp
  os := rfl
  tape := rfl
  output := rfl

theorem set_get {H : Heap} {id k : Nat} {b : Blk} (hk : k ≠ id) : (H.set id b)[k]? = H[k]? := by rw [List.getElem?_set, if_neg (Ne.symm hk)]

theorem Grows.set {H : Heap} {id kd kd2 : Nat} {cs cs2 : List C} (h : H[id]? = some (.mem kd cs)) (hc : cs2.take cs.length = cs) : Grows H (H.set id (.mem kd2 cs2)) := ⟨fun k k1 c1 hk => by
  by_cases e : k = id
  · subst e
    rw [h] at hk
    injection hk with hk
    injection hk with hk1 hk2
    subst hk1
    subst hk2
    exact ⟨kd2, cs2, by rw [List.getElem?_set, if_pos rfl, if_pos (List.getElem?_eq_some_iff.1 h).1], hc⟩
  · exact ⟨k1, c1, by rw [set_get e]; exact hk, List.take_length⟩, fun k es hk => by rw [set_get (by rintro rfl; rw [h] at hk; cases hk)]; exact hk⟩

theorem hp_mono {id g : Nat} {cps : List Cp} (h : ∀ c ∈ m.hp id, c ∈ cps) (k : Nat) : ∀ c ∈ m.hp k, c ∈ (m.heap id g cps).hp k := by
  intro c hc
  simp only [Nm.heap]
  split
  · rename_i e; subst e; exact h c hc
  · exact hc

/-- A new block of known cells. -/
theorem push_rel (h : SRel gd B vs m s a w) {w' : World} {cs : List C} {xs : List Value} {t : TypeId} {tot : Nat} (hl : cs.length ≤ tot) (hl2 : tot ≤ xs.length) (hc : All2 (CR m.hp s.H.length) cs (xs.take cs.length))
    (u : New w (.cells xs.toArray t (0, 0)) w') :
    SRel gd B vs (m.heap s.H.length w.heap.size [⟨w.heap.size, 0, cs.length, tot⟩]) { s with H := s.H ++ [.mem 2 cs] } a w' := by
  refine h.turn (id := s.H.length) (kd := 2) (cs := cs) u.chg (.inr ⟨Nat.le_refl _, fun c _ hlt => by omega⟩) (fun hlt => by omega) (by simp) (fun k hk hke => ?_) (by simp) (by omega) ?_ ?_ ?_
  · simp at hk
    refine ⟨by omega, ?_⟩
    rw [List.getElem?_append_left (by omega)]
  · intro c hc'
    simp only [List.mem_singleton] at hc'
    subst hc'
    refine ⟨Nat.le_refl _, hl, xs.toArray, t, (0, 0), u.at_, by simpa using hl2, fun j b hj hb => ?_, fun _ => ⟨rfl, rfl⟩⟩
    obtain ⟨x, hx, hr⟩ := hc.get j b hb
    simp only at hj
    rw [List.getElem?_take, if_pos hj] at hx
    refine ⟨x, by simpa using hx, CR.mono ?_ (fun k hk c hcc => ?_) hr⟩
    · unfold bnd
      have := h.n0
      rw [if_neg (by omega)]
      simp
    · simp only [Nm.heap]
      rw [if_neg (by omega)]
      exact hcc
  · intro _
    exact ⟨w.heap.size, fun c hc' _ => by simp only [List.mem_singleton] at hc'; subst hc'; exact ⟨rfl, rfl⟩⟩
  · intro c hc'
    simp only [List.mem_singleton] at hc'
    subst hc'
    simp [Nm.heap]

/-- A block that no step turns. -/
def Blk.still : Blk → Bool
  | .dead => true
  | .mem kd _ => kd == 0
  | .map _ => false

/-- What stands behind a step that may turn blocks of the heap. -/
structure After (gd : Nat → List C) (B : Nat → Nat) (vs : List Nat) (m : Nm) (s : St) (a : Act) (w : World) (H' : Heap) (m' : Nm) (w' : World) : Prop where
  rel : SRel gd B vs m' { s with H := H' } a w'
  kept : ∀ m0 w0, Kept m0 s.n0 w0 m w → Kept m0 s.n0 w0 m' w'
  le : m.Le s.H.length m'
  len : s.H.length ≤ H'.length
  same : ∀ g, g < w.heap.size → m.own g = .none → w'.heap[g]? = w.heap[g]? ∧ m'.own g = .none
  dead : ∀ id b, s.H[id]? = some b → b.still = true → H'[id]? = some b ∧ m'.hp id = m.hp id
  ro : ∀ (id : Nat) (cs : List C), H'[id]? = some (.mem 0 cs) → s.H[id]? = some (.mem 0 cs)
  size : w.heap.size ≤ w'.heap.size

theorem After.refl (h : SRel gd B vs m s a w) : After gd B vs m s a w s.H m w := ⟨h, fun _ _ hk => hk, ⟨rfl, rfl, fun _ _ _ h => h⟩, Nat.le_refl _, fun _ _ h => ⟨rfl, h⟩, fun _ _ h _ => ⟨h, rfl⟩, fun _ _ h => h, Nat.le_refl _⟩

theorem ro_set {H : Heap} {id : Nat} {b : Blk} (hb : ∀ cs, b ≠ .mem 0 cs) (k : Nat) (cs : List C) (h : (H.set id b)[k]? = some (.mem 0 cs)) : H[k]? = some (.mem 0 cs) := by
  by_cases e : k = id
  · subst e
    rw [List.getElem?_set, if_pos rfl] at h
    split at h
    · injection h with h; exact absurd h (hb cs)
    · cases h
  · rw [set_get e] at h; exact h
theorem ro_push {H : Heap} {b : Blk} (hb : ∀ cs, b ≠ .mem 0 cs) (k : Nat) (cs : List C) (h : (H ++ [b])[k]? = some (.mem 0 cs)) : H[k]? = some (.mem 0 cs) := by
  rw [List.getElem?_append] at h
  split at h
  · exact h
  · cases hd : k - H.length with
    | zero => rw [hd] at h; simp at h; exact absurd h (hb cs)
    | succ n => rw [hd] at h; simp at h

/-- Where one block turns that no one else has, what no one has is as it was. -/
theorem same_chg {id g : Nat} {cps : List Cp} {w' : World} (u : Chg w g w') (hg : m.own g = .heap id ∨ w.heap.size ≤ g) (k : Nat) (hk : k < w.heap.size) (h0 : m.own k = .none) : w'.heap[k]? = w.heap[k]? ∧ (m.heap id g cps).own k = .none := by
  have hne : k ≠ g := by
    rintro rfl
    rcases hg with hg | hg
    · rw [h0] at hg; cases hg
    · omega
  exact ⟨u.other k hk hne, by simp only [Nm.heap]; rw [if_neg hne, h0]⟩

theorem After.push (h : SRel gd B vs m s a w) {w' : World} {cs : List C} {xs : List Value} {t : TypeId} {tot : Nat} (hl : cs.length ≤ tot) (hl2 : tot ≤ xs.length) (hc : All2 (CR m.hp s.H.length) cs (xs.take cs.length))
    (u : New w (.cells xs.toArray t (0, 0)) w') :
    After gd B vs m s a w (s.H ++ [.mem 2 cs]) (m.heap s.H.length w.heap.size [⟨w.heap.size, 0, cs.length, tot⟩]) w' where
  rel := push_rel h hl hl2 hc u
  kept := fun m0 w0 hk => hk.chg u.chg (.inr (Nat.le_refl _)) (fun hlt => by have := h.n0; omega)
  le := Nm.heap_le fun hlt => by omega
  len := by simp
  same := fun k hk h0 => same_chg u.chg (.inr (Nat.le_refl _)) k hk h0
  dead := fun k b hk _ => by
    have hlt := (List.getElem?_eq_some_iff.1 hk).1
    exact ⟨by rw [List.getElem?_append_left hlt]; exact hk, by simp only [Nm.heap]; rw [if_neg (by omega)]⟩
  ro := ro_push (by simp)
  size := u.chg.le

theorem mem_head {α : Type} (x : α) (l : List α) : x ∈ l ++ [x] := by simp

/-- A block of the heap goes on: in the block of the world that bears it, or in a new one. -/
theorem more_rel (h : SRel gd B vs m s a w) {id kd kd2 g off tot : Nat} {cs cs2 xs : List C} {zs : List Value} {w' : World} (hid : s.H[id]? = some (.mem kd cs)) (hk0 : kd ≠ 0) (hn0 : s.n0 ≤ id)
    (hcs : cs.length ≤ cs2.length) (h1 : ∀ j, j < cs.length → cs2[j]? = cs[j]?) (h2 : ∀ j, j < xs.length → cs2[off + j]? = xs[j]?) (hl2 : off + xs.length ≤ cs2.length) (hk2 : kd2 ≠ 0) (hkd : kd2 = 2 → cs = [] ∧ off + xs.length = cs2.length)
    (hxz : All2 (CR m.hp s.H.length) xs zs) (hoff : off ≤ cs.length) (hg : m.own g = .heap id ∨ w.heap.size ≤ g) (u : Chg w g w') (htot : off + xs.length ≤ tot)
    (hnew : ∃ (ys : Array Value) (t : TypeId), w'.heap[g]? = some (.cells ys t (0, 0)) ∧ tot ≤ ys.size ∧ (∀ j b, j < off → cs[j]? = some b → ∃ x, ys[j]? = some x ∧ CR m.hp s.H.length b x) ∧ ∀ j (x : Value), zs[j]? = some x → ys[off + j]? = some x)
    (hold : ∀ c ∈ m.hp id, c.g = g → ∀ (ys : Array Value) (t : TypeId), w.heap[g]? = some (.cells ys t (0, 0)) → ∃ ys' : Array Value, w'.heap[g]? = some (.cells ys' t (0, 0)) ∧ ys'.size = ys.size ∧ ∀ j, (j < off ∨ off + zs.length ≤ j) → ys'[j]? = ys[j]?) :
    After gd B vs m s a w (s.H.set id (.mem kd2 cs2)) (m.heap id g (m.hp id ++ [⟨g, 0, off + xs.length, tot⟩])) w' := by
  have hsub : ∀ c ∈ m.hp id, c ∈ m.hp id ++ [⟨g, 0, off + xs.length, tot⟩] := fun c hc => by simp [hc]
  have hlt : id < s.H.length := (List.getElem?_eq_some_iff.1 hid).1
  have hzl := hxz.length
  have hbn : ∀ b x, CR m.hp s.H.length b x → CR (m.heap id g (m.hp id ++ [⟨g, 0, off + xs.length, tot⟩])).hp (bnd B s.n0 (s.H.set id (.mem kd2 cs2)).length id) b x := fun b x hr => by
    refine CR.mono ?_ (fun k _ => hp_mono hsub k) hr
    unfold bnd
    rw [if_neg (by omega)]
    simp
  refine ⟨?_, fun m0 w0 hk => hk.chg u hg (fun _ => hsub), Nm.heap_le (fun _ => hsub), by simp, fun k hk h0 => same_chg u hg k hk h0, fun k b hk hb => ?_, ro_set fun cs e => (by injection e with e; exact hk2 e), u.le⟩
  case refine_2 =>
    have hne : k ≠ id := by rintro rfl; rw [hid] at hk; injection hk with hk; subst hk; exact hk0 (by simpa [Blk.still] using hb)
    exact ⟨by rw [set_get hne]; exact hk, by simp only [Nm.heap]; rw [if_neg hne]⟩
  refine h.turn (id := id) (kd := kd2) (cs := cs2) u ?_ (fun _ => hsub) (by simp) (fun k hk hke => ⟨by simpa using hk, set_get hke⟩) (by rw [List.getElem?_set, if_pos rfl, if_pos hlt]) hk2 ?_ ?_ ?_
  · rcases hg with hg | hg
    · exact .inl hg
    · exact .inr ⟨hg, fun c hc _ => h.heap.own id kd cs hid hk0 c hc⟩
  · intro c hc
    simp only [List.mem_append, List.mem_singleton] at hc
    rcases hc with hc | rfl
    · obtain ⟨r1, r2, ys, ty, fz, r3, r4, r5, r6⟩ := h.heap.cells id kd cs hid c hc
      obtain ⟨r7, r8⟩ := r6 hk0
      subst r8
      by_cases e : c.g = g
      · rw [e] at r3
        obtain ⟨ys', q1, q2, q3⟩ := hold c hc e ys ty r3
        refine ⟨by omega, r2, ys', ty, (0, 0), by rw [e]; exact q1, by omega, fun j b hj hb => ?_, fun _ => ⟨r7, rfl⟩⟩
        rw [r7, Nat.zero_add]
        rw [h1 j (by omega)] at hb
        by_cases j1 : j < off ∨ off + zs.length ≤ j
        · obtain ⟨x, hx, hr⟩ := r5 j b hj hb
          rw [r7, Nat.zero_add] at hx
          exact ⟨x, by rw [q3 j j1]; exact hx, hbn _ _ (CR.mono (bnd_le h id) (fun _ _ _ h => h) hr)⟩
        · have j2 : off ≤ j := by omega
          have j3 : j - off < xs.length := by omega
          have hb2 : xs[j - off]? = some b := by
            rw [← h2 _ j3, show off + (j - off) = j from by omega, h1 j (by omega), hb]
          obtain ⟨x, hx, hr⟩ := hxz.get _ b hb2
          obtain ⟨ys2, t2, p1, p2, p3, p4⟩ := hnew
          rw [q1] at p1
          simp only [Option.some.injEq, Obj.cells.injEq] at p1
          obtain ⟨rfl, -⟩ := p1
          refine ⟨x, ?_, hbn _ _ hr⟩
          rw [← p4 _ x hx]
          congr 1; omega
      · have hlc := lt_of_get r3
        refine ⟨by omega, r2, ys, ty, (0, 0), by rw [u.other _ hlc e]; exact r3, r4, fun j b hj hb => ?_, fun _ => ⟨r7, rfl⟩⟩
        rw [h1 j (by omega)] at hb
        obtain ⟨x, hx, hr⟩ := r5 j b hj hb
        exact ⟨x, hx, hbn _ _ (CR.mono (bnd_le h id) (fun _ _ _ h => h) hr)⟩
    · obtain ⟨ys, t, p1, p2, p3, p4⟩ := hnew
      refine ⟨hl2, htot, ys, t, (0, 0), p1, by simpa using p2, fun j b hj hb => ?_, fun _ => ⟨rfl, rfl⟩⟩
      simp only at hj
      simp only [Nat.zero_add]
      by_cases j1 : j < off
      · rw [h1 j (by omega)] at hb
        obtain ⟨x, hx, hr⟩ := p3 j b j1 hb
        exact ⟨x, hx, hbn _ _ hr⟩
      · have hb2 : xs[j - off]? = some b := by
          rw [← h2 _ (by omega), show off + (j - off) = j from by omega, hb]
        obtain ⟨x, hx, hr⟩ := hxz.get _ b hb2
        refine ⟨x, ?_, hbn _ _ hr⟩
        rw [← p4 _ x hx]
        congr 1; omega
  · intro h2
    obtain ⟨hc0, hc9⟩ := hkd h2
    refine ⟨g, fun c hc hp => ?_⟩
    simp only [List.mem_append, List.mem_singleton] at hc
    rcases hc with hc | rfl
    · have := (h.heap.cells id kd cs hid c hc).1
      rw [hc0] at this
      simp at this
      omega
    · exact ⟨rfl, hc9⟩
  · intro c hc
    simp only [List.mem_append, List.mem_singleton] at hc
    simp only [Nm.heap]
    split
    · rfl
    · rename_i e
      rcases hc with hc | rfl
      · exact h.heap.own id kd cs hid hk0 c hc
      · exact absurd rfl e

theorem append_key (h : SRel gd B vs m s a w) {id kd kd2 t0 e ty l1 l ad cap cap2 : Nat} {ad2 : Addr} {cs cs2 xs : List C} {zs : List Value} {ti : TI} {i : TypeInfo} {zv : Value} {zz : List Value} {cp : Cp} {ys : Array Value} {t : TypeId}
    (u0 : P.underlying t0 = some (.slice e)) (hz : ti.zero.length ≠ 0) (i1 : P.info? e = some i) (i2 : i.size = ti.zero.length) (i4 : i.zero = some zv) (i5 : zv.cells = zz.toArray) (i6 : All2 (CR m.hp s.H.length) ti.zero zz)
    (e1 : xs.length = l * ti.zero.length) (e2 : All2 (CR m.hp s.H.length) xs zs) (hl0 : ¬ l = 0) (hszl : zs.length = l * i.size) (hnews : ∀ (j : Nat) (u : Value), zs[j]? = some u → w.cell? (ad2.add j) = some u) (hone : ∀ z ∈ zs, z.oneCell' = true)
    (hid : s.H[id]? = some (.mem kd cs)) (hk0 : kd ≠ 0) (hn0 : s.n0 ≤ id) (q1 : id < s.H.length) (q2 : cp ∈ m.hp id) (q3 : ad = cp.base ∨ cap = 0) (q4 : l1 * ti.zero.length ≤ cp.p) (q5 : cap * ti.zero.length ≤ cp.tot) (q6 : l1 ≤ cap)
    (r1 : cp.p ≤ cs.length) (r2 : cp.p ≤ cp.tot) (r3 : w.heap[cp.g]? = some (.cells ys t (0, 0))) (r4 : cp.base + cp.tot ≤ ys.size) (r7 : cp.base = 0) (hown : m.own cp.g = .heap id)
    (hb1 : (l1 + l) * i.bytes ≤ 2 ^ 40) (hb2 : l1 + l ≤ 2 ^ 40)
    (hpre : ∀ j b, j < l1 * ti.zero.length → cs[j]? = some b → ∃ x, ys[j]? = some x ∧ CR m.hp s.H.length b x)
    (g1 : cs.length ≤ cs2.length) (g2 : ∀ j, j < cs.length → cs2[j]? = cs[j]?) (g3 : ∀ j, j < xs.length → cs2[l1 * ti.zero.length + j]? = xs[j]?) (g4 : l1 * ti.zero.length + xs.length ≤ cs2.length) (g5 : kd2 ≠ 0)
    (g6 : kd2 = 2 → cs = [] ∧ l1 * ti.zero.length + xs.length = cs2.length) :
    ∃ z w' m', (Builtin.append_ #[t0, t0] ty #[.slice (some ⟨cp.g, ad, none⟩) l1 cap, .slice (some ad2) l cap2]).run P w = .ok z w' ∧ After gd B vs m s a w (s.H.set id (.mem kd2 cs2)) m' w' ∧
      CR m'.hp (s.H.set id (.mem kd2 cs2)).length (.sl id 0 (l1 + l) ti.zero.length) z := by
  have hzl := e2.length
  by_cases hroom : l1 + l ≤ cap
  · have hadd : ad = 0 := by
      have := q3.resolve_right (by omega)
      omega
    subst hadd
    have hcz : (l1 + l) * ti.zero.length ≤ cap * ti.zero.length := Nat.mul_le_mul_right _ hroom
    rw [Nat.add_mul] at hcz
    have hfit : l1 * ti.zero.length + 0 + zs.length ≤ ys.toList.length := by simp; omega
    obtain ⟨w', hst, u⟩ := run_stores P cp.g t zs w (l1 * ti.zero.length) 0 ys.toList (by simpa using r3) hfit hone
    simp only [Nat.add_zero] at u hfit
    have hA := more_rel (g := cp.g) (off := l1 * ti.zero.length) (tot := cp.tot) (w' := w') h hid hk0 hn0 g1 g2 g3 g4 g5 g6 e2 (by omega) (.inl hown) u.chg (by omega)
      ⟨_, t, u.at_, by rw [List.size_toArray, put_len _ _ _ hfit]; simp; omega, fun j b hj hb => by
        obtain ⟨x, hx, hr⟩ := hpre j b hj hb
        refine ⟨x, ?_, hr⟩
        rw [List.getElem?_toArray, put_get _ _ _ _ hfit, if_pos hj]
        simpa using hx, fun j x hj => by
        have hjl : j < zs.length := (List.getElem?_eq_some_iff.1 hj).1
        rw [List.getElem?_toArray, put_get _ _ _ _ hfit, if_neg (by omega), if_pos (by omega)]
        rw [← hj]; congr 1; omega⟩
      (fun c _ _ ys2 t2 hy2 => by
        rw [r3] at hy2
        simp only [Option.some.injEq, Obj.cells.injEq] at hy2
        obtain ⟨rfl, rfl, -⟩ := hy2
        refine ⟨_, u.at_, by rw [List.size_toArray, put_len _ _ _ hfit]; simp, fun j hj => ?_⟩
        rw [List.getElem?_toArray, put_get _ _ _ _ hfit]
        rcases hj with hj | hj
        · rw [if_pos hj]; simp
        · rw [if_neg (by omega), if_neg (by omega)]; simp)
    refine ⟨.slice (some ⟨cp.g, 0, none⟩) (l1 + l) cap, w', _, ?_, hA, ⟨by simpa using q1, by omega, ⟨cp.g, 0, l1 * ti.zero.length + xs.length, cp.tot⟩, by simp [Nm.heap], cap, 0, rfl, .inl rfl, ?_, by simp only; omega, hroom⟩⟩
    · have hf := run_firstCells_some (P := P) w i.size l ad2 l cap2 zs hszl hnews
      rw [← i2] at hst
      simp [Builtin.append_, run_underlying u0, sizeOf, typeInfo, i1, Builtin.lenOf, hroom, hf, Addr.add_none, hst]
    · simp only; rw [e1, ← Nat.add_mul]; omega
  · have holds : ∃ olds : List Value, olds.length = l1 * i.size ∧ (∀ j v, olds[j]? = some v → w.cell? ((⟨cp.g, ad, none⟩ : Addr).add j) = some v) ∧
        (∀ j b, j < l1 * ti.zero.length → cs[j]? = some b → ∃ x, olds[j]? = some x ∧ CR m.hp s.H.length b x) := by
      by_cases hc0 : cap = 0
      · have : l1 = 0 := by omega
        subst this
        exact ⟨[], by simp, by simp, by simp⟩
      · have hadd : ad = 0 := by
          have := q3.resolve_right hc0
          omega
        subst hadd
        refine ⟨ys.toList.take (l1 * i.size), by rw [i2]; simp; omega, fun j v hj => ?_, fun j b hj hb => ?_⟩
        · rw [List.getElem?_take] at hj
          by_cases hjl : j < l1 * i.size
          · rw [if_pos hjl] at hj
            rw [Addr.add_none, cell_of_row w cp.g _ ys t (0, 0) r3, Nat.zero_add]
            simpa using hj
          · rw [if_neg hjl] at hj
            cases hj
        · obtain ⟨x, hx, hr⟩ := hpre j b hj hb
          refine ⟨x, ?_, hr⟩
          rw [List.getElem?_take, i2, if_pos hj]
          simpa using hx
    obtain ⟨olds, o1, o2, o3⟩ := holds
    have hr := run_append_grow (P := P) w t0 ty e i zv u0 i1 i4 ⟨cp.g, ad, none⟩ l1 cap olds o1 o2 ad2 l cap2 zs hszl hnews (by omega) (by omega) (growslice_fits (by omega) (by omega))
    have hge := grownCap_ge w (l1 + l) cap e
    generalize hN : grownCap w (l1 + l) cap e = N at hr hge
    have u := New.drew_alloc w (.cells (olds.toArray ++ zs.toArray ++ Builtin.zeroCells zv.cells (N - (l1 + l))) e)
    have hsz : (olds.toArray ++ zs.toArray ++ Builtin.zeroCells zv.cells (N - (l1 + l))).size = N * ti.zero.length := by
      simp only [Array.size_append, List.size_toArray, o1, hszl, size_zeroCells, i5]
      rw [← i6.length, i2, ← Nat.add_mul, ← Nat.add_mul]
      congr 1; omega
    have hNz : (l1 + l) * ti.zero.length ≤ N * ti.zero.length := Nat.mul_le_mul_right _ hge
    rw [Nat.add_mul] at hNz
    rw [i2] at o1
    have hA := more_rel (g := w.heap.size) (off := l1 * ti.zero.length) (tot := N * ti.zero.length) h hid hk0 hn0 g1 g2 g3 g4 g5 g6 e2 (by omega) (.inr (Nat.le_refl _)) u.chg (by omega)
      ⟨_, e, u.at_, by omega, fun j b hj hb => by
        obtain ⟨x, hx, hr⟩ := o3 j b hj hb
        refine ⟨x, ?_, hr⟩
        rw [Array.getElem?_append_left (by simp; omega), Array.getElem?_append_left (by simp; omega)]
        simpa using hx, fun j x hj => by
        have hjl : j < zs.length := (List.getElem?_eq_some_iff.1 hj).1
        rw [Array.getElem?_append_left (by simp; omega), Array.getElem?_append_right (by simp; omega)]
        rw [← hj]
        simp [o1]⟩
      (fun c hc hcg ys2 t2 hy2 => absurd (lt_of_get hy2) (by omega))
    refine ⟨_, _, _, hr, hA, ⟨by simpa using q1, by omega, ⟨w.heap.size, 0, l1 * ti.zero.length + xs.length, N * ti.zero.length⟩, by simp [Nm.heap], N, 0, rfl, .inl rfl, ?_, by simp, hge⟩⟩
    simp only; rw [e1, ← Nat.add_mul]; omega

theorem append_run (hT : TabOk P tab) (h : SRel gd B vs m s a w) {at_ : Array TypeId} {ty t0 t1 e e' : Nat} {ti : TI} {c c2 d : C} {x y : Value} {xs : List C} {H' : Heap}
    (h0 : at_[0]? = some t0) (h1 : at_[1]? = some t1) (u0 : P.underlying t0 = some (.slice e)) (u1 : P.underlying t1 = some (.slice e')) (ht : tab e = some ti) (hz : ti.zero.length ≠ 0)
    (hx : CR m.hp s.H.length c x) (hy : CR m.hp s.H.length c2 y) (hxs : cellsOfC s.H ti.zero.length c2 = some xs) (ha : appendC s.H s.n0 ti.zero.length ti.bytes c xs pair2 = some (d, H')) :
    ∃ z w' m', (Builtin.append_ at_ ty #[x, y]).run P w = .ok z w' ∧ After gd B vs m s a w H' m' w' ∧ CR m'.hp H'.length d z ∧ Grows s.H H' := by
  obtain ⟨i, zv, zz, i1, i2, i3, i4, i5, i6⟩ := zero_rel hT ht ((hT e ti ht).not_tup hz) m.hp s.H.length
  obtain ⟨b, l, cap2, zs, rfl, e1, e2, e3, e4⟩ := cells_run h hy hxs hz
  have hzl := e2.length
  have hszl : zs.length = l * i.size := by rw [← hzl, e1, i2]
  have hsl : ∃ b1 l1 k1, x = .slice b1 l1 k1 ∧ l1 ≤ k1 := by
    unfold appendC at ha
    split at ha
    · simp only [CR] at hx; exact ⟨_, _, _, hx, Nat.le_refl _⟩
    · obtain ⟨_, _, cp, _, cap, ad, rfl, _, _, _, hle⟩ := hx; exact ⟨_, _, _, rfl, hle⟩
    · cases ha
  obtain ⟨b1, l1, k1, rfl, hle⟩ := hsl
  rw [append_types h0 h1 u0 u1]
  by_cases hl0 : l = 0
  · -- nothing to add
    subst hl0
    have hxs0 : xs = [] := List.eq_nil_of_length_eq_zero (by simpa using e1)
    subst hxs0
    have hzs0 : zs = [] := List.eq_nil_of_length_eq_zero (by simpa using hszl)
    subst hzs0
    have hid : d = c ∧ H' = s.H := by
      unfold appendC at ha
      split at ha
      · simp only [List.length_nil, beq_self_eq_true, cond_true, pair2, Option.some.injEq, Prod.mk.injEq] at ha
        exact ⟨ha.1.symm, ha.2.symm⟩
      · simp only [List.length_nil, beq_self_eq_true, cond_true, pair2, Option.some.injEq, Prod.mk.injEq] at ha
        exact ⟨ha.1.symm, ha.2.symm⟩
      · cases ha
    obtain ⟨rfl, rfl⟩ := hid
    refine ⟨.slice b1 l1 k1, w, m, ?_, After.refl h, hx, Grows.refl _⟩
    have hfc : (Builtin.firstCells i.size 0 (.slice b 0 cap2)).run P w = .ok #[] w := by
      cases b <;> simp [Builtin.firstCells, loadCells, loadCellsFrom]
    cases b1 <;> simp [Builtin.append_, run_underlying u0, sizeOf, typeInfo, i1, Builtin.lenOf, hfc, hle, storeCells]
  · have hxl : xs.length ≠ 0 := by rw [e1]; intro e; rcases Nat.mul_eq_zero.1 e with e | e <;> omega
    obtain ⟨ad2, hb⟩ : ∃ ad2, b = some ad2 := by
      cases b with
      | none => exact absurd (e3 rfl).1 hl0
      | some ad2 => exact ⟨ad2, rfl⟩
    subst hb
    have hnews := e4 ad2 rfl
    have hone : ∀ z ∈ zs, z.oneCell' = true := by
      intro z hz'
      obtain ⟨j, hj⟩ := List.getElem?_of_mem hz'
      obtain ⟨c, _, hr⟩ := e2.getR j z hj
      exact hr.oneCell
    have hdiv : xs.length / ti.zero.length = l := by rw [e1]; exact Nat.mul_div_cancel _ (by omega)
    unfold appendC at ha
    split at ha
    · -- a nil slice
      have hb0 : (xs.length == 0) = false := by simpa using hxl
      rw [hb0, cond_false, hdiv] at ha
      split at ha
      · rename_i hcap
        simp only [pair2, Option.some.injEq, Prod.mk.injEq] at ha
        obtain ⟨rfl, rfl⟩ := ha
        simp only [CR, Value.slice.injEq] at hx
        obtain ⟨rfl, rfl, rfl⟩ := hx
        have hb1 : l * i.bytes ≤ 2 ^ 40 := by rw [i3]; exact Nat.le_trans (Nat.mul_le_mul_left l (by omega)) hcap
        have hb2 : l ≤ 2 ^ 40 := by rw [Nat.mul_add] at hcap; omega
        have hr := run_append_nil (P := P) w t0 ty e i zv u0 i1 i4 ad2 l cap2 zs hszl hnews (by omega) (by omega) (by omega)
        have hge := grownCap_ge w l 0 e
        have hA := After.push (w' := w.drew.alloc (.cells (zs.toArray ++ Builtin.zeroCells zv.cells (grownCap w l 0 e - l)) e)) (cs := xs) (tot := grownCap w l 0 e * ti.zero.length)
          (xs := zs ++ (Builtin.zeroCells zv.cells (grownCap w l 0 e - l)).toList) (t := e) h ?_ ?_ ?_ ?_
        · refine ⟨_, _, _, hr, hA, ⟨by simp, by omega, _, by simp [Nm.heap]; rfl, grownCap w l 0 e, 0, ?_, .inl rfl, ?_, ?_, hge⟩, Grows.push _ _⟩
          · rfl
          · simp only; rw [e1]; omega
          · simp
        · rw [e1]; exact Nat.mul_le_mul_right _ hge
        · simp only [List.length_append, hszl, Array.length_toList, size_zeroCells, i5, List.size_toArray]
          rw [← i6.length, i2, ← Nat.add_mul]
          exact Nat.mul_le_mul_right _ (by omega)
        · rw [hzl, List.take_left']; exact e2
          rfl
        · have := New.drew_alloc w (.cells (zs.toArray ++ Builtin.zeroCells zv.cells (grownCap w l 0 e - l)) e)
          have e9 : (zs ++ (Builtin.zeroCells zv.cells (grownCap w l 0 e - l)).toList).toArray = zs.toArray ++ Builtin.zeroCells zv.cells (grownCap w l 0 e - l) := by
            apply Array.toList_inj.1; simp
          rw [e9]; exact this
      · cases ha
    · -- a slice
      rename_i id off len sz'
      have hb0 : (xs.length == 0) = false := by simpa using hxl
      rw [hb0, cond_false, hdiv] at ha
      split at ha
      · rename_i kd cs hgd
        have hid := getD_get hgd
        split at ha
        · rename_i hcond
          obtain ⟨rfl, rfl, hk0, hcap, hn0⟩ := hcond
          obtain ⟨q1, q0, cp, q2, cap, ad, hxe, q3, q4, q5, q6⟩ := hx
          simp only [Value.slice.injEq] at hxe
          obtain ⟨rfl, rfl, rfl⟩ := hxe
          simp only [Nat.zero_add, Nat.add_zero] at q3 q4 q5
          obtain ⟨r1, r2, ys, t, fz, r3, r4, r5, r6⟩ := h.heap.cells id kd cs hid cp q2
          obtain ⟨r7, r8⟩ := r6 hk0
          subst r8
          have hown := h.heap.own id kd cs hid hk0 cp q2
          have hb1 : (l1 + l) * i.bytes ≤ 2 ^ 40 := by rw [i3]; exact Nat.le_trans (Nat.mul_le_mul_left _ (by omega)) hcap
          have hb2 : l1 + l ≤ 2 ^ 40 := by rw [Nat.mul_add] at hcap; omega
          -- the cells that were there
          have hpre : ∀ j b, j < l1 * ti.zero.length → cs[j]? = some b → ∃ x, ys[j]? = some x ∧ CR m.hp s.H.length b x := by
            intro j b hj hb
            obtain ⟨x, hx, hr⟩ := r5 j b (by omega) hb
            rw [r7, Nat.zero_add] at hx
            exact ⟨x, hx, CR.mono (bnd_le h id) (fun _ _ _ h => h) hr⟩
          have key : ∀ (cs2 : List C) (kd2 : Nat), cs.length ≤ cs2.length → (∀ j, j < cs.length → cs2[j]? = cs[j]?) → (∀ j, j < xs.length → cs2[l1 * ti.zero.length + j]? = xs[j]?) → l1 * ti.zero.length + xs.length ≤ cs2.length → kd2 ≠ 0 →
              (kd2 = 2 → cs = [] ∧ l1 * ti.zero.length + xs.length = cs2.length) →
              ∃ z w' m', (Builtin.append_ #[t0, t0] ty #[.slice (some ⟨cp.g, ad, none⟩) l1 k1, .slice (some ad2) l cap2]).run P w = .ok z w' ∧ After gd B vs m s a w (s.H.set id (.mem kd2 cs2)) m' w' ∧
                CR m'.hp (s.H.set id (.mem kd2 cs2)).length (.sl id 0 (l1 + l) ti.zero.length) z := by
            intro cs2 kd2 g1 g2 g3 g4 g5 g6
            exact append_key h u0 hz i1 i2 i4 i5 i6 e1 e2 hl0 hszl hnews hone hid hk0 hn0 q1 q2 q3 q4 q5 q6 r1 r2 r3 r4 r7 hown hb1 hb2 hpre g1 g2 g3 g4 g5 g6
          split at ha
          · rename_i hcl
            simp only [pair2, Option.some.injEq, Prod.mk.injEq] at ha
            obtain ⟨rfl, rfl⟩ := ha
            obtain ⟨z, w', m', p1, p2, p3⟩ := key (cs ++ xs) (if l1 = 0 then kd else 1) (by simp) (fun j hj => by rw [List.getElem?_append_left hj]) (fun j hj => by rw [List.getElem?_append_right (by omega)]; congr 1; omega) (by simp; omega) (by split <;> omega)
              (fun hk => by
                by_cases hl1 : l1 = 0
                · subst hl1
                  have : cs = [] := List.eq_nil_of_length_eq_zero (by omega)
                  exact ⟨this, by simp [this]⟩
                · rw [if_neg hl1] at hk; omega)
            exact ⟨z, w', m', p1, p2, p3, Grows.set hid (by simp)⟩
          · split at ha
            · rename_i hcl
              obtain ⟨c1, c2'⟩ := hcl
              simp only [pair2, Option.some.injEq, Prod.mk.injEq] at ha
              obtain ⟨rfl, rfl⟩ := ha
              obtain ⟨z, w', m', p1, p2, p3⟩ := key cs 1 (Nat.le_refl _) (fun _ _ => rfl) (fun j hj => by rw [← c2', List.getElem?_take, if_pos hj, List.getElem?_drop]) c1 (by omega) (fun hk => by omega)
              exact ⟨z, w', m', p1, p2, p3, Grows.set hid List.take_length⟩
            · cases ha
        · cases ha
      · cases ha
    · cases ha
end Go.Ev
end

section
set_option linter.all false
/- New slices, copies, maps. -/
namespace Go.Ev
variable {P : Program} {tab : Nat → Option TI} {gd : Nat → List C} {B : Nat → Nat} {vs : List Nat} {m : Nm} {s s' : St} {a : Act} {w : World} {v : V} {rd wr : List Root} {n : Nat}

theorem repC_len (z : List C) : ∀ n, (repC z n).length = n * z.length
  | 0 => by simp [repC]
  | n + 1 => by rw [repC, List.length_append, repC_len z n, Nat.add_mul]; omega

theorem repC_get (z : List C) : ∀ n j, j < n * z.length → (repC z n)[j]? = z[j % z.length]?
  | 0, j, h => by simp at h
  | n + 1, j, h => by
    rw [repC]
    rw [Nat.add_mul, Nat.one_mul] at h
    by_cases hj : j < z.length
    · rw [List.getElem?_append_left hj, Nat.mod_eq_of_lt hj]
    · rw [List.getElem?_append_right (by omega), repC_get z n _ (by omega)]
      rw [← Nat.mod_eq_sub_mod (by omega)]

theorem made_get (z : List Value) (N j : Nat) (hj : j < N) (hz : z.length ≠ 0) : (madeCells z.toArray N)[j]? = z[j % z.length]? := by
  have hlt : j % z.length < z.length := Nat.mod_lt _ (by omega)
  simp [madeCells, hj, hlt]

theorem rep_rel {hp : Nat → List Cp} {z : List C} {zz : List Value} {k N : Nat} (h : All2 (CR hp n) z zz) (hz : z.length ≠ 0) (hk : k * z.length ≤ N) :
    All2 (CR hp n) (repC z k) ((madeCells zz.toArray N).toList.take (repC z k).length) := by
  have hl := h.length
  have hml : (madeCells zz.toArray N).toList.length = N := by simp [madeCells]
  have hrl := repC_len z k
  refine All2.of_get (by rw [List.length_take, hml]; omega) fun i x y hx hy => ?_
  have hi : i < k * z.length := by have := (List.getElem?_eq_some_iff.1 hx).1; rw [repC_len] at this; exact this
  rw [repC_get z k i hi] at hx
  rw [List.getElem?_take, repC_len, if_pos hi, Array.getElem?_toList, made_get zz N i (by omega) (by omega)] at hy
  obtain ⟨u, hu, hr⟩ := h.get _ x hx
  rw [← hl, hu] at hy
  injection hy with hy
  subst hy
  exact hr

theorem New.alloc (w : World) (o : Obj) : New w o (w.alloc o) where
  at_ := heap_alloc_new w o
  other := fun k hk => heap_alloc_old w o k hk
  size := by simp
  os := rfl
  tape := rfl
  output := rfl

/-- A slice is made: what the machine does, whatever is done with it. -/
theorem make_run (hT : TabOk P tab) {t e : Nat} {ti : TI} {k k' : IntKind} {l c : Int} {z : List C} {b : Nat} {sh : List Sh} {q : Bool} (ht : tab t = some ⟨.slice e, z, b, sh, q⟩) (hte : tab e = some ti)
    (hb : (decide (0 ≤ l) && decide (l ≤ c) && decide (c ≤ 2 ^ 40) && decide (c * ti.bytes ≤ 2 ^ 40) && !ti.zero.isEmpty) = true) (hp : Nat → List Cp) (n : Nat) :
    ∃ (xs : List Value), (Instr.makeSlice t (.int k l) (.int k' c)).run P w = .ok (.slice (some ⟨w.heap.size, 0, none⟩) l.toNat c.toNat) (w.alloc (.cells xs.toArray e)) ∧
      xs.length = c.toNat * ti.zero.length ∧ All2 (CR hp n) (repC ti.zero l.toNat) (xs.take (repC ti.zero l.toNat).length) ∧ l.toNat ≤ c.toNat ∧ ti.zero.length ≠ 0 := by
  simp only [Bool.and_eq_true, decide_eq_true_eq, Bool.not_eq_true', List.isEmpty_eq_false_iff] at hb
  obtain ⟨⟨⟨⟨b0, b1⟩, b2⟩, b3⟩, b4⟩ := hb
  have hz : ti.zero.length ≠ 0 := by intro e; exact b4 (List.eq_nil_of_length_eq_zero e)
  have hu := (hT _ _ ht).under
  simp only [UnderOk] at hu
  obtain ⟨i, zv, zz, i1, i2, i3, i4, i5, i6⟩ := zero_rel hT hte ((hT e ti hte).not_tup hz) hp n
  have hr := run_make (P := P) w t e i zv hu i1 i4 k k' l c b0 b1 (by rw [i3, Int.mul_comm]; omega) (by omega)
  refine ⟨(madeCells zv.cells (c.toNat * i.size)).toList, ?_, ?_, ?_, by omega, hz⟩
  · simpa using hr
  · rw [Array.length_toList, size_madeCells, i2]
  · rw [i5, i2]
    exact rep_rel i6 hz (Nat.mul_le_mul_right _ (by omega))

theorem makeD_run (hT : TabOk P tab) (h : SRel gd B vs m s a w) {t e : Nat} {ti : TI} {k k' : IntKind} {l c : Int} {z : List C} {b : Nat} {sh : List Sh} {q : Bool} (ht : tab t = some ⟨.slice e, z, b, sh, q⟩) (hte : tab e = some ti)
    (hb : (decide (0 ≤ l) && decide (l ≤ c) && decide (c ≤ 2 ^ 40) && decide (c * ti.bytes ≤ 2 ^ 40) && !ti.zero.isEmpty) = true) :
    ∃ x w' m', (Instr.makeSlice t (.int k l) (.int k' c)).run P w = .ok x w' ∧ After gd B vs m s a w (s.H ++ [Blk.mem 2 (repC ti.zero l.toNat)]) m' w' ∧
      CR m'.hp (s.H ++ [Blk.mem 2 (repC ti.zero l.toNat)]).length (.sl s.H.length 0 l.toNat ti.zero.length) x := by
  obtain ⟨xs, h1, h2, h3, h4, h5⟩ := make_run (P := P) (w := w) (k := k) (k' := k') hT ht hte hb m.hp s.H.length
  have hA := After.push (w' := w.alloc (.cells xs.toArray e)) (cs := repC ti.zero l.toNat) (xs := xs) (t := e) (tot := c.toNat * ti.zero.length) h (by rw [repC_len]; exact Nat.mul_le_mul_right _ h4) (by omega) h3 (New.alloc w _)
  refine ⟨_, _, _, h1, hA, ⟨by simp, by omega, ⟨w.heap.size, 0, (repC ti.zero l.toNat).length, c.toNat * ti.zero.length⟩, by simp [Nm.heap], c.toNat, 0, rfl, .inl rfl, ?_, by simp, h4⟩⟩
  simp [repC_len]

theorem buildSlice_run (hT : TabOk P tab) (h : SRel gd B vs m s a w) {t e len : Nat} {ti : TI} {z : List C} {b : Nat} {sh : List Sh} {q : Bool} {ps : List (Nat × List C)} {qs : List (Nat × Value)} {cs : List C}
    (ht : tab t = some ⟨.slice e, z, b, sh, q⟩) (hte : tab e = some ti) (hp : All2 (PartR m.hp s.H.length) ps qs)
    (hf : fillC (fun i => some (i * ti.zero.length, ti.zero.length)) (repC ti.zero len) ps = some cs) (hb : len * ti.zero.length ≤ 1000 ∧ ti.zero.length ≠ 0) :
    ∃ x w' m', (Instr.buildSlice t len qs.toArray).run P w = .ok x w' ∧ After gd B vs m s a w (s.H ++ [Blk.mem 2 cs]) m' w' ∧ CR m'.hp (s.H ++ [Blk.mem 2 cs]).length (.sl s.H.length 0 len ti.zero.length) x := by
  obtain ⟨hb, hz⟩ := hb
  have hu := (hT _ _ ht).under
  simp only [UnderOk] at hu
  obtain ⟨i, zv, zz, i1, i2, i3, i4, i5, i6⟩ := zero_rel hT hte ((hT e ti hte).not_tup hz) m.hp s.H.length
  have hr := rep_rel (k := len) (N := len * ti.zero.length) i6 hz (Nat.le_refl _)
  rw [List.take_of_length_le (by rw [repC_len, Array.length_toList, size_madeCells]; exact Nat.le_refl _)] at hr
  obtain ⟨ys, f1, f2⟩ := fill_run (pl' := fun j => some (j * i.size, i.size)) (fun j off sz hz hj => by rw [i2]; exact hj) ps qs _ cs _ hp hr hf
  have hlen := f2.length
  have hlc : cs.length = len * ti.zero.length := by
    have : ∀ (ps : List (Nat × List C)) (c d : List C), fillC (fun i => some (i * ti.zero.length, ti.zero.length)) c ps = some d → d.length = c.length := by
      intro ps
      induction ps with
      | nil => intro c d h; simp only [fillC, Option.some.injEq] at h; rw [h]
      | cons p ps ih =>
        intro c d h
        obtain ⟨i, x⟩ := p
        simp only [fillC] at h
        split at h
        · rename_i hc; rw [ih _ _ h, show (putCells c (i * ti.zero.length) x).length = c.length from put_len _ _ _ (by omega)]
        · cases h
    rw [this ps _ _ hf, repC_len]
  have hA := After.push (w' := w.alloc (.cells ys.toArray e)) (cs := cs) (xs := ys) (t := e) (tot := len * ti.zero.length) h (by omega) (by omega) (by rw [List.take_of_length_le (by omega)]; exact f2) (New.alloc w _)
  refine ⟨.slice (some ⟨w.heap.size, 0, none⟩) len len, _, _, ?_, hA, ⟨by simp, by omega, ⟨w.heap.size, 0, cs.length, len * ti.zero.length⟩, by simp [Nm.heap], len, 0, rfl, .inl rfl, by simp; omega, by simp, Nat.le_refl _⟩⟩
  have hf1 : Instr.fill (fun j => some (j * i.size, i.size)) ((Array.range (len * i.size)).map (zv.cells[· % zv.cells.size]!)) qs = some ys.toArray := by
    rw [← f1, i5, i2]
    rfl
  have hno : ¬ 2 ^ 24 < len * i.size := by rw [i2]; omega
  by_cases hl : len * i.size = 0
  · rw [hl] at hf1
    have e0 : ∀ f : Nat → Value, (Array.range 0).map f = #[] := fun f => by simp
    rw [e0] at hf1
    simp only [Instr.buildSlice, Sem.run_bind, run_underlying hu, Result.andThen_ok, run_sizeOf i1]
    simp [hl, hf1, newRow, e0]
  · simp only [Instr.buildSlice, Sem.run_bind, run_underlying hu, Result.andThen_ok, run_sizeOf i1]
    simp only [hno, hl, if_false, Sem.run_bind, Sem.run_pure, Result.andThen_ok, run_zeroValue i1 i4, hf1]
    simp [newRow]

/-- Cells are stored into a block of the heap. -/
theorem setElt_rel (h : SRel gd B vs m s a w) {id i : Nat} {c : Cp} {cs xs : List C} {zs : List Value} {ys : Array Value} {ty : TypeId} {w' : World} (hb' : s.H[id]? = some (.mem 2 cs)) (hcm : c ∈ m.hp id)
    (hik : i + xs.length ≤ c.p) (hpos : xs.length ≠ 0) (hfl : (xs.all flatC || decide (s.n0 ≤ id)) = true) (hc : All2 (CR m.hp s.H.length) xs zs)
    (q3 : w.heap[c.g]? = some (.cells ys ty (0, 0))) (u : Upd w c.g (.cells (ys.toList.take i ++ zs ++ ys.toList.drop (i + zs.length)).toArray ty (0, 0)) w') (hle' : i + zs.length ≤ ys.toList.length) :
    After gd B vs m s a w (s.H.set id (.mem 2 (putCells cs i xs))) (m.heap id c.g (m.hp id)) w' := by
  have hid : id < s.H.length := (List.getElem?_eq_some_iff.1 hb').1
  have hown := h.heap.own id 2 cs hb' (by omega) c hcm
  obtain ⟨q1, q2, _⟩ := h.heap.cells id 2 cs hb' c hcm
  have hlen : i + xs.length ≤ cs.length := by omega
  have hlx := hc.length
  obtain ⟨g0, hg0⟩ := h.heap.one id cs hb'
  have hc0 := hg0 c hcm (by omega)
  refine ⟨?_, fun m0 w0 hk => hk.chg u.chg (.inl hown) (fun _ _ h => h), Nm.heap_le (fun _ _ h => h), by simp, fun k hk h0 => same_chg u.chg (.inl hown) k hk h0, fun k b hk hb => ?_, ro_set (by simp), u.chg.le⟩
  case refine_2 =>
    have hne : k ≠ id := by rintro rfl; rw [hb'] at hk; injection hk with hk; subst hk; simp [Blk.still] at hb
    exact ⟨by rw [set_get hne]; exact hk, by simp only [Nm.heap]; rw [if_neg hne]⟩
  refine h.turn (id := id) (g := c.g) (kd := 2) (cs := putCells cs i xs) (cps := m.hp id) (H' := s.H.set id (.mem 2 (putCells cs i xs))) u.chg (.inl hown) (fun _ _ h => h) (by simp) (fun k hk hke => ?_) ?_ (by omega) ?_ ?_ ?_
  · refine ⟨by simpa using hk, ?_⟩
    rw [List.getElem?_set, if_neg (Ne.symm hke)]
  · rw [List.getElem?_set, if_pos rfl, if_pos hid]
  · intro c' hc'
    obtain ⟨r1, r2, ys', ty2, fz', r3, r4, r5, r6⟩ := h.heap.cells id 2 cs hb' c' hc'
    have hpl : (putCells cs i xs).length = cs.length := put_len cs xs i hlen
    obtain ⟨r7, r8⟩ := r6 (by omega)
    by_cases e : c'.g = c.g
    · have e2 : ys' = ys := by
        rw [e, q3] at r3
        simp only [Option.some.injEq, Obj.cells.injEq] at r3
        exact r3.1.symm
      subst e2
      refine ⟨by rw [hpl]; exact r1, r2, _, ty, (0, 0), by rw [e]; exact u.at_, ?_, fun j b hj hb2 => ?_, fun _ => ⟨r7, rfl⟩⟩
      · rw [List.size_toArray, put_len _ _ _ hle']
        simpa using r4
      · rw [r7, Nat.zero_add]
        rw [List.getElem?_toArray, put_get _ _ _ _ hle']
        unfold putCells at hb2
        rw [put_get _ _ _ _ hlen] at hb2
        rw [hlx] at hb2
        by_cases j1 : j < i
        · rw [if_pos j1] at hb2 ⊢
          obtain ⟨z, hz, hzr⟩ := r5 j b hj hb2
          rw [r7, Nat.zero_add] at hz
          refine ⟨z, by simpa using hz, ?_⟩
          exact CR.mono (by simp) (fun k _ => by simp only [Nm.heap]; split <;> (intro c h; first | exact h | (rename_i e; subst e; exact h))) hzr
        · by_cases j2 : j < i + zs.length
          · rw [if_neg j1, if_pos j2] at hb2 ⊢
            obtain ⟨z, hz, hzr⟩ := hc.get _ b hb2
            refine ⟨z, hz, ?_⟩
            cases hf : xs.all flatC with
            | true =>
              have : flatC b = true := List.all_eq_true.1 hf b (List.mem_of_getElem? hb2)
              exact hzr.flat this
            | false =>
              rw [hf] at hfl
              have hn0 : s.n0 ≤ id := by simpa using hfl
              refine CR.mono ?_ (fun k _ => by simp only [Nm.heap]; split <;> (intro c h; first | exact h | (rename_i e; subst e; exact h))) hzr
              unfold bnd
              rw [if_neg (by omega)]
              simp
          · rw [if_neg j1, if_neg j2] at hb2 ⊢
            obtain ⟨z, hz, hzr⟩ := r5 j b hj hb2
            rw [r7, Nat.zero_add] at hz
            refine ⟨z, by simpa using hz, ?_⟩
            exact CR.mono (by simp) (fun k _ => by simp only [Nm.heap]; split <;> (intro c h; first | exact h | (rename_i e; subst e; exact h))) hzr
    · have hp0 : c'.p = 0 := Classical.byContradiction fun hne => by
        have := hg0 c' hc' (by omega)
        exact e (this.1.trans hc0.1.symm)
      refine ⟨by omega, r2, ys', ty2, fz', by rw [u.other _ e]; exact r3, r4, fun j b hj => by omega, r6⟩
  · intro _
    refine ⟨g0, fun c' hc' hpos => ?_⟩
    have := hg0 c' hc' hpos
    rw [show (putCells cs i xs).length = cs.length from put_len cs xs i hlen]
    exact this
  · intro c' hc'
    simp only [Nm.heap]
    split
    · rfl
    · exact h.heap.own id 2 cs hb' (by omega) c' hc'

theorem copy_run (hT : TabOk P tab) (h : SRel gd B vs m s a w) {at_ : Array TypeId} {ty t0 e : Nat} {ti : TI} {c c2 : C} {x y : Value} {xs : List C} {H' : Heap} {k : Int}
    (h0 : at_[0]? = some t0) (u0 : P.underlying t0 = some (.slice e)) (ht : tab e = some ti) (hz : ti.zero.length ≠ 0)
    (hx : CR m.hp s.H.length c x) (hy : CR m.hp s.H.length c2 y) (hxs : cellsOfC s.H ti.zero.length c2 = some xs) (ha : copyC s.H s.n0 ti.zero.length c xs pair2 = some (k, H')) :
    ∃ w' m', (Builtin.copy_ at_ ty #[x, y]).run P w = .ok (.int .i64 k) w' ∧ After gd B vs m s a w H' m' w' := by
  obtain ⟨i, zv, zz, i1, i2, i3, i4, i5, i6⟩ := zero_rel hT ht ((hT e ti ht).not_tup hz) m.hp s.H.length
  obtain ⟨b, l, cap2, zs, rfl, e1, e2, e3, e4⟩ := cells_run h hy hxs hz
  have hzl := e2.length
  unfold copyC at ha
  split at ha
  · simp only [pair2, Option.some.injEq, Prod.mk.injEq] at ha
    obtain ⟨rfl, rfl⟩ := ha
    simp only [CR] at hx
    subst hx
    refine ⟨w, m, ?_, After.refl h⟩
    have hfc : (Builtin.firstCells i.size 0 (.slice b l cap2)).run P w = .ok #[] w := by
      cases b <;> simp [Builtin.firstCells, loadCells, loadCellsFrom]
    simp [Builtin.copy_, h0, run_underlying u0, run_sizeOf i1, Builtin.lenOf, hfc, goInt]
  · rename_i id off len sz'
    split at ha
    · rename_i cs hgd
      have hid := getD_get hgd
      split at ha
      · rename_i hcond
        obtain ⟨rfl, hlen, hfl⟩ := hcond
        simp only [pair2, Option.some.injEq, Prod.mk.injEq] at ha
        obtain ⟨rfl, rfl⟩ := ha
        obtain ⟨q1, q0, cp, q2, cap, ad, rfl, q3, q4, q5, q6⟩ := hx
        have hdiv : xs.length / ti.zero.length = l := by rw [e1]; exact Nat.mul_div_cancel _ (by omega)
        rw [hdiv] at *
        have hmin : Nat.min l len = min l len := rfl
        generalize hk : min l len = k at *
        have hkl : k ≤ l := by omega
        have hkn : k ≤ len := by omega
        have hkz : k * ti.zero.length ≤ l * ti.zero.length := Nat.mul_le_mul_right _ hkl
        have hkz2 : k * ti.zero.length ≤ len * ti.zero.length := Nat.mul_le_mul_right _ hkn
        have hone : ∀ z ∈ zs.take (k * ti.zero.length), z.oneCell' = true := by
          intro z hz'
          obtain ⟨j, hj⟩ := List.getElem?_of_mem (List.mem_of_mem_take hz')
          obtain ⟨c, _, hr⟩ := e2.getR j z hj
          exact hr.oneCell
        have hfc : (Builtin.firstCells i.size k (.slice b l cap2)).run P w = .ok (zs.take (k * ti.zero.length)).toArray w := by
          cases b with
          | none =>
            obtain ⟨l0, _⟩ := e3 rfl
            have : k = 0 := by omega
            subst this
            simp [Builtin.firstCells]
          | some ad2 =>
            refine run_firstCells_some (P := P) w i.size k ad2 l cap2 _ (by rw [List.length_take, i2]; omega) fun j v hj => ?_
            rw [List.getElem?_take] at hj
            by_cases hjl : j < k * ti.zero.length
            · rw [if_pos hjl] at hj; exact e4 ad2 rfl j v hj
            · rw [if_neg hjl] at hj; cases hj
        by_cases hk0 : k = 0
        · subst hk0
          refine ⟨w, m, ?_, ?_⟩
          · simp only [Nat.zero_mul, List.take_zero] at hfc
            simp [Builtin.copy_, h0, run_underlying u0, run_sizeOf i1, Builtin.lenOf, hmin, hfc, goInt, storeCells]
          · have e9 : s.H.set id (.mem 2 (putCells cs off (xs.take (0 * ti.zero.length)))) = s.H := by
              have : putCells cs off (xs.take (0 * ti.zero.length)) = cs := by simp [putCells]
              rw [this]
              apply List.ext_getElem?
              intro j
              rw [List.getElem?_set]
              split
              · rename_i e; subst e; first | (rw [if_pos q1, hid]) | exact hid.symm
              · rfl
            rw [e9]
            exact After.refl h
        · have hpos : 0 < k * ti.zero.length := Nat.mul_pos (by omega) (by omega)
          have hadd : ad = cp.base + off := q3.resolve_right (by omega)
          obtain ⟨r1, r2, ys, t, fz, r3, r4, r5, r6⟩ := h.heap.cells id 2 cs hid cp q2
          obtain ⟨r7, r8⟩ := r6 (by omega)
          subst r8
          rw [r7, Nat.zero_add] at hadd
          subst hadd
          have htl : (zs.take (k * ti.zero.length)).length = k * ti.zero.length := by rw [List.length_take]; omega
          have hfit : ad + (zs.take (k * ti.zero.length)).length ≤ ys.toList.length := by rw [htl]; simp; omega
          obtain ⟨w', hst, u⟩ := run_stores P cp.g t (zs.take (k * ti.zero.length)) w ad 0 ys.toList (by simpa using r3) (by simpa using hfit) hone
          simp only [Nat.add_zero] at u
          refine ⟨w', _, ?_, setElt_rel h (xs := xs.take (k * ti.zero.length)) hid q2 (by rw [List.length_take]; omega) (by rw [List.length_take]; omega) ?_ (e2.take _) r3 u hfit⟩
          · simp [Builtin.copy_, h0, run_underlying u0, run_sizeOf i1, Builtin.lenOf, hmin, hfc, goInt, hst]
          · cases hd : decide (s.n0 ≤ id) with
            | true => simp
            | false =>
              rw [hd, Bool.or_false] at hfl
              rw [Bool.or_false, List.all_eq_true]
              intro x hx
              exact List.all_eq_true.1 hfl x (List.mem_of_mem_take hx)
      · cases ha
    · cases ha
  · cases ha
end Go.Ev
end

section
set_option linter.all false
/- Maps of integers and bools. -/
namespace Go.Ev
variable {P : Program} {tab : Nat → Option TI} {gd : Nat → List C} {B : Nat → Nat} {vs : List Nat} {m : Nm} {s s' : St} {a : Act} {w w' : World} {v : V} {rd wr : List Root} {n : Nat}

/-- A map of the heap has new entries, or comes. -/
theorem SRel.turnMap (h : SRel gd B vs m s a w) {id g : Nat} {es : List (Int × Bool)} {cps : List Cp} {H' : Heap} (u : Chg w g w')
    (hg : m.own g = .heap id ∨ (w.heap.size ≤ g ∧ ∀ c ∈ m.hp id, id < s.H.length → m.own c.g = .heap id))
    (hsub : id < s.H.length → ∀ c ∈ m.hp id, c ∈ cps) (hlen : s.H.length ≤ H'.length)
    (hold : ∀ k, k < H'.length → k ≠ id → k < s.H.length ∧ H'[k]? = s.H[k]?) (hid : H'[id]? = some (.map es))
    (hone : ∀ c ∈ cps, c.g = g) (hmap : ∀ c ∈ cps, MapAt w' c.g es ∧ (m.heap id g cps).own c.g = .heap id) :
    SRel gd B vs (m.heap id g cps) { s with H := H' } a w' := by
  have hle := Nm.heap_le (m := m) (id := id) (g := g) (n := s.H.length) (cps := cps) hsub
  have hne : ∀ k, k < w.heap.size → m.own k ≠ .heap id → k ≠ g := fun k hk hb e => by
    subst e
    rcases hg with hg | ⟨hg, _⟩
    · exact hb hg
    · omega
  have hsame : ∀ k, k < w.heap.size → m.own k ≠ .heap id → w'.heap[k]? = w.heap[k]? := fun k hk hb => u.other k hk (hne k hk hb)
  have hown' : ∀ k, k < w.heap.size → m.own k ≠ .heap id → (m.heap id g cps).own k = m.own k := fun k hk hb => by
    simp only [Nm.heap]; rw [if_neg (hne k hk hb)]
  have hbd : ∀ k, bnd B s.n0 s.H.length k ≤ bnd B s.n0 H'.length k := fun k => by unfold bnd; split <;> omega
  have hbl : ∀ k, bnd B s.n0 s.H.length k ≤ s.H.length := fun k => by
    unfold bnd
    split
    · rename_i hk; exact Nat.le_trans (h.B k hk) h.n0
    · exact Nat.le_refl _
  refine ⟨h.fr.mono fun v x hv => hv.mono hlen hle, fun b t' cs' hb hv => ?_, fun j t' cs' hj => ?_, ⟨?_, ?_, ?_, ?_, ?_, ?_⟩, by have := h.n0; show s.n0 ≤ H'.length; omega, h.B, fun k hk => ?_, fun k hk => ?_, h.defers⟩
  · obtain ⟨h1, h2⟩ := h.box b t' cs' hb hv
    have hlt := h.lt _ (show m.own (m.lb b) ≠ .none by rw [h2]; simp)
    have hb' : m.own (m.lb b) ≠ .heap id := by rw [h2]; simp
    exact ⟨h1.mono hlen hle.hp (hsame _ hlt hb'), by rw [show (m.heap id g cps).lb b = m.lb b from rfl, hown' _ hlt hb', h2]⟩
  · obtain ⟨h1, h2⟩ := h.ref j t' cs' hj
    have hlt := h.lt _ (show m.own (m.rf j) ≠ .none by rw [h2]; simp)
    have hb' : m.own (m.rf j) ≠ .heap id := by rw [h2]; simp
    exact ⟨h1.mono hlen hle.hp (hsame _ hlt hb'), by rw [show (m.heap id g cps).rf j = m.rf j from rfl, hown' _ hlt hb', h2]⟩
  · intro k kd' cs' hk c hc
    by_cases e : k = id
    · subst e
      rw [hid] at hk
      cases hk
    · have hlk : k < H'.length := (List.getElem?_eq_some_iff.1 hk).1
      obtain ⟨hl, hs⟩ := hold k hlk e
      rw [hs] at hk
      have hc' : c ∈ m.hp k := by simpa [Nm.heap, e] using hc
      have h1 := h.heap.cells k kd' cs' hk c hc'
      have h2 := h1
      obtain ⟨_, _, xs, t, fz, hx, _⟩ := h2
      refine h1.mono (hbd k) (fun i hi => hle.hp i (Nat.lt_of_lt_of_le hi (hbl k))) (hsame _ (lt_of_get hx) ?_)
      by_cases k0 : kd' = 0
      · subst k0; rw [h.heap.ro k cs' hk c hc']; simp
      · rw [h.heap.own k kd' cs' hk k0 c hc']; simpa using e
  · intro k cs' hk
    by_cases e : k = id
    · subst e
      rw [hid] at hk
      cases hk
    · have hlk : k < H'.length := (List.getElem?_eq_some_iff.1 hk).1
      obtain ⟨hl, hs⟩ := hold k hlk e
      rw [hs] at hk
      simpa [Nm.heap, e] using h.heap.one k cs' hk
  · intro k kd' cs' hk k0 c hc
    by_cases e : k = id
    · subst e
      rw [hid] at hk
      cases hk
    · have hlk : k < H'.length := (List.getElem?_eq_some_iff.1 hk).1
      obtain ⟨hl, hs⟩ := hold k hlk e
      rw [hs] at hk
      have hc' : c ∈ m.hp k := by simpa [Nm.heap, e] using hc
      obtain ⟨_, _, xs, t, fz, hx, _⟩ := h.heap.cells k kd' cs' hk c hc'
      have h3 := h.heap.own k kd' cs' hk k0 c hc'
      rw [hown' _ (lt_of_get hx) (by rw [h3]; simpa using e), h3]
  · intro k cs' hk c hc
    by_cases e : k = id
    · subst e
      rw [hid] at hk
      cases hk
    · have hlk : k < H'.length := (List.getElem?_eq_some_iff.1 hk).1
      obtain ⟨hl, hs⟩ := hold k hlk e
      rw [hs] at hk
      have hc' : c ∈ m.hp k := by simpa [Nm.heap, e] using hc
      obtain ⟨_, _, xs, t, fz, hx, _⟩ := h.heap.cells k 0 cs' hk c hc'
      have h3 := h.heap.ro k cs' hk c hc'
      rw [hown' _ (lt_of_get hx) (by rw [h3]; simp), h3]
  · intro k es hk c hc
    by_cases e : k = id
    · subst e
      rw [hid] at hk
      simp only [Option.some.injEq, Blk.map.injEq] at hk
      subst hk
      exact hmap c (by simpa [Nm.heap] using hc)
    have hlk : k < H'.length := (List.getElem?_eq_some_iff.1 hk).1
    obtain ⟨hl, hs⟩ := hold k hlk e
    rw [hs] at hk
    have hc' : c ∈ m.hp k := by simpa [Nm.heap, e] using hc
    obtain ⟨h1, h3⟩ := h.heap.map k es hk c hc'
    have h2 := h1
    obtain ⟨ms, clock, hx, _⟩ := h2
    have hb' : m.own c.g ≠ .heap id := by rw [h3]; simpa using e
    exact ⟨h1.mono (hsame _ (lt_of_get hx) hb'), by rw [hown' _ (lt_of_get hx) hb', h3]⟩
  · intro k es' hk
    by_cases e : k = id
    · subst e
      exact ⟨g, fun c hc => hone c (by simpa [Nm.heap] using hc)⟩
    have hlk : k < H'.length := (List.getElem?_eq_some_iff.1 hk).1
    obtain ⟨hl, hs⟩ := hold k hlk e
    rw [hs] at hk
    obtain ⟨g1, h1⟩ := h.heap.mone k es' hk
    exact ⟨g1, fun c hc => h1 c (by simpa [Nm.heap, e] using hc)⟩
  · simp only [Nm.heap] at hk
    by_cases e : k = g
    · subst e; exact u.lt
    · rw [if_neg e] at hk
      exact Nat.lt_of_lt_of_le (h.lt k hk) u.le
  · obtain ⟨h1, h2⟩ := h.glob k hk
    have h3 := h1
    obtain ⟨ys, t', fz, h4, _⟩ := h3
    have hb' : m.own k ≠ .heap id := by rw [h2]; simp
    exact ⟨h1.mono (hsame _ (lt_of_get h4) hb'), by rw [hown' _ (lt_of_get h4) hb', h2]⟩


theorem findNow_run (kk : IntKind) (k : Int) : ∀ (ms : List MapEntry) (es : List (Int × Bool)) (i : Nat), ms.map (fun e => (e.key, e.val)) = es.map (fun e => (Value.int .i64 e.1, Value.bool e.2)) →
    (findM es k = false ∧ Instr.findNow (.int kk) (.int .i64 k) ms i = some none) ∨ ∃ j, Instr.findNow (.int kk) (.int .i64 k) ms i = some (some (i + j, .bool (findM es k))) ∧ (ms[j]?).map (·.key) = some (.int .i64 k)
  | [], es, i, h => by
    cases es with
    | nil => exact .inl ⟨rfl, rfl⟩
    | cons e es => simp at h
  | e :: ms, es, i, h => by
    cases es with
    | nil => simp at h
    | cons f es =>
      obtain ⟨fk, fb⟩ := f
      simp only [List.map_cons, List.cons.injEq, Prod.mk.injEq] at h
      obtain ⟨⟨h1, h2⟩, h3⟩ := h
      simp only [Instr.findNow, h1, Instr.sameNow, if_true, findM]
      cases hb : (k == fk) with
      | true =>
        have : k = fk := by simpa using hb
        subst this
        exact .inr ⟨0, by simp [h2], by simp [h1]⟩
      | false =>
        rcases findNow_run kk k ms es (i + 1) h3 with ⟨g1, g2⟩ | ⟨j, g1, g2⟩
        · exact .inl ⟨by simp [g1], by simp [g2]⟩
        · exact .inr ⟨j + 1, by simp [g1]; omega, by simpa using g2⟩

theorem ins_run (kk : IntKind) (k : Int) (b : Bool) (clock : Nat) : ∀ (ms : List MapEntry) (es : List (Int × Bool)) (i : Nat), ms.map (fun e => (e.key, e.val)) = es.map (fun e => (Value.int .i64 e.1, Value.bool e.2)) →
    (Instr.findNow (.int kk) (.int .i64 k) ms i = some none ∧ (ms ++ [({ key := .int .i64 k, val := .bool b, born := clock } : MapEntry)]).map (fun e => (e.key, e.val)) = (insM es k b).map (fun e => (Value.int .i64 e.1, Value.bool e.2))) ∨
    ∃ j v, Instr.findNow (.int kk) (.int .i64 k) ms i = some (some (i + j, v)) ∧ (ms[j]?).map (·.key) = some (.int .i64 k) ∧
      (ms.modify j fun e : MapEntry => { e with key := .int .i64 k, val := .bool b }).map (fun e => (e.key, e.val)) = (insM es k b).map (fun e => (Value.int .i64 e.1, Value.bool e.2))
  | [], es, i, h => by
    cases es with
    | nil => exact .inl ⟨rfl, rfl⟩
    | cons e es => simp at h
  | e :: ms, es, i, h => by
    cases es with
    | nil => simp at h
    | cons f es =>
      obtain ⟨fk, fb⟩ := f
      simp only [List.map_cons, List.cons.injEq, Prod.mk.injEq] at h
      obtain ⟨⟨h1, h2⟩, h3⟩ := h
      simp only [Instr.findNow, h1, Instr.sameNow, if_true, insM]
      cases hb : (k == fk) with
      | true =>
        have : k = fk := by simpa using hb
        subst this
        exact .inr ⟨0, e.val, by simp, by simp [h1], by simp [h3]⟩
      | false =>
        rcases ins_run kk k b clock ms es (i + 1) h3 with ⟨g1, g2⟩ | ⟨j, v, g1, g2, g3⟩
        · exact .inl ⟨by simp [g1], by simpa [h1, h2] using g2⟩
        · exact .inr ⟨j + 1, v, by simp [g1]; omega, by simpa using g2, by simpa [h1, h2] using g3⟩

theorem mapT_under (hT : TabOk P tab) {t : Nat} (h : mapT tab t = true) : ∃ k e i, P.underlying t = some (.map k e) ∧ P.underlying k = some (.int .i64) ∧ P.info? e = some i ∧ i.zero = some (.bool false) := by
  unfold mapT at h
  split at h
  · rename_i k e z b sh q ht
    split at h
    · rename_i z1 b1 s1 q1 b2 s2 q2 hk he
      have u0 := (hT _ _ ht).under
      have u1 := (hT _ _ hk).under
      simp only [UnderOk] at u0 u1
      obtain ⟨i, zv, zz, i1, i2, i3, i4, i5, i6⟩ := (hT _ _ he).info (by simp)
      refine ⟨k, e, i, u0, u1, i1, ?_⟩
      have h1 := (hT _ _ he).one rfl (by simp) i zv i1 i4
      cases i6 with
      | cons r1 r2 =>
        cases r2
        simp only [CR] at r1
        subst r1
        rw [i4]
        cases zv <;> first | (cases h1; done) | (simp [Value.cells] at i5; done) | (simp [Value.cells] at i5; simp [i5])
    · cases h
  · cases h

theorem check_run {kt : Nat} {kk : IntKind} {k : Int} (u1 : P.underlying kt = some (.int kk)) (n : Nat) (b : Bool) : (Instr.checkKey b (n + 1) kt (.int .i64 k)).run P w = .ok () w := by
  rw [Instr.checkKey]
  simp [run_underlying u1]

theorem lookup_run (hT : TabOk P tab) (h : SRel gd B vs m s a w) {t id : Nat} {k : Int} {x : Value} {es : List (Int × Bool)} (ht : mapT tab t = true) (hx : CR m.hp s.H.length (.mp id) x) (he : s.H[id]? = some (.map es)) :
    (Instr.lookup t x (.int .i64 k) false).run P w = .ok (.bool (findM es k)) w := by
  obtain ⟨kt, et, i, u0, u1, i1, i2⟩ := mapT_under hT ht
  obtain ⟨h1, c, h2, rfl⟩ := hx
  obtain ⟨⟨ms, clock, g1, g2⟩, g3⟩ := h.heap.map id es he c h2
  have hg : (getObj c.g).run P w = .ok (.map ms.toArray clock) w := by simp only [getObj, Sem.run, g1]
  have hck : ∀ b, (Instr.checkKey b 10000 kt (.int .i64 k)).run P w = .ok () w := by
    exact check_run u1 9999
  rcases findNow_run .i64 k ms es 0 g2 with ⟨f1, f2⟩ | ⟨j, f1, f2⟩
  · simp [Instr.lookup, run_underlying u0, run_underlying u1, hg, hck, Instr.findKey, f2, run_zeroValue i1 i2, f1]
  · simp [Instr.lookup, run_underlying u0, run_underlying u1, hg, hck, Instr.findKey, f1]
theorem modify_toArray (ms : List MapEntry) (i : Nat) (f : MapEntry → MapEntry) : ms.toArray.modify i f = (ms.modify i f).toArray := by
  apply Array.ext_getElem?
  intro j
  simp [List.getElem?_modify]

theorem update_run (hT : TabOk P tab) (h : SRel gd B vs m s a w) {t id : Nat} {k : Int} {b : Bool} {x : Value} {es : List (Int × Bool)} (ht : mapT tab t = true) (hx : CR m.hp s.H.length (.mp id) x) (he : s.H[id]? = some (.map es)) :
    ∃ w' m', (Instr.mapUpdate t x (.int .i64 k) (.bool b)).run P w = .ok () w' ∧ After gd B vs m s a w (s.H.set id (.map (insM es k b))) m' w' := by
  obtain ⟨kt, et, i, u0, u1, i1, i2⟩ := mapT_under hT ht
  obtain ⟨h1, c, h2, rfl⟩ := hx
  obtain ⟨⟨ms, clock, g1, g2⟩, g3⟩ := h.heap.map id es he c h2
  have hg : (getObj c.g).run P w = .ok (.map ms.toArray clock) w := by simp only [getObj, Sem.run, g1]
  have hck : ∀ b, (Instr.checkKey b 10000 kt (.int .i64 k)).run P w = .ok () w := by
    exact check_run u1 9999
  obtain ⟨g0, hg0⟩ := h.heap.mone id es he
  have hone : ∀ c' ∈ m.hp id, c'.g = c.g := fun c' hc' => (hg0 c' hc').trans (hg0 c h2).symm
  have key : ∀ (ms' : List MapEntry) (cl : Nat) (w' : World), Upd w c.g (.map ms'.toArray cl) w' → ms'.map (fun e => (e.key, e.val)) = (insM es k b).map (fun e => (Value.int .i64 e.1, Value.bool e.2)) →
      After gd B vs m s a w (s.H.set id (.map (insM es k b))) (m.heap id c.g (m.hp id)) w' := by
    intro ms' cl w' u hm
    refine ⟨?_, fun m0 w0 hk => hk.chg u.chg (.inl g3) (fun _ _ h => h), Nm.heap_le (fun _ _ h => h), by simp, fun k hk h0 => same_chg u.chg (.inl g3) k hk h0, fun k b hk hb => ?_, ro_set (by simp), u.chg.le⟩
    · refine h.turnMap (id := id) (es := insM es k b) u.chg (.inl g3) (fun _ _ h => h) (by simp) (fun k hk hke => ⟨by simpa using hk, set_get hke⟩) (by rw [List.getElem?_set, if_pos rfl, if_pos h1]) hone fun c' hc' => ?_
      have e := hone c' hc'
      rw [e]
      exact ⟨⟨ms', cl, u.at_, hm⟩, by simp [Nm.heap]⟩
    · have hne : k ≠ id := by rintro rfl; rw [he] at hk; injection hk with hk; subst hk; simp [Blk.still] at hb
      exact ⟨by rw [set_get hne]; exact hk, by simp only [Nm.heap]; rw [if_neg hne]⟩
  have upd : ∀ o, ∃ w', (setObj c.g o).run P w = .ok () w' ∧ Upd w c.g o w' := by
    intro o
    have hlt := lt_of_get g1
    refine ⟨{ w with heap := w.heap.setIfInBounds c.g o }, ?_, ?_⟩
    · simp only [setObj, Sem.run, g1]
    · exact ⟨by simp [hlt], fun k hk => by simp [Array.getElem?_setIfInBounds, Ne.symm hk], by simp, rfl, rfl, rfl⟩
  rcases ins_run .i64 k b clock ms es 0 g2 with ⟨f1, f2⟩ | ⟨j, v, f1, f2, f3⟩
  · obtain ⟨w', p1, p2⟩ := upd (.map (ms ++ [({ key := .int .i64 k, val := .bool b, born := clock } : MapEntry)]).toArray (clock + 1))
    refine ⟨w', _, ?_, key _ _ w' p2 f2⟩
    simp [Instr.mapUpdate, run_underlying u0, run_underlying u1, hg, hck, Instr.findKey, f1]
    simpa using p1
  · obtain ⟨w', p1, p2⟩ := upd (.map (ms.modify j fun e : MapEntry => { e with key := .int .i64 k, val := .bool b }).toArray clock)
    refine ⟨w', _, ?_, key _ _ w' p2 f3⟩
    rw [Nat.zero_add] at f1
    have hks : (Instr.keyThatStays (((ms.toArray[j]?).map (·.key)).getD (.int .i64 k)) (.int .i64 k)).run P w = .ok (.int .i64 k) w := by
      have : ((ms.toArray[j]?).map (·.key)) = some (.int .i64 k) := by simpa using f2
      rw [this]
      simp [Instr.keyThatStays, Instr.sameBits]
    simp only [Instr.mapUpdate, Sem.run_bind, run_underlying u0, Result.andThen_ok, hg, hck, Instr.findKey, run_underlying u1, f1, Sem.run_pure, hks]
    rw [modify_toArray]
    exact p1
end Go.Ev
end

/- The framework: plain data for what the program does in memory; texts put together by merge.py (part 1 of 4). -/
import Derived.Calls
import Derived.Orders
import Derived.Laws.AppendOwn
import Derived.Laws.OwnMore
import Derived.Laws.MakeOwn
import Derived.Laws.Slices
import Derived.Laws.StructEq
import Derived.Laws.BytesArg
import Derived.ArgAppend
import Derived.Lib.ConvBytes
import Derived.Lib.Strings
set_option linter.unusedSimpArgs false
set_option linter.unusedVariables false
/- The framework, part 1: plain data, operations on them, effects, and what one operation of the translated program does to an abstract state. Definitions alone; no program in sight. -/
namespace Go.Fw

/-- The types of slots: one cell each, but for arrays. -/
inductive Ty where
  | int (k : IntKind)
  | bool
  | str
  | sl (e : Nat)
  | slc (e : Nat)
  | arr (n e : Nat)
  | fn
  deriving DecidableEq, Inhabited

/-- Plain data. -/
inductive D where
  | int (n : Int)
  | bool (b : Bool)
  | str (s : List UInt8)
  | rows (l : List (List D))
  | fn (f : Nat) (tys : List Ty) (caps : List D)
  | nofn
  deriving Inhabited

def D.toInt : D → Int
  | .int n => n
  | _ => 0
def D.toBool : D → Bool
  | .bool b => b
  | _ => false
def D.toStr : D → List UInt8
  | .str s => s
  | _ => []
def D.toRows : D → List (List D)
  | .rows l => l
  | _ => []
def D.row1 (d : D) : List D := d.toRows.headD []
mutual
def D.beq : D → D → Bool
  | .int a, .int b => a == b
  | .bool a, .bool b => a == b
  | .str a, .str b => a == b
  | .rows a, .rows b => beqRows a b
  | _, _ => false
def beqRow : List D → List D → Bool
  | [], [] => true
  | a :: x, b :: y => D.beq a b && beqRow x y
  | _, _ => false
def beqRows : List (List D) → List (List D) → Bool
  | [], [] => true
  | a :: x, b :: y => beqRow a b && beqRows x y
  | _, _ => false
end

/-- Literals. -/
inductive Lt where
  | int (n : Int)
  | bool (b : Bool)
  | str (s : List UInt8)
  | nil
  | fn (f : Nat)
  | nofn
  deriving DecidableEq, Inhabited
def Lt.den : Lt → D
  | .int n => .int n
  | .bool b => .bool b
  | .str s => .str s
  | .nil => .rows []
  | .fn f => .fn f [] []
  | .nofn => .nofn

inductive F1 where
  | neg (k : IntKind) | cpl (k : IntKind) | not | conv (k : IntKind) | slen | llen | strOf | bytesOf | cell (j : Nat) | one
  deriving DecidableEq, Inhabited
inductive F2 where
  | add (k : IntKind) | sub (k : IntKind) | mul (k : IntKind) | and (k : IntKind) | or (k : IntKind) | xor (k : IntKind) | andn (k : IntKind)
  | quo (k : IntKind) | rem | shl (k : IntKind) | shr (k : IntKind)
  | ieq | ine | ilt | ile | igt | ige | beq | bne | seq | sne | slt | sle | sgt | sge
  | cat | sidx | min | max | app | row | addc | rep | deq | dne | cap (t : Ty)
  deriving DecidableEq, Inhabited
inductive F3 where
  | ssub | lsub | lset
  deriving DecidableEq, Inhabited

def F1.den : F1 → D → D
  | .neg k, d => .int (k.wrap (0 - d.toInt))
  | .cpl k, d => .int (bits .xor k (if k.signed then -1 else k.max) d.toInt)
  | .not, d => .bool (!d.toBool)
  | .conv k, d => .int (k.wrap d.toInt)
  | .slen, d => .int d.toStr.length
  | .llen, d => .int d.toRows.length
  | .strOf, d => .str (d.toRows.map fun r => UInt8.ofNat (r.headD default).toInt.toNat)
  | .bytesOf, d => .rows (d.toStr.map fun b => [.int b.toNat])
  | .cell j, d => d.row1.getD j default
  | .one, d => .rows [[d]]
def F2.den : F2 → D → D → D
  | .add k, a, b => .int (k.wrap (a.toInt + b.toInt))
  | .sub k, a, b => .int (k.wrap (a.toInt - b.toInt))
  | .mul k, a, b => .int (k.wrap (a.toInt * b.toInt))
  | .and k, a, b => .int (bits .and k a.toInt b.toInt)
  | .or k, a, b => .int (bits .or k a.toInt b.toInt)
  | .xor k, a, b => .int (bits .xor k a.toInt b.toInt)
  | .andn k, a, b => .int (bits .andNot k a.toInt b.toInt)
  | .quo k, a, b => .int (k.wrap (a.toInt.tdiv b.toInt))
  | .rem, a, b => .int (a.toInt.tmod b.toInt)
  | .shl k, a, b => .int (k.wrap (a.toInt * 2 ^ (Nat.min b.toInt.toNat k.bits)))
  | .shr k, a, b => .int (a.toInt.fdiv (2 ^ (Nat.min b.toInt.toNat k.bits)))
  | .ieq, a, b => .bool (a.toInt == b.toInt)
  | .ine, a, b => .bool (a.toInt != b.toInt)
  | .ilt, a, b => .bool (a.toInt < b.toInt)
  | .ile, a, b => .bool (a.toInt ≤ b.toInt)
  | .igt, a, b => .bool (a.toInt > b.toInt)
  | .ige, a, b => .bool (a.toInt ≥ b.toInt)
  | .beq, a, b => .bool (a.toBool == b.toBool)
  | .bne, a, b => .bool (!(a.toBool == b.toBool))
  | .seq, a, b => .bool (a.toStr == b.toStr)
  | .sne, a, b => .bool (!(a.toStr == b.toStr))
  | .slt, a, b => .bool (Op.bytesLess a.toStr b.toStr)
  | .sle, a, b => .bool (Op.bytesLess a.toStr b.toStr || a.toStr == b.toStr)
  | .sgt, a, b => .bool (!(Op.bytesLess a.toStr b.toStr || a.toStr == b.toStr))
  | .sge, a, b => .bool (!(Op.bytesLess a.toStr b.toStr))
  | .cat, a, b => .str (a.toStr ++ b.toStr)
  | .sidx, a, b => .int ((a.toStr.getD b.toInt.toNat 0).toNat : Int)
  | .min, a, b => .int (if b.toInt < a.toInt then b.toInt else a.toInt)
  | .max, a, b => .int (if b.toInt > a.toInt then b.toInt else a.toInt)
  | .app, a, b => .rows (a.toRows ++ b.toRows)
  | .row, a, b => .rows [a.toRows.getD b.toInt.toNat []]
  | .addc, a, b => .rows [a.row1 ++ [b]]
  | .rep, a, b => .rows (List.replicate a.toInt.toNat b.row1)
  | .deq, a, b => .bool (a.beq b)
  | .dne, a, b => .bool (!(a.beq b))
  | .cap t, a, b => match a with
    | .fn f tys caps => .fn f (tys ++ [t]) (caps ++ [b])
    | d => d
def F3.den : F3 → D → D → D → D
  | .ssub, s, l, h => .str ((s.toStr.take h.toInt.toNat).drop l.toInt.toNat)
  | .lsub, s, l, h => .rows ((s.toRows.take h.toInt.toNat).drop l.toInt.toNat)
  | .lset, s, i, r => .rows (s.toRows.set i.toInt.toNat r.row1)

/-- What data, or what expressions over data, can do. -/
class Alg (X : Type) where
  lit : Lt → X
  f1 : F1 → X → X
  f2 : F2 → X → X → X
  f3 : F3 → X → X → X → X
instance : Alg D := ⟨Lt.den, F1.den, F2.den, F3.den⟩
open Alg

/-- Names of what the call has made: the region's stamp, the operation, a count. -/
abbrev Name := Nat × Nat × Nat
inductive Cell (X : Type) where
  | d (t : Ty) (x : X)
  | own (n : Name) (g : Nat)
  deriving DecidableEq, Inhabited
/-- What a temporary holds. -/
inductive SV (X : Type) where
  | c (x : Cell X)
  | agg (xs : List (Cell X))
  | ref (b : Name) (off : Nat)
  | refi (b : Name) (off n e : Nat) (i : X) (j : Nat)
  | ro (r : X) (e off : Nat)
  | oel (n : Name) (g : Nat) (i : X) (off : Nat)
  | nils
  | nilp
  | clo (f : Nat) (caps : List (Cell X ⊕ Name))
  | dead
  deriving DecidableEq, Inhabited
inductive TV (X : Type) where
  | one (v : SV X)
  | tup (vs : List (SV X))
  deriving DecidableEq, Inhabited
inductive Stt where
  | live | frozen | gone
  deriving DecidableEq, Inhabited
inductive Obj (X : Type) where
  | box (t : Nat) (cs : List (Cell X))
  | tok (e : Nat) (rows : X) (g : Nat) (st : Stt)
  | bld (s : X)
  deriving DecidableEq, Inhabited

/-! ### signatures -/
inductive PK where
  | val (agg : Bool) (cs : List (Ty × Bool))
  | box (t : Nat) (cs : List (Ty × Bool))
  deriving DecidableEq, Inhabited
inductive RK where
  | val (agg : Bool) (cs : List (Ty × Bool))
  | newbox (t : Nat) (cs : List (Ty × Bool))
  deriving DecidableEq, Inhabited
structure Sig where
  params : List PK
  results : List RK
  deriving DecidableEq, Inhabited
def Ty.scalar : Ty → Bool
  | .int _ | .bool | .str => true
  | _ => false
/-- Nothing that comes back leads to memory. -/
def Sig.scalar (s : Sig) : Bool :=
  s.results.all (fun | .val _ cs => cs.all (fun c => c.1.scalar && !c.2) | .newbox .. => false) && s.params.all (fun | .val _ cs => cs.all (fun c => !c.2) | .box _ cs => cs.all (fun c => c.1.scalar && !c.2))
def Sig.outs (s : Sig) : Nat :=
  (s.results.map fun | .val _ cs => cs.length | .newbox _ cs => cs.length).sum + (s.params.map fun | .val .. => 0 | .box _ cs => cs.length).sum

/-! ### effects -/
inductive Eff (X A : Type) where
  | pure (a : A)
  | fail
  | guard (c : X) (k : Eff X A)
  | ite (c : X) (a b : Eff X A)
  | get (n : Name) (k : Option (Obj X) → Eff X A)
  | call (f : Nat) (args : List X) (n : Nat) (k : List X → Eff X A)
  | callv (s : Sig) (f : X) (args : List X) (n : Nat) (k : List X → Eff X A)
def Eff.bind {X A B : Type} : Eff X A → (A → Eff X B) → Eff X B
  | .pure a, f => f a
  | .fail, _ => .fail
  | .guard c k, f => .guard c (k.bind f)
  | .ite c a b, f => .ite c (a.bind f) (b.bind f)
  | .get n k, f => .get n fun o => (k o).bind f
  | .call g xs n k, f => .call g xs n fun ys => (k ys).bind f
  | .callv s g xs n k, f => .callv s g xs n fun ys => (k ys).bind f
instance {X : Type} : Monad (Eff X) where
  pure := Eff.pure
  bind := Eff.bind
def liftO {X A : Type} : Option A → Eff X A
  | some a => .pure a
  | none => .fail
def req {X : Type} (b : Bool) : Eff X Unit := if b then .pure () else .fail
def guardE {X : Type} (c : X) : Eff X Unit := .guard c (.pure ())
def getE {X : Type} (n : Name) : Eff X (Option (Obj X)) := .get n .pure

/-! ### the tables that are read -/
structure Cx where
  P : Program
  tab : Nat → Option (List Ty)
  sig : Nat → Option Sig
def Cx.isAgg (C : Cx) (t : Nat) : Bool := match C.P.underlying t with
  | some (.struct _) | some (.array _ _) => true
  | _ => false
def Ty.size (C : Cx) : Ty → Nat
  | .arr n e => n * C.P.cellsOf e
  | _ => 1
def sizes (C : Cx) (ts : List Ty) : Nat := (ts.map (Ty.size C)).sum
/-- The slot that begins at a cell's offset. -/
def slotAt (C : Cx) : List Ty → Nat → Option Nat
  | _, 0 => some 0
  | [], _ => none
  | t :: ts, off => if t.size C ≤ off then (slotAt C ts (off - t.size C)).map (· + 1) else none
def offOf (C : Cx) (ts : List Ty) (k : Nat) : Nat := sizes C (ts.take k)

section
variable {X : Type} [Alg X]
def ilit (n : Int) : X := lit (.int n)
/-- A row out of its cells. -/
def mkRow : List X → X
  | [] => f2 .rep (ilit 1) (lit .nil)
  | x :: xs => xs.foldl (fun r y => f2 .addc r y) (f1 .one x)
def rowCells (r : X) (n : Nat) : List X := (List.range n).map fun j => f1 (.cell j) r
def setRow (r : X) (n k : Nat) (xs : List X) : X := mkRow ((rowCells r n).take k ++ xs ++ (rowCells r n).drop (k + xs.length))
/-- The zero of a slot. -/
def zeroX (C : Cx) : Nat → Ty → Option X
  | _, .int _ => some (ilit 0)
  | _, .bool => some (lit (.bool false))
  | _, .str => some (lit (.str []))
  | _, .sl _ | _, .slc _ => some (lit .nil)
  | _, .fn => some (lit .nofn)
  | 0, .arr _ _ => none
  | k + 1, .arr n e => do
    let ts ← C.tab e
    let zs ← ts.mapM (zeroX C k)
    pure (f2 .rep (ilit n) (mkRow zs))

abbrev Upd (X : Type) := List (Name × Obj X)
/-- Data out of a cell: its type, the data, and what becomes of a token that is handed on. -/
def cellData (keep : Bool) : Cell X → Eff X (Ty × X × Upd X)
  | .d t x => .pure (t, x, [])
  | .own n g => .get n fun
    | some (.tok e rows g' st) => if g == g' then (match st with
      | .live => .pure (.sl e, rows, if keep then [] else [(n, .tok e rows g .frozen)])
      | .frozen => .pure (.sl e, rows, [])
      | .gone => .fail) else .fail
    | _ => .fail
def fits (t u : Ty) : Bool := t == u || (match t, u with | .slc e, .sl e' => e == e' | _, _ => false)
def cellAs (keep : Bool) (t : Ty) (c : Cell X) : Eff X (X × Upd X) := do
  let (u, x, upd) ← cellData keep c
  req (fits u t)
  pure (x, upd)
def cellsAs (keep : Bool) : List Ty → List (Cell X) → Eff X (List X × Upd X)
  | [], [] => .pure ([], [])
  | t :: ts, c :: cs => do
    let (x, u) ← cellAs keep t c
    let (xs, us) ← cellsAs keep ts cs
    pure (x :: xs, u ++ us)
  | _, _ => .fail
/-- A cell to be held in memory: types are held against the slot's. -/
def slotOk (t : Ty) : Cell X → Eff X (Cell X)
  | .d u x => if fits u t then .pure (.d t x) else .fail
  | .own n g => .get n fun
    | some (.tok e _ g' st) => if g == g' && t == .sl e && st != .gone then .pure (.own n g) else .fail
    | _ => .fail
def slotsOk : List Ty → List (Cell X) → Eff X (List (Cell X))
  | [], [] => .pure []
  | t :: ts, c :: cs => do
    let x ← slotOk t c
    let xs ← slotsOk ts cs
    pure (x :: xs)
  | _, _ => .fail
def cloX : List (Cell X ⊕ Name) → X → Eff X X
  | [], x => .pure x
  | .inl (.d t y) :: l, x => cloX l (f2 (.cap t) x y)
  | _, _ => .fail
/-- The cells of a value that is stored into slots of these types; a nil slice becomes a row of the call's own. -/
def cellsOfV (nm : Nat → Name) (ts : List Ty) : SV X → Eff X (List (Cell X) × Upd X)
  | .c x => do pure (← slotsOk ts [x], [])
  | .agg xs => do pure (← slotsOk ts xs, [])
  | .nils => match ts with
    | [.sl e] => .pure ([.own (nm 0) 0], [(nm 0, .tok e (lit .nil) 0 .live)])
    | _ => .fail
  | .clo f caps => match ts with
    | [.fn] => do
      let x ← cloX caps (lit (.fn f))
      pure ([.d .fn x], [])
    | _ => .fail
  | _ => .fail
/-- The data of a value that is handed on for good, or only lent. -/
def dataOfV (keep : Bool) (ts : List Ty) : SV X → Eff X (List X × Upd X)
  | .c x => cellsAs keep ts [x]
  | .agg xs => cellsAs keep ts xs
  | .nils => match ts with
    | [.sl _] => .pure ([lit .nil], [])
    | _ => .fail
  | .clo f caps => match ts with
    | [.fn] => do
      let x ← cloX caps (lit (.fn f))
      pure ([x], [])
    | _ => .fail
  | _ => .fail
def valOf (C : Cx) (t : Nat) (cs : List (Cell X)) : Option (SV X) :=
  if C.isAgg t then some (.agg cs) else match cs with
    | [c] => some (.c c)
    | _ => none
def dCells (ts : List Ty) (xs : List X) : List (Cell X) := (ts.zip xs).map fun (t, x) => .d t x
/-- Zero cells of a variable: each slice in it is a (nil) row of the call's own. -/
def zeroCells (C : Cx) (nm : Nat → Name) : Nat → List Ty → Option (List (Cell X) × Upd X)
  | _, [] => some ([], [])
  | k, .sl e :: ts => do
    let _ ← C.tab e
    let (cs, u) ← zeroCells C nm (k + 1) ts
    pure (.own (nm k) 0 :: cs, (nm k, .tok e (lit .nil) 0 .live) :: u)
  | k, t :: ts => do
    let x ← zeroX C 4 t
    let (cs, u) ← zeroCells C nm (k + 1) ts
    pure (.d t x :: cs, u)
/-- The rows of a slice, read. -/
def rowsOf (v : SV X) : Eff X (Nat × X) :=
  match v with
  | .c c => do
    let (t, x, _) ← cellData true c
    match t with
    | .sl e | .slc e => pure (e, x)
    | _ => .fail
  | _ => .fail
def intOf : SV X → Option (IntKind × X)
  | .c (.d (.int k) x) => some (k, x)
  | _ => none
/-- A bound that may be missing. -/
def optI (d : X) : Option (SV X) → Option X
  | none => some d
  | some v => (intOf v).map (·.2)
def boolOf : SV X → Option X
  | .c (.d .bool x) => some x
  | _ => none
def strOf : SV X → Option X
  | .c (.d .str x) => some x
  | _ => none
def vI (k : IntKind) (x : X) : SV X := .c (.d (.int k) x)
def vB (x : X) : SV X := .c (.d .bool x)
def vS (x : X) : SV X := .c (.d .str x)
def inBounds (i n : X) : Eff X Unit := do
  guardE (f2 .ile (ilit 0) i)
  guardE (f2 .ilt i n)
def tv1 (v : SV X) : TV X := .one v
def one? : TV X → Option (SV X)
  | .one .dead => none
  | .one v => some v
  | .tup _ => none

abbrev Res (X : Type) := TV X × Upd X
def ret1 (v : SV X) : Eff X (Res X) := .pure (.one v, [])

/-! ### the operations -/
def constV : Value → Option (SV X)
  | .int k n => some (vI k (ilit n))
  | .bool b => some (vB (lit (.bool b)))
  | .string s => some (vS (lit (.str s.data.toList)))
  | .slice none 0 0 => some .nils
  | .nilFunc => some (.c (.d .fn (lit .nofn)))
  | .pointer none => some .nilp
  | _ => none
def rdOpd (tmps : List (TV X)) : Operand → Option (TV X)
  | .tmp t => tmps[t]?
  | .const v => (constV v).map .one
  | .func f => some (.one (.clo f []))
  | .global _ => none

def loadV (C : Cx) (t : Nat) : SV X → Eff X (Res X)
  | .ref b off => do
    let some (.box T cs) ← getE b | .fail
    let TS ← liftO (C.tab T)
    let ts ← liftO (C.tab t)
    let k ← liftO (slotAt C TS off)
    req ((TS.drop k).take ts.length == ts && decide (k + ts.length ≤ TS.length))
    ret1 (← liftO (valOf C t ((cs.drop k).take ts.length)))
  | .refi b off n e i j => do
    let some (.box T cs) ← getE b | .fail
    let TS ← liftO (C.tab T)
    let k ← liftO (slotAt C TS off)
    req (TS[k]? == some (.arr n e))
    let some (.d _ x) := cs[k]? | .fail
    let es ← liftO (C.tab e)
    let ts ← liftO (C.tab t)
    let m ← liftO (slotAt C es j)
    req ((es.drop m).take ts.length == ts && decide (m + ts.length ≤ es.length))
    ret1 (← liftO (valOf C t (dCells ts ((List.range ts.length).map fun q => f1 (.cell (m + q)) (f2 .row x i)))))
  | .ro r e off => do
    let es ← liftO (C.tab e)
    let ts ← liftO (C.tab t)
    let m ← liftO (slotAt C es off)
    req ((es.drop m).take ts.length == ts && decide (m + ts.length ≤ es.length))
    ret1 (← liftO (valOf C t (dCells ts ((List.range ts.length).map fun q => f1 (.cell (m + q)) r))))
  | .oel n g i off => do
    let some (.tok e rows g' st) ← getE n | .fail
    req (g == g' && st != .gone)
    let es ← liftO (C.tab e)
    let ts ← liftO (C.tab t)
    let m ← liftO (slotAt C es off)
    req ((es.drop m).take ts.length == ts && decide (m + ts.length ≤ es.length))
    ret1 (← liftO (valOf C t (dCells ts ((List.range ts.length).map fun q => f1 (.cell (m + q)) (f2 .row rows i)))))
  | _ => .fail

def storeV (C : Cx) (nm : Nat → Name) (t : Nat) (a v : SV X) : Eff X (Upd X) :=
  match a with
  | .ref b off => do
    let some (.box T cs) ← getE b | .fail
    let TS ← liftO (C.tab T)
    let ts ← liftO (C.tab t)
    let k ← liftO (slotAt C TS off)
    req ((TS.drop k).take ts.length == ts && decide (k + ts.length ≤ TS.length))
    let (new, u) ← cellsOfV nm ts v
    pure (u ++ [(b, .box T (cs.take k ++ new ++ cs.drop (k + ts.length)))])
  | .refi b off n e i j => do
    let some (.box T cs) ← getE b | .fail
    let TS ← liftO (C.tab T)
    let k ← liftO (slotAt C TS off)
    req (TS[k]? == some (.arr n e))
    let some (.d _ x) := cs[k]? | .fail
    let es ← liftO (C.tab e)
    let ts ← liftO (C.tab t)
    let m ← liftO (slotAt C es j)
    req ((es.drop m).take ts.length == ts && decide (m + ts.length ≤ es.length))
    let (xs, u) ← dataOfV false ts v
    req (u.isEmpty)
    pure [(b, .box T (cs.set k (.d (.arr n e) (f3 .lset x i (setRow (f2 .row x i) es.length m xs)))))]
  | .oel n g i off => do
    let some (.tok e rows g' st) ← getE n | .fail
    req (g == g' && st == .live)
    let es ← liftO (C.tab e)
    let ts ← liftO (C.tab t)
    let m ← liftO (slotAt C es off)
    req ((es.drop m).take ts.length == ts && decide (m + ts.length ≤ es.length))
    let (xs, u) ← dataOfV false ts v
    req (u.all (·.1 != n))
    pure (u ++ [(n, .tok e (f3 .lset rows i (setRow (f2 .row rows i) es.length m xs)) g .live)])
  | _ => .fail

def fieldInfo (C : Cx) (s f : Nat) : Option (Nat × Nat) := match C.P.underlying s with
  | some (.struct fs) => (fs[f]?).map fun x => (x.offset, x.type)
  | _ => none
def fieldAddrV (C : Cx) (s f : Nat) (a : SV X) : Option (SV X) := do
  let (o, ft) ← fieldInfo C s f
  if C.P.cellsOf ft == 0 then none else
  match a with
  | .ref b off => some (.ref b (off + o))
  | .refi b off n e i j => some (.refi b off n e i (j + o))
  | .ro r e off => some (.ro r e (off + o))
  | .oel n g i off => some (.oel n g i (off + o))
  | _ => none
def fieldV (C : Cx) (s f : Nat) : SV X → Eff X (Res X)
  | .agg xs => do
    let (o, ft) ← liftO (fieldInfo C s f)
    let ss ← liftO (C.tab s)
    let ts ← liftO (C.tab ft)
    let k ← liftO (slotAt C ss o)
    req ((ss.drop k).take ts.length == ts && decide (k + ts.length ≤ ss.length))
    let xs ← slotsOk ss xs
    ret1 (← liftO (valOf C ft ((xs.drop k).take ts.length)))
  | _ => .fail
def indexAddrV (C : Cx) (t : Nat) (x : SV X) (i : X) : Eff X (Res X) :=
  match C.P.underlying t with
  | some (.slice e) => match x with
    | .c (.own n g) => do
      let some (.tok e' rows g' st) ← getE n | .fail
      req (g == g' && st != .gone && e == e')
      inBounds i (f1 .llen rows)
      if st == .live then ret1 (.oel n g i 0) else ret1 (.ro (f2 .row rows i) e 0)
    | .c (.d t l) => do
      req (t == .sl e || t == .slc e)
      inBounds i (f1 .llen l)
      ret1 (.ro (f2 .row l i) e 0)
    | _ => .fail
  | some (.array n e) => match x with
    | .ref b off => do
      req (decide (2 ≤ n))
      inBounds i (ilit n)
      let _ ← liftO (C.tab e)
      ret1 (.refi b off n e i 0)
    | .ro r e' off => do
      req (decide (2 ≤ n))
      inBounds i (ilit n)
      let es ← liftO (C.tab e')
      let k ← liftO (slotAt C es off)
      req (es[k]? == some (.arr n e))
      ret1 (.ro (f2 .row (f1 (.cell k) r) i) e 0)
    | _ => .fail
  | _ => .fail
def indexV (C : Cx) (t : Nat) (x : SV X) (i : X) : Eff X (Res X) :=
  match C.P.underlying t with
  | some .string => do
    let s ← liftO (strOf x)
    inBounds i (f1 .slen s)
    ret1 (vI .u8 (f2 .sidx s i))
  | some (.array n e) => match x with
    | .agg [.d (.arr n' e') y] => do
      req (n == n' && e == e')
      inBounds i (ilit n)
      let es ← liftO (C.tab e)
      ret1 (← liftO (valOf C e (dCells es (rowCells (f2 .row y i) es.length))))
    | _ => .fail
  | _ => .fail
def sliceV (C : Cx) (t : Nat) (x : SV X) (lo hi mx : Option (SV X)) : Eff X (Res X) :=
  match C.P.underlying t, mx with
  | some .string, none => do
    let s ← liftO (strOf x)
    let h ← liftO (optI (f1 .slen s) hi)
    let l ← liftO (optI (ilit 0) lo)
    guardE (f2 .ile (ilit 0) h)
    guardE (f2 .ile h (f1 .slen s))
    guardE (f2 .ile (ilit 0) l)
    guardE (f2 .ile l h)
    ret1 (vS (f3 .ssub s l h))
  | some (.slice e), none => do
    let .c c := x | .fail
    let (u, y, upd) ← cellData false c
    req (fits u (.sl e))
    let h ← liftO (optI (f1 .llen y) hi)
    let l ← liftO (optI (ilit 0) lo)
    guardE (f2 .ile (ilit 0) h)
    guardE (f2 .ile h (f1 .llen y))
    guardE (f2 .ile (ilit 0) l)
    guardE (f2 .ile l h)
    .pure (.one (.c (.d (.sl e) (f3 .lsub y l h))), upd)
  | some (.slice e), some m => do
    let .c c := x | .fail
    let (u, y, upd) ← cellData false c
    req (fits u (.sl e))
    let some v := hi | .fail
    let (_, h) ← liftO (intOf v)
    let l ← liftO (optI (ilit 0) lo)
    let (_, m) ← liftO (intOf m)
    guardE (f2 .ile (ilit 0) h)
    guardE (f2 .ile h (f1 .llen y))
    guardE (f2 .ile (ilit 0) l)
    guardE (f2 .ile l h)
    guardE (f2 .ieq m h)
    .pure (.one (.c (.d (.slc e) (f3 .lsub y l h))), upd)
  | _, _ => .fail
def bytesE (C : Cx) (e : Nat) : Nat := C.P.bytesOf e
/-- No slice may pass 2^47 bytes. -/
def room (C : Cx) (e : Nat) (n : X) : Eff X Unit := do
  req (decide (0 < C.P.bytesOf e))
  guardE (f2 .ile n (ilit ((140737488355328 / C.P.bytesOf e : Nat) : Int)))
def makeSliceV (C : Cx) (nm : Nat → Name) (t : Nat) (l c : SV X) : Eff X (Res X) :=
  match C.P.underlying t with
  | some (.slice e) => do
    let (k, l) ← liftO (intOf l)
    let (k', c) ← liftO (intOf c)
    req (k == .i64 && k' == .i64)
    guardE (f2 .ile (ilit 0) l)
    guardE (f2 .ile l c)
    room C e c
    let es ← liftO (C.tab e)
    let zs ← liftO (es.mapM (zeroX C 4))
    .pure (.one (.c (.own (nm 0) 0)), [(nm 0, .tok e (f2 .rep l (mkRow zs)) 0 .live)])
  | _ => .fail
def lenV (C : Cx) (t : Nat) (x : SV X) : Eff X (Res X) :=
  match C.P.underlying t with
  | some .string => do ret1 (vI .i64 (f1 .slen (← liftO (strOf x))))
  | some (.slice e) => match x with
    | .nils => ret1 (vI .i64 (ilit 0))
    | x => do
      let (e', y) ← rowsOf x
      req (e == e')
      ret1 (vI .i64 (f1 .llen y))
  | some (.array n _) => ret1 (vI .i64 (ilit n))
  | _ => .fail
def addend (e : Nat) : SV X → Eff X X
  | .nils => .pure (lit .nil)
  | .c c => do
    let (w, y, _) ← cellData true c
    req (fits w (.sl e))
    pure y
  | _ => .fail
def appendV (C : Cx) (nm : Nat → Name) (t u : Nat) (a b : SV X) : Eff X (Res X) :=
  match C.P.underlying t with
  | some (.slice e) => do
    req (t == u)
    let _ ← liftO (C.tab e)
    req (decide (0 < C.P.cellsOf e))
    let y ← addend e b
    match a with
    | .nils => do
      room C e (f1 .llen y)
      .pure (.one (.c (.own (nm 0) 0)), [(nm 0, .tok e y 0 .live)])
    | .c (.own n g) => do
      let some (.tok e' rows g' st) ← getE n | .fail
      req (g == g' && st == .live && e == e')
      room C e (f1 .llen (f2 .app rows y))
      .pure (.one (.c (.own n (g + 1))), [(n, .tok e (f2 .app rows y) (g + 1) .live)])
    | .c (.d (.slc e') x) => do
      req (e == e')
      guardE (f2 .ile (f2 .min (f1 .llen x) (ilit 1)) (f1 .llen y))
      room C e (f1 .llen (f2 .app x y))
      .pure (.one (.c (.own (nm 0) 0)), [(nm 0, .tok e (f2 .app x y) 0 .live)])
    | _ => .fail
  | _ => .fail
/-- The fields of a struct lie one behind the other. -/
def tile (C : Cx) : Nat → List Field → List Ty → Bool
  | _, [], ts => ts.isEmpty
  | o, f :: fs, ts => f.offset == o && f.name != "_" && match C.tab f.type with
    | some us => us == ts.take us.length && tile C (o + sizes C us) fs (ts.drop us.length)
    | none => false
/-- '==' at this type compares slot by slot. -/
def eqOk (C : Cx) : Nat → Nat → Bool
  | 0, _ => false
  | k + 1, t => match C.P.underlying t with
    | some .bool => C.tab t == some [.bool]
    | some (.int q) => C.tab t == some [.int q]
    | some .string => C.tab t == some [.str]
    | some (.struct fs) => !C.P.stoodInHeld t && (match C.tab t with | some ts => tile C 0 fs.toList ts | none => false) && fs.toList.all fun f => eqOk C k f.type
    | _ => false
/-- What tells whether a slice is nil; from the data alone nobody can say it. -/
def isNilF : Nat := 1000000000
def mkBool (bs : List X) : X := bs.headD (lit (.bool true))
/-- A row that is not empty is not nil. -/
def nilC (op : BinOp) : Eff X (Res X) := match op with
  | .eql => ret1 (vB (lit (.bool false)))
  | .neq => ret1 (vB (lit (.bool true)))
  | _ => .fail
def binOpV (C : Cx) (op : BinOp) (t : Nat) (x y : SV X) : Eff X (Res X) :=
  match x, y with
  | .c (.d (.int k) a), .c (.d (.int k') b) =>
    match op with
    | .shl => do guardE (f2 .ile (ilit 0) b); ret1 (vI k (f2 (.shl k) a b))
    | .shr => do guardE (f2 .ile (ilit 0) b); ret1 (vI k (f2 (.shr k) a b))
    | _ => do
      req (k == k')
      match op with
      | .add => ret1 (vI k (f2 (.add k) a b))
      | .sub => ret1 (vI k (f2 (.sub k) a b))
      | .mul => ret1 (vI k (f2 (.mul k) a b))
      | .and => ret1 (vI k (f2 (.and k) a b))
      | .or => ret1 (vI k (f2 (.or k) a b))
      | .xor => ret1 (vI k (f2 (.xor k) a b))
      | .andNot => ret1 (vI k (f2 (.andn k) a b))
      | .quo => do guardE (f2 .ine b (ilit 0)); ret1 (vI k (f2 (.quo k) a b))
      | .rem => do guardE (f2 .ine b (ilit 0)); ret1 (vI k (f2 .rem a b))
      | .eql => ret1 (vB (f2 .ieq a b))
      | .neq => ret1 (vB (f2 .ine a b))
      | .lss => ret1 (vB (f2 .ilt a b))
      | .leq => ret1 (vB (f2 .ile a b))
      | .gtr => ret1 (vB (f2 .igt a b))
      | .geq => ret1 (vB (f2 .ige a b))
      | _ => .fail
  | .c (.d .bool a), .c (.d .bool b) => do
    req (match C.P.underlying t with | some .bool => true | _ => false)
    match op with
    | .eql => ret1 (vB (f2 .beq a b))
    | .neq => ret1 (vB (f2 .bne a b))
    | _ => .fail
  | .c (.d .str a), .c (.d .str b) =>
    match op with
    | .add => do
      guardE (f2 .ile (f2 (.add .i64) (f1 .slen a) (f1 .slen b)) (ilit 140737488355328))
      guardE (f2 .ile (f1 .slen a) (ilit 140737488355328))
      guardE (f2 .ile (f1 .slen b) (ilit 140737488355328))
      ret1 (vS (f2 .cat a b))
    | .eql => ret1 (vB (f2 .seq a b))
    | .neq => ret1 (vB (f2 .sne a b))
    | .lss => ret1 (vB (f2 .slt a b))
    | .leq => ret1 (vB (f2 .sle a b))
    | .gtr => ret1 (vB (f2 .sgt a b))
    | .geq => ret1 (vB (f2 .sge a b))
    | _ => .fail
  | .c x, .nils => do
    req (match C.P.underlying t with | some (.slice _) => true | _ => false)
    let (u, y, _) ← cellData true x
    req (match u with | .sl _ | .slc _ => true | _ => false)
    .ite (f2 .ieq (f1 .llen y) (ilit 0)) (.call isNilF [y] 1 fun bs => match op with
      | .eql => ret1 (vB (f2 .beq (mkBool bs) (lit (.bool true))))
      | .neq => ret1 (vB (f2 .bne (mkBool bs) (lit (.bool true))))
      | _ => .fail) (nilC op)
  | .agg xs, .agg ys => do
    req (eqOk C 8 t && !C.P.eqGuardType C.P.depth t && C.isAgg t)
    let ts ← liftO (C.tab t)
    req (ts.all Ty.scalar)
    let (as, _) ← cellsAs true ts xs
    let (bs, _) ← cellsAs true ts ys
    match op with
    | .eql => ret1 (vB (f2 .deq (mkRow as) (mkRow bs)))
    | .neq => ret1 (vB (f2 .dne (mkRow as) (mkRow bs)))
    | _ => .fail
  | _, _ => .fail
def unOpV (op : UnOp) (x : SV X) : Eff X (Res X) :=
  match op, x with
  | .neg, .c (.d (.int k) a) => ret1 (vI k (f1 (.neg k) a))
  | .xor, .c (.d (.int k) a) => ret1 (vI k (f1 (.cpl k) a))
  | .not, .c (.d .bool a) => ret1 (vB (f1 .not a))
  | _, _ => .fail
def convertV (C : Cx) (s t : Nat) (x : SV X) : Eff X (Res X) :=
  match C.P.underlying s, C.P.underlying t, x with
  | some (.int _), some (.int k), .c (.d (.int _) a) => ret1 (vI k (f1 (.conv k) a))
  | some .string, some .string, .c (.d .str a) => ret1 (vS a)
  | some (.slice e), some .string, x => do
    req (match C.P.underlying e with | some (.int .u8) => true | _ => false)
    req (C.tab e == some [.int .u8])
    let (e', y) ← rowsOf x
    req (e == e')
    ret1 (vS (f1 .strOf y))
  | some .string, some (.slice e), .c (.d .str a) => do
    req (match C.P.underlying e with | some (.int .u8) => true | _ => false)
    req (C.tab e == some [.int .u8])
    guardE (f2 .ile (f1 .slen a) (ilit 140737488355328))
    ret1 (.c (.d (.sl e) (f1 .bytesOf a)))
  | _, _, _ => .fail
def allocV (C : Cx) (nm : Nat → Name) (T : Nat) : Option (Res X) := do
  let ts ← C.tab T
  let (cs, u) ← zeroCells C nm 1 ts
  pure (.one (.ref (nm 0) 0), u ++ [(nm 0, .box T cs)])
def boxV (C : Cx) (nm : Nat → Name) (T : Nat) (v : SV X) : Eff X (Res X) := do
  let ts ← liftO (C.tab T)
  let (cs, u) ← cellsOfV (fun j => nm (j + 1)) ts v
  .pure (.one (.ref (nm 0) 0), u ++ [(nm 0, .box T cs)])
/-- The parts of a struct, by their slots. -/
def buildParts (C : Cx) (nm : Nat → Name) (T : Nat) (TS : List Ty) : Nat → List (Nat × SV X) → List (Cell X) → Upd X → Eff X (List (Cell X) × Upd X)
  | _, [], cs, u => .pure (cs, u)
  | q, (i, v) :: ps, cs, u => do
    let (o, ft) ← liftO (fieldInfo C T i)
    let ts ← liftO (C.tab ft)
    let k ← liftO (slotAt C TS o)
    req ((TS.drop k).take ts.length == ts && decide (k + ts.length ≤ TS.length))
    let (new, u') ← cellsOfV (fun j => nm (1000 * (q + 1) + j)) ts v
    buildParts C nm T TS (q + 1) ps (cs.take k ++ new ++ cs.drop (k + ts.length)) (u ++ u')
def buildElems (C : Cx) (es : List Ty) : List (Nat × SV X) → X → Eff X X
  | [], y => .pure y
  | (i, v) :: ps, y => do
    let (xs, u) ← dataOfV false es v
    req u.isEmpty
    buildElems C es ps (f3 .lset y (ilit i) (mkRow xs))
def buildV (C : Cx) (nm : Nat → Name) (T : Nat) (parts : List (Nat × SV X)) : Eff X (Res X) :=
  match C.P.underlying T with
  | some (.struct fs) => do
    let ts ← liftO (C.tab T)
    req (decide (ts.length ≤ 1000) && fs.toList.all fun f => (C.tab f.type).isSome)
    let (cs, u) ← liftO (zeroCells C nm 0 ts)
    let (cs, u) ← buildParts C nm T ts 0 parts cs u
    .pure (.one (.agg cs), u)
  | some (.array n e) => do
    let es ← liftO (C.tab e)
    let z ← liftO (zeroX C 4 (.arr n e))
    req (C.tab T == some [.arr n e] && parts.all fun p => decide (p.1 < n))
    let y ← buildElems C es parts z
    ret1 (.agg [.d (.arr n e) y])
  | _ => .fail
/-- '[]T{a, b}': all parts there, in order. -/
def litRows (es : List Ty) : Nat → List (Nat × SV X) → Eff X (X × Upd X)
  | _, [] => .pure (lit .nil, [])
  | i, (j, v) :: ps => do
    req (i == j)
    let (xs, u) ← dataOfV false es v
    let (r, us) ← litRows es (i + 1) ps
    .pure (f2 .app (mkRow xs) r, u ++ us)
def buildSliceV (C : Cx) (nm : Nat → Name) (T n : Nat) (parts : List (Nat × SV X)) : Eff X (Res X) :=
  match C.P.underlying T with
  | some (.slice e) => do
    let es ← liftO (C.tab e)
    req (parts.length == n && decide (n * C.P.cellsOf e ≤ 16777216) && decide (0 < C.P.cellsOf e))
    let (y, u) ← litRows es 0 parts
    .pure (.one (.c (.own (nm 0) 0)), u ++ [(nm 0, .tok e y 0 .live)])
  | _ => .fail
def PK.asRK : PK → RK
  | .val a cs => .val a cs
  | .box t cs => .newbox t cs
def RK.asPK : RK → PK
  | .val a cs => .val a cs
  | .newbox t cs => .box t cs
def nmE (k : Nat) : Name := (0, 0, k)
/-! ### calls -/
/-- An argument that is handed on: its data, what becomes of tokens; of a box: the box's name. -/
def ownedIn (ocs : List (Ty × Bool)) (cs : List (Cell X)) (keep : Bool) : Eff X (List X × Upd X) :=
  match ocs, cs with
  | [], [] => .pure ([], [])
  | (t, o) :: ocs, c :: cs => do
    let (x, u) ← match o, c with
      | false, c => cellAs keep t c
      | true, .own n g => (do
        let some (.tok e rows g' st) ← getE n | .fail
        req (g == g' && st == .live && t == .sl e)
        pure (rows, [(n, .tok e rows g .gone)]) : Eff X (X × Upd X))
      | true, _ => .fail
    let (xs, us) ← ownedIn ocs cs keep
    pure (x :: xs, u ++ us)
  | _, _ => .fail
def argIn (keep : Bool) (p : PK) (v : SV X) : Eff X (List X × Upd X × Option Name) :=
  match p, v with
  | .val true ocs, .agg cs => do
    let (xs, u) ← ownedIn ocs cs keep
    pure (xs, u, none)
  | .val false ocs, .c c => do
    let (xs, u) ← ownedIn ocs [c] keep
    pure (xs, u, none)
  | .val false [(.sl _, false)], .nils => pure ([lit .nil], [], none)
  | .val false [(.fn, false)], .clo f caps => do
    let x ← cloX caps (lit (.fn f))
    pure ([x], [], none)
  | .box T ocs, .ref b off => do
    req (off == 0)
    let some (.box T' cs) ← getE b | .fail
    req (T == T')
    let (xs, u) ← ownedIn ocs cs keep
    pure (xs, u, some b)
  | _, _ => .fail
def argsIn (keep : Bool) : List PK → List (SV X) → Eff X (List X × Upd X × List (Name × PK))
  | [], [] => .pure ([], [], [])
  | p :: ps, v :: vs => do
    let (xs, u, b) ← argIn keep p v
    let (ys, us, bs) ← argsIn keep ps vs
    pure (xs ++ ys, u ++ us, (match b with | some n => [(n, p)] | none => []) ++ bs)
  | _, _ => .fail
/-- Cells that come back: what is the call's own gets a name, from q on. -/
def cellsBack (nm : Nat → Name) (q : Nat) (ocs : List (Ty × Bool)) (xs : List X) : List (Cell X) × Upd X :=
  match ocs, xs with
  | (.sl e, true) :: ocs, x :: xs => let (cs, u) := cellsBack nm (q + 1) ocs xs; (.own (nm q) 0 :: cs, (nm q, .tok e x 0 .live) :: u)
  | (t, _) :: ocs, x :: xs => let (cs, u) := cellsBack nm (q + 1) ocs xs; (.d t x :: cs, u)
  | _, _ => ([], [])
def resBack (nm : Nat → Name) (q : Nat) : List RK → List X → Option (List (SV X) × Upd X × List X)
  | [], xs => some ([], [], xs)
  | .val agg ocs :: rs, xs => do
    if xs.length < ocs.length then none else
    let (cs, u) := cellsBack nm q ocs (xs.take ocs.length)
    let v ← if agg then some (SV.agg cs) else match cs with | [c] => some (.c c) | _ => none
    let (vs, us, rest) ← resBack nm (q + 1000) rs (xs.drop ocs.length)
    pure (v :: vs, u ++ us, rest)
  | .newbox T ocs :: rs, xs => do
    if xs.length < ocs.length then none else
    let (cs, u) := cellsBack nm (q + 1) ocs (xs.take ocs.length)
    let (vs, us, rest) ← resBack nm (q + 1000) rs (xs.drop ocs.length)
    pure (.ref (nm q) 0 :: vs, u ++ [(nm q, .box T cs)] ++ us, rest)
def boxesBack (nm : Nat → Name) (q : Nat) : List (Name × PK) → List X → Option (Upd X)
  | [], [] => some []
  | (b, .box T ocs) :: bs, xs => do
    if xs.length < ocs.length then none else
    let (cs, u) := cellsBack nm q ocs (xs.take ocs.length)
    let us ← boxesBack nm (q + 1000) bs (xs.drop ocs.length)
    pure (u ++ [(b, .box T cs)] ++ us)
  | _, _ => none
def nodup : List Name → Bool
  | [] => true
  | a :: l => !l.contains a && nodup l
def tvOf (vs : List (SV X)) : TV X := match vs with
  | [v] => .one v
  | vs => .tup vs
def capsSV (caps : List (Cell X ⊕ Name)) : List (SV X) := caps.map fun | .inl c => .c c | .inr b => .ref b 0
def callV (C : Cx) (nm : Nat → Name) (f : Nat) (args : List (SV X)) : Eff X (Res X) := do
  let sg ← liftO (C.sig f)
  let (xs, u, bs) ← argsIn sg.scalar sg.params args
  req (nodup ((u.map (·.1)) ++ bs.map (·.1)))
  .call f xs sg.outs fun ys => do
    let (vs, u2, rest) ← liftO (resBack nm 100000 sg.results ys)
    let u3 ← liftO (boxesBack nm 500000 bs rest)
    .pure (tvOf vs, u ++ u2 ++ u3)
def callvV (C : Cx) (x : X) (argTypes : List Nat) (rt : Nat) (args : List (SV X)) : Eff X (Res X) := do
  let ps ← liftO (argTypes.mapM fun t => (C.tab t).map fun ts => PK.val (C.isAgg t) (ts.map fun t => (t, false)))
  let rs ← liftO ((C.tab rt).map fun ts => [RK.val (C.isAgg rt) (ts.map fun t => (t, false))])
  let sg : Sig := ⟨ps, rs⟩
  req sg.scalar
  let (xs, u, bs) ← argsIn true ps args
  req (u.isEmpty && bs.isEmpty)
  .callv sg x xs sg.outs fun ys => do
    let (vs, u2, rest) ← liftO (resBack (fun _ => (0, 0, 0)) 0 rs ys)
    req (u2.isEmpty && rest.isEmpty)
    .pure (tvOf vs, [])

def moveV : Option (TV X) → Eff X (Res X)
  | none => .fail
  | some (.one .dead) => .fail
  | some tv => .pure (tv, [])
def capV : SV X → Eff X (Cell X ⊕ Name)
  | .c c => .pure (.inl c)
  | .ref b 0 => .pure (.inr b)
  | _ => .fail
def optV (v : Operand → Eff X (SV X)) : Option Operand → Eff X (Option (SV X))
  | none => .pure none
  | some y => do pure (some (← v y))
/-- One operation: its value, and what becomes of memory. 'nm': names for what it makes. -/
def stepOp (C : Cx) (nm : Nat → Name) (ρ : Operand → Option (TV X)) (o : Oper) : Eff X (Res X) :=
  let v (x : Operand) : Eff X (SV X) := liftO ((ρ x).bind one?)
  match o.op with
  | .move x | .assign x => moveV (ρ x)
  | .pick c a b => do
    let c ← liftO (boolOf (← v c))
    .ite c (moveV (ρ a)) (moveV (ρ b))
  | .alloc T => liftO (allocV C nm T)
  | .box T x => do boxV C nm T (← v x)
  | .build T ps => do buildV C nm T (← ps.toList.mapM fun p => do pure (p.1, ← v p.2))
  | .buildSlice T n ps => do buildSliceV C nm T n (← ps.toList.mapM fun p => do pure (p.1, ← v p.2))
  | .load t a => do loadV C t (← v a)
  | .store t a x => do
    let a ← v a
    let x ← v x
    .pure (.one .dead, ← storeV C nm t a x)
  | .nilCheck x => do
    match ← v x with
    | .ref b off => ret1 (.ref b off)
    | .refi b off n e i j => ret1 (.refi b off n e i j)
    | .ro r e off => ret1 (.ro r e off)
    | .oel n g i off => ret1 (.oel n g i off)
    | _ => .fail
  | .binOp op t x y _ => do
    let x ← v x
    binOpV C op t x (← v y)
  | .unOp op _ x => do unOpV op (← v x)
  | .convert s t x => do convertV C s t (← v x)
  | .makeFunc (.func f) first caps => do
    req first.isEmpty
    let cs ← caps.toList.mapM fun x => do capV (← v x)
    ret1 (.clo f cs)
  | .makeSlice t l c => do
    let l ← v l
    makeSliceV C nm t l (← v c)
  | .slice t x lo hi mx => do
    req (match C.P.underlying t with | some (.slice e) => (C.tab e).isSome | _ => true)
    let x ← v x
    let lo ← optV v lo
    let hi ← optV v hi
    let mx ← optV v mx
    sliceV C t x lo hi mx
  | .fieldAddr s x f => do ret1 (← liftO (fieldAddrV C s f (← v x)))
  | .field s x f => do fieldV C s f (← v x)
  | .indexAddr t x i => do
    let x ← v x
    let (_, i) ← liftO (intOf (← v i))
    indexAddrV C t x i
  | .index t x i => do
    let x ← v x
    let (_, i) ← liftO (intOf (← v i))
    indexV C t x i
  | .extract x i => do
    match ← liftO (ρ x) with
    | .tup vs => do
      let y ← liftO vs[i]?
      match y with
      | .dead => .fail
      | y => ret1 y
    | _ => .fail
  | .call c => match c.callee with
    | .builtin .len => match c.args.toList, c.argTypes.toList with
      | [x], [t] => do lenV C t (← v x)
      | _, _ => .fail
    | .builtin .append => match c.args.toList, c.argTypes.toList with
      | [x, y], [t, u] => do
        let x ← v x
        appendV C nm t u x (← v y)
      | _, _ => .fail
    | .builtin .max => match c.args.toList with
      | [x, y] => do
        let (k, a) ← liftO (intOf (← v x))
        let (k', b) ← liftO (intOf (← v y))
        req (k == k')
        ret1 (vI k (f2 .max a b))
      | _ => .fail
    | .builtin .min => match c.args.toList with
      | [x, y] => do
        let (k, a) ← liftO (intOf (← v x))
        let (k', b) ← liftO (intOf (← v y))
        req (k == k')
        ret1 (vI k (f2 .min a b))
      | _ => .fail
    | .value g => do
      let args ← c.args.toList.mapM v
      match ← v g with
      | .clo f caps => callV C nm f (args ++ capsSV caps)
      | .c (.d .fn x) => callvV C x c.argTypes.toList o.type args
      | _ => .fail
    | _ => .fail
  | _ => .fail
end

/-! ### running effects over data -/
abbrev Hp := Name → Option (Obj D)
abbrev Vt := Nat → List D → Option (List D)
/-- The value, and which names were read. -/
def Eff.run {A : Type} (C : Cx) (V : Vt) (h : Hp) : Eff D A → Option (A × List Name)
  | .pure a => some (a, [])
  | .fail => none
  | .guard c k => if c.toBool then k.run C V h else none
  | .ite c a b => if c.toBool then a.run C V h else b.run C V h
  | .get n k => ((k (h n)).run C V h).map fun (a, l) => (a, n :: l)
  | .call f xs n k => match V f xs with
    | some ys => if ys.length == n then (k ys).run C V h else none
    | none => none
  | .callv s x xs n k => match x with
    | .fn f tys caps =>
      if C.sig f == some { s with params := s.params ++ tys.map fun t => .val false [(t, false)] } then
        match V f (xs ++ caps) with
        | some ys => if ys.length == n then (k ys).run C V h else none
        | none => none
      else none
    | _ => none

structure St (X : Type) where
  tmps : List (TV X)
  heap : Name → Option (Obj X)
  stamp : Nat
def Upd.ap {X : Type} (u : Upd X) (h : Name → Option (Obj X)) : Name → Option (Obj X) := u.foldl (fun h p n => if n = p.1 then some p.2 else h n) h
end Go.Fw
/- The framework, part 2: how plain data stand for the machine's values, and what survives when memory grows. -/
namespace Go.Fw
open Alg

/-! ### data and cells -/
mutual
inductive Rep (C : Cx) (w : World) (S : Nat → Prop) : Ty → D → List Value → Prop
  | int (k : IntKind) (n : Int) : Rep C w S (.int k) (.int n) [.int k n]
  | bool (b : Bool) : Rep C w S .bool (.bool b) [.bool b]
  | str (s : List UInt8) : Rep C w S .str (.str s) [.string ⟨s.toArray⟩]
  | nil (e : Nat) (A : Option Addr) (c : Nat) : Rep C w S (.sl e) (.rows []) [.slice A 0 c]
  | sl (e : Nat) (ts : List Ty) (rows : List (List D)) (b o c : Nat) (cells : List Value) (ht : C.tab e = some ts) (hs : S b) (hn : rows ≠ []) (hc : rows.length ≤ c)
      (hr : RepRows C w S ts rows cells) (hl : ∀ j v, cells[j]? = some v → w.cell? ⟨b, o + j, none⟩ = some v) : Rep C w S (.sl e) (.rows rows) [.slice (some ⟨b, o, none⟩) rows.length c]
  | nilc (e : Nat) (A : Option Addr) : Rep C w S (.slc e) (.rows []) [.slice A 0 0]
  | slc (e : Nat) (ts : List Ty) (rows : List (List D)) (b o : Nat) (cells : List Value) (ht : C.tab e = some ts) (hs : S b) (hn : rows ≠ [])
      (hr : RepRows C w S ts rows cells) (hl : ∀ j v, cells[j]? = some v → w.cell? ⟨b, o + j, none⟩ = some v) : Rep C w S (.slc e) (.rows rows) [.slice (some ⟨b, o, none⟩) rows.length rows.length]
  | arr (n e : Nat) (ts : List Ty) (rows : List (List D)) (cells : List Value) (ht : C.tab e = some ts) (hn : rows.length = n)
      (hr : RepRows C w S ts rows cells) : Rep C w S (.arr n e) (.rows rows) cells
  | fn (f : Nat) (tys : List Ty) (caps : List D) (cv : List Value) (hr : RepRow C w S tys caps cv) : Rep C w S .fn (.fn f tys caps) [.func (.func f) #[] cv.toArray]
  | nofn : Rep C w S .fn .nofn [.nilFunc]
inductive RepRow (C : Cx) (w : World) (S : Nat → Prop) : List Ty → List D → List Value → Prop
  | nil : RepRow C w S [] [] []
  | cons (t : Ty) (ts : List Ty) (d : D) (ds : List D) (c1 c2 : List Value) (h : Rep C w S t d c1) (hs : RepRow C w S ts ds c2) : RepRow C w S (t :: ts) (d :: ds) (c1 ++ c2)
inductive RepRows (C : Cx) (w : World) (S : Nat → Prop) : List Ty → List (List D) → List Value → Prop
  | nil (ts : List Ty) : RepRows C w S ts [] []
  | cons (ts : List Ty) (r : List D) (rs : List (List D)) (c1 c2 : List Value) (h : RepRow C w S ts r c1) (hs : RepRows C w S ts rs c2) : RepRows C w S ts (r :: rs) (c1 ++ c2)
end

/-- The tables are right: a slot list takes as many cells as its type. -/
def Cx.ok (C : Cx) : Prop := ∀ e ts, C.tab e = some ts → sizes C ts = C.P.cellsOf e ∧ (C.P.info? e).isSome = true ∧ (C.P.underlying e).isSome = true ∧ (C.isAgg e = true ∨ sizes C ts = 1)

section
variable {C : Cx} {w w' : World} {S S' : Nat → Prop}

mutual
theorem Rep.mono (hS : ∀ b, S b → S' b) (hw : ∀ b, S b → w'.heap[b]? = w.heap[b]?) : ∀ {t : Ty} {d : D} {cs : List Value}, Rep C w S t d cs → Rep C w' S' t d cs
  | _, _, _, .int k n => .int k n
  | _, _, _, .bool b => .bool b
  | _, _, _, .str s => .str s
  | _, _, _, .nil e A c => .nil e A c
  | _, _, _, .sl e ts rows b o c cells ht hs hn hc hr hl => .sl e ts rows b o c cells ht (hS b hs) hn hc (RepRows.mono hS hw hr) fun j v h => (World.cell?_of_block (a := ⟨b, o + j, none⟩) (hw b hs)).trans (hl j v h)
  | _, _, _, .nilc e A => .nilc e A
  | _, _, _, .slc e ts rows b o cells ht hs hn hr hl => .slc e ts rows b o cells ht (hS b hs) hn (RepRows.mono hS hw hr) fun j v h => (World.cell?_of_block (a := ⟨b, o + j, none⟩) (hw b hs)).trans (hl j v h)
  | _, _, _, .arr n e ts rows cells ht hn hr => .arr n e ts rows cells ht hn (RepRows.mono hS hw hr)
  | _, _, _, .fn f tys caps cv hr => .fn f tys caps cv (RepRow.mono hS hw hr)
  | _, _, _, .nofn => .nofn
theorem RepRow.mono (hS : ∀ b, S b → S' b) (hw : ∀ b, S b → w'.heap[b]? = w.heap[b]?) : ∀ {ts : List Ty} {ds : List D} {cs : List Value}, RepRow C w S ts ds cs → RepRow C w' S' ts ds cs
  | _, _, _, .nil => .nil
  | _, _, _, .cons t ts d ds c1 c2 h hs => .cons t ts d ds c1 c2 (Rep.mono hS hw h) (RepRow.mono hS hw hs)
theorem RepRows.mono (hS : ∀ b, S b → S' b) (hw : ∀ b, S b → w'.heap[b]? = w.heap[b]?) : ∀ {ts : List Ty} {ds : List (List D)} {cs : List Value}, RepRows C w S ts ds cs → RepRows C w' S' ts ds cs
  | _, _, _, .nil ts => .nil ts
  | _, _, _, .cons ts r rs c1 c2 h hs => .cons ts r rs c1 c2 (RepRow.mono hS hw h) (RepRows.mono hS hw hs)
end

mutual
theorem Rep.len (hC : C.ok) : ∀ {t : Ty} {d : D} {cs : List Value}, Rep C w S t d cs → cs.length = t.size C
  | _, _, _, .int .. | _, _, _, .bool .. | _, _, _, .str .. | _, _, _, .nil .. | _, _, _, .sl .. | _, _, _, .nilc .. | _, _, _, .slc .. | _, _, _, .fn .. | _, _, _, .nofn => rfl
  | _, _, _, .arr n e ts rows cells ht hn hr => by
    have := RepRows.len hC hr
    rw [this, hn, (hC e ts ht).1]
    rfl
theorem RepRow.len (hC : C.ok) : ∀ {ts : List Ty} {ds : List D} {cs : List Value}, RepRow C w S ts ds cs → cs.length = sizes C ts
  | _, _, _, .nil => rfl
  | _, _, _, .cons t ts d ds c1 c2 h hs => by
    have h1 := Rep.len hC h
    have h2 := RepRow.len hC hs
    simp only [List.length_append, h1, h2, sizes, List.map_cons, List.sum_cons]
theorem RepRows.len (hC : C.ok) : ∀ {ts : List Ty} {ds : List (List D)} {cs : List Value}, RepRows C w S ts ds cs → cs.length = ds.length * sizes C ts
  | _, _, _, .nil ts => by simp
  | _, _, _, .cons ts r rs c1 c2 h hs => by
    have h1 := RepRow.len hC h
    have h2 := RepRows.len hC hs
    simp only [List.length_append, h1, h2, List.length_cons, Nat.add_mul, Nat.one_mul]
    omega
end
mutual
theorem Rep.one : ∀ {t : Ty} {d : D} {cs : List Value}, Rep C w S t d cs → ∀ u ∈ cs, u.oneCell' = true
  | _, _, _, .int .. | _, _, _, .bool .. | _, _, _, .str .. | _, _, _, .nil .. | _, _, _, .sl .. | _, _, _, .nilc .. | _, _, _, .slc .. | _, _, _, .fn .. | _, _, _, .nofn => by
    intro u hu; rw [List.mem_singleton] at hu; subst hu; rfl
  | _, _, _, .arr n e ts rows cells ht hn hr => RepRows.one hr
theorem RepRow.one : ∀ {ts : List Ty} {ds : List D} {cs : List Value}, RepRow C w S ts ds cs → ∀ u ∈ cs, u.oneCell' = true
  | _, _, _, .nil => by simp
  | _, _, _, .cons t ts d ds c1 c2 h hs => by
    have h1 := Rep.one h
    have h2 := RepRow.one hs
    intro u hu
    rcases List.mem_append.1 hu with h | h
    · exact h1 u h
    · exact h2 u h
theorem RepRows.one : ∀ {ts : List Ty} {ds : List (List D)} {cs : List Value}, RepRows C w S ts ds cs → ∀ u ∈ cs, u.oneCell' = true
  | _, _, _, .nil ts => by simp
  | _, _, _, .cons ts r rs c1 c2 h hs => by
    have h1 := RepRow.one h
    have h2 := RepRows.one hs
    intro u hu
    rcases List.mem_append.1 hu with h | h
    · exact h1 u h
    · exact h2 u h
end
theorem RepRow.lens : ∀ {ts : List Ty} {ds : List D} {cs : List Value}, RepRow C w S ts ds cs → ds.length = ts.length
  | _, _, _, .nil => rfl
  | _, _, _, .cons t ts d ds c1 c2 _ hs => by simp [RepRow.lens hs]
theorem RepRow.append : ∀ {ts us : List Ty} {ds es : List D} {cs bs : List Value}, RepRow C w S ts ds cs → RepRow C w S us es bs → RepRow C w S (ts ++ us) (ds ++ es) (cs ++ bs)
  | _, _, _, _, _, _, .nil, h => h
  | _, _, _, _, _, _, .cons t ts d ds c1 c2 h hs, h' => by
    have := RepRow.append hs h'
    rw [List.append_assoc]
    exact .cons t _ d _ c1 _ h this
theorem RepRows.append : ∀ {ts : List Ty} {ds es : List (List D)} {cs bs : List Value}, RepRows C w S ts ds cs → RepRows C w S ts es bs → RepRows C w S ts (ds ++ es) (cs ++ bs)
  | _, _, _, _, _, .nil _, h => h
  | _, _, _, _, _, .cons ts r rs c1 c2 h hs, h' => by
    have := RepRows.append hs h'
    rw [List.append_assoc]
    exact .cons ts r _ c1 _ h this
/-- A row taken apart at a slot. -/
theorem RepRow.split (hC : C.ok) : ∀ {ts : List Ty} {ds : List D} {cs : List Value}, RepRow C w S ts ds cs → ∀ k, k ≤ ts.length →
    RepRow C w S (ts.take k) (ds.take k) (cs.take (offOf C ts k)) ∧ RepRow C w S (ts.drop k) (ds.drop k) (cs.drop (offOf C ts k))
  | _, _, _, .nil, k, _ => by simp [offOf, sizes]; exact .nil
  | _, _, _, .cons t ts d ds c1 c2 h hs, 0, _ => by simp [offOf, sizes]; exact ⟨.nil, .cons t ts d ds c1 c2 h hs⟩
  | _, _, _, .cons t ts d ds c1 c2 h hs, k + 1, hk => by
    obtain ⟨h1, h2⟩ := RepRow.split hC hs k (by simpa using hk)
    have hl := Rep.len hC h
    have e : offOf C (t :: ts) (k + 1) = c1.length + offOf C ts k := by simp [offOf, sizes, hl]
    rw [e]
    simp only [List.take_succ_cons, List.drop_succ_cons]
    rw [List.take_length_add_append, List.drop_length_add_append]
    exact ⟨.cons t _ d _ c1 _ h h1, h2⟩
theorem RepRows.get (hC : C.ok) : ∀ {ts : List Ty} {rs : List (List D)} {cs : List Value}, RepRows C w S ts rs cs → ∀ i, i < rs.length →
    RepRow C w S ts (rs.getD i []) ((cs.drop (i * sizes C ts)).take (sizes C ts))
  | _, _, _, .nil _, i, h => by simp at h
  | _, _, _, .cons ts r rs c1 c2 h hs, 0, _ => by
    have hl := RepRow.len hC h
    simp only [Nat.zero_mul, List.drop_zero, List.getD_cons_zero]
    rw [← hl, List.take_left]
    exact h
  | _, _, _, .cons ts r rs c1 c2 h hs, i + 1, hi => by
    have hl := RepRow.len hC h
    have ih := RepRows.get hC hs i (by simpa using hi)
    rw [List.getD_cons_succ, Nat.add_mul, Nat.one_mul, Nat.add_comm, ← hl, List.drop_length_add_append, hl]
    exact ih
theorem RepRows.take (hC : C.ok) : ∀ {ts : List Ty} {rs : List (List D)} {cs : List Value}, RepRows C w S ts rs cs → ∀ i, RepRows C w S ts (rs.take i) (cs.take (i * sizes C ts)) ∧ RepRows C w S ts (rs.drop i) (cs.drop (i * sizes C ts))
  | _, _, _, .nil ts, i => by simp; exact .nil ts
  | _, _, _, .cons ts r rs c1 c2 h hs, 0 => by simp; exact ⟨.nil ts, .cons ts r rs c1 c2 h hs⟩
  | _, _, _, .cons ts r rs c1 c2 h hs, i + 1 => by
    have hl := RepRow.len hC h
    obtain ⟨h1, h2⟩ := RepRows.take hC hs i
    simp only [List.take_succ_cons, List.drop_succ_cons]
    rw [Nat.add_mul, Nat.one_mul, Nat.add_comm, ← hl, List.take_length_add_append, List.drop_length_add_append, hl]
    exact ⟨.cons ts r _ c1 _ h h1, h2⟩
theorem RepRows.set (hC : C.ok) {ts : List Ty} {rs : List (List D)} {cs : List Value} (h : RepRows C w S ts rs cs) {i : Nat} (hi : i < rs.length) {r : List D} {c : List Value} (hr : RepRow C w S ts r c) :
    RepRows C w S ts (rs.set i r) (cs.take (i * sizes C ts) ++ c ++ cs.drop (i * sizes C ts + c.length)) := by
  have h1 := (RepRows.take hC h i).1
  have h2 := (RepRows.take hC h (i + 1)).2
  have hl := RepRow.len hC hr
  have e : rs.set i r = rs.take i ++ ([r] ++ rs.drop (i + 1)) := by
    rw [List.set_eq_take_append_cons_drop, if_pos hi]
    rfl
  rw [e, hl, List.append_assoc]
  refine h1.append ?_
  have : RepRows C w S ts [r] c := by simpa using RepRows.cons ts r [] c [] hr (.nil ts)
  refine this.append ?_
  rw [Nat.add_mul, Nat.one_mul] at h2
  exact h2
theorem RepRows.replicate {ts : List Ty} {r : List D} {c : List Value} (h : RepRow C w S ts r c) : ∀ n, RepRows C w S ts (List.replicate n r) (List.replicate n c).flatten
  | 0 => .nil ts
  | n + 1 => by
    rw [List.replicate_succ, List.replicate_succ, List.flatten_cons]
    exact .cons ts r _ c _ h (RepRows.replicate h n)
end
end Go.Fw
/- The framework, part 3: how an abstract state stands for the machine's frame and memory. -/
namespace Go.Fw
open Alg

/-- The machine's values for names: a box's address, a row's slice. -/
abbrev Mu := Name → Value
def Value.blk : Value → Option Nat
  | .pointer (some a) => some a.block
  | .slice (some a) _ c => if c = 0 then none else some a.block
  | _ => none
theorem Value.blk_zero (A : Option Addr) (n : Nat) : Value.blk (.slice A n 0) = none := by cases A <;> simp [Value.blk]
def Obj.owned : Obj D → Bool
  | .box .. => true
  | .tok _ _ _ st => st == .live
  | .bld _ => true

section
variable (C : Cx) (w : World) (S : Nat → Prop) (h : Hp) (μ : Mu)
inductive CellRep : Ty → Cell D → List Value → Prop
  | d (t : Ty) (x : D) (cs : List Value) (hr : Rep C w S t x cs) : CellRep t (.d t x) cs
  | own (e : Nat) (n : Name) (g : Nat) (rows : D) (g' : Nat) (st : Stt) (v : Value) (hn : h n = some (.tok e rows g' st)) (hg : g ≤ g') (hv : g = g' → v = μ n) (h1 : v.oneCell' = true) : CellRep (.sl e) (.own n g) [v]
inductive CellsRep : List Ty → List (Cell D) → List Value → Prop
  | nil : CellsRep [] [] []
  | cons (t : Ty) (ts : List Ty) (d : Cell D) (ds : List (Cell D)) (c1 c2 : List Value) (hd : CellRep C w S h μ t d c1) (hs : CellsRep ts ds c2) : CellsRep (t :: ts) (d :: ds) (c1 ++ c2)
def isBox (h : Hp) (μ : Mu) (b : Name) (blk : Nat) : Prop := ((∃ T cs, h b = some (.box T cs)) ∨ ∃ s, h b = some (.bld s)) ∧ μ b = .pointer (some ⟨blk, 0, none⟩)
inductive CapsRep : List (Cell D ⊕ Name) → List Value → Prop
  | nil : CapsRep [] []
  | inl (c : Cell D) (l : List (Cell D ⊕ Name)) (t : Ty) (v : Value) (vs : List Value) (hc : CellRep C w S h μ t c [v]) (hl : CapsRep l vs) : CapsRep (.inl c :: l) (v :: vs)
  | inr (b : Name) (blk : Nat) (l : List (Cell D ⊕ Name)) (vs : List Value) (hb : isBox h μ b blk) (hl : CapsRep l vs) : CapsRep (.inr b :: l) (.pointer (some ⟨blk, 0, none⟩) :: vs)
inductive SVRep : SV D → Value → Prop
  | c (x : Cell D) (t : Ty) (v : Value) (hc : CellRep C w S h μ t x [v]) : SVRep (.c x) v
  | agg (xs : List (Cell D)) (ts : List Ty) (cs : List Value) (hc : CellsRep C w S h μ ts xs cs) : SVRep (.agg xs) (.agg cs.toArray)
  | ref (b : Name) (off blk : Nat) (hb : isBox h μ b blk) : SVRep (.ref b off) (.pointer (some ⟨blk, off, none⟩))
  | refi (b : Name) (off n e : Nat) (i : Nat) (j blk : Nat) (hb : isBox h μ b blk) (hi : i < n) : SVRep (.refi b off n e (.int i) j) (.pointer (some ⟨blk, off + i * C.P.cellsOf e + j, none⟩))
  | ro (row : List D) (e off b o : Nat) (ts : List Ty) (cells : List Value) (hs : S b) (ht : C.tab e = some ts) (hr : RepRow C w S ts row cells)
      (hl : ∀ j u, cells[j]? = some u → w.cell? ⟨b, o + j, none⟩ = some u) : SVRep (.ro (.rows [row]) e off) (.pointer (some ⟨b, o + off, none⟩))
  | oel (n : Name) (g : Nat) (i off : Nat) (e : Nat) (rows : List (List D)) (g' : Nat) (st : Stt) (v : Value) (hn : h n = some (.tok e (.rows rows) g' st)) (hg : g ≤ g')
      (hv : g = g' → i < rows.length ∧ ∃ blk c, μ n = .slice (some ⟨blk, 0, none⟩) rows.length c ∧ v = .pointer (some ⟨blk, i * C.P.cellsOf e + off, none⟩)) (hp : ∃ a, v = .pointer (some a)) : SVRep (.oel n g (.int i) off) v
  | nils : SVRep .nils (.slice none 0 0)
  | nilp : SVRep .nilp (.pointer none)
  | clo (f : Nat) (caps : List (Cell D ⊕ Name)) (cv : List Value) (hc : CapsRep C w S h μ caps cv) : SVRep (.clo f caps) (.func (.func f) #[] cv.toArray)
  | dead (v : Value) : SVRep .dead v
inductive SVsRep : List (SV D) → List Value → Prop
  | nil : SVsRep [] []
  | cons (x : SV D) (xs : List (SV D)) (v : Value) (vs : List Value) (hx : SVRep C w S h μ x v) (hs : SVsRep xs vs) : SVsRep (x :: xs) (v :: vs)
inductive TVRep : TV D → Value → Prop
  | one (x : SV D) (v : Value) (hx : SVRep C w S h μ x v) : TVRep (.one x) v
  | tup (xs : List (SV D)) (vs : List Value) (hs : SVsRep C w S h μ xs vs) : TVRep (.tup xs) (.tuple vs.toArray)

/-- What is known of a name's memory. -/
inductive ObjRep : Obj D → Value → Prop
  | box (T : Nat) (ts : List Ty) (cs : List (Cell D)) (b : Nat) (cells : List Value) (ht : C.tab T = some ts) (hb : w.heap[b]? = some (.cells cells.toArray T (0, 0))) (hc : CellsRep C w S h μ ts cs cells) :
      ObjRep (.box T cs) (.pointer (some ⟨b, 0, none⟩))
  | live (e : Nat) (ts : List Ty) (rows : List (List D)) (g : Nat) (v : Value) (cells : List Value) (ht : C.tab e = some ts) (hr : RepRows C w S ts rows cells)
      (ho : w.ownsRow 0 e (C.P.cellsOf e) v rows.length cells) : ObjRep (.tok e (.rows rows) g .live) v
  | empty (e : Nat) (ts : List Ty) (g : Nat) (A : Option Addr) (ht : C.tab e = some ts) : ObjRep (.tok e (.rows []) g .live) (.slice A 0 0)
  | frozen (e : Nat) (rows : List (List D)) (g : Nat) (v : Value) (hr : Rep C w S (.sl e) (.rows rows) [v]) : ObjRep (.tok e (.rows rows) g .frozen) v
  | gone (e : Nat) (rows : D) (g : Nat) (v : Value) : ObjRep (.tok e rows g .gone) v
end

/-- Memory's part: names' objects, each in blocks of its own, apart from what may not change. -/
structure RH (C : Cx) (w0 : World) (S0 M0 : Nat → Prop) (S : Nat → Prop) (μ : Mu) (h : Hp) (w : World) : Prop where
  obj : ∀ n o, h n = some o → ObjRep C w S h μ o (μ n)
  dist : ∀ n m o o', n ≠ m → h n = some o → h m = some o' → o.owned = true → o'.owned = true → ∀ b, Value.blk (μ n) = some b → Value.blk (μ m) ≠ some b
  apart : ∀ n o b, h n = some o → o.owned = true → Value.blk (μ n) = some b → ¬ S b ∧ (w0.heap.size ≤ b ∨ M0 b)
  lt : ∀ b, S b → b < w.heap.size
  new : ∀ b, S b → S0 b ∨ w0.heap.size ≤ b ∨ M0 b
  old : ∀ b, S0 b → S b
  size : w0.heap.size ≤ w.heap.size
  keep : ∀ b, b < w0.heap.size → ¬ M0 b → w.heap[b]? = w0.heap[b]?
  os : w.os = w0.os
  tape : w.tape = w0.tape
  output : w.output = w0.output

/-- From one state of memory to a later one: what was known stays known. -/
structure Ext (S : Nat → Prop) (μ : Mu) (h : Hp) (w : World) (S' : Nat → Prop) (μ' : Mu) (h' : Hp) (w' : World) : Prop where
  sub : ∀ b, S b → S' b
  kept : ∀ b, S b → w'.heap[b]? = w.heap[b]?
  box : ∀ n T cs, h n = some (.box T cs) → μ' n = μ n ∧ ∃ cs', h' n = some (.box T cs')
  bld : ∀ n s, h n = some (.bld s) → μ' n = μ n ∧ ∃ s', h' n = some (.bld s')
  tok : ∀ n e rows g st, h n = some (.tok e rows g st) → ∃ rows' g' st', h' n = some (.tok e rows' g' st') ∧ g ≤ g' ∧ (g = g' → μ' n = μ n ∧ (∀ l, rows = .rows l → ∃ l', rows' = .rows l' ∧ l'.length = l.length)) ∧ (∀ l, rows = .rows l → ∃ l', rows' = .rows l')

section
variable {C : Cx} {w w' w'' : World} {S S' S'' : Nat → Prop} {h h' h'' : Hp} {μ μ' μ'' : Mu}
theorem Ext.refl : Ext S μ h w S μ h w :=
  ⟨fun _ h => h, fun _ _ => rfl, fun n T cs h => ⟨rfl, cs, h⟩, fun n s h => ⟨rfl, s, h⟩, fun n e rows g st h => ⟨rows, g, st, h, Nat.le_refl _, fun _ => ⟨rfl, fun l hl => ⟨l, hl, rfl⟩⟩, fun l hl => ⟨l, hl⟩⟩⟩
theorem Ext.trans (a : Ext S μ h w S' μ' h' w') (b : Ext S' μ' h' w' S'' μ'' h'' w'') : Ext S μ h w S'' μ'' h'' w'' := by
  refine ⟨fun x hx => b.sub x (a.sub x hx), fun x hx => (b.kept x (a.sub x hx)).trans (a.kept x hx), fun n T cs hn => ?_, fun n s hn => ?_, fun n e rows g st hn => ?_⟩
  · obtain ⟨h1, cs', h2⟩ := a.box n T cs hn
    obtain ⟨h3, cs'', h4⟩ := b.box n T cs' h2
    exact ⟨h3.trans h1, cs'', h4⟩
  · obtain ⟨h1, cs', h2⟩ := a.bld n s hn
    obtain ⟨h3, cs'', h4⟩ := b.bld n cs' h2
    exact ⟨h3.trans h1, cs'', h4⟩
  · obtain ⟨r1, g1, s1, h1, hg1, hk1, hl1⟩ := a.tok n e rows g st hn
    obtain ⟨r2, g2, s2, h2, hg2, hk2, hl2⟩ := b.tok n e r1 g1 s1 h1
    refine ⟨r2, g2, s2, h2, Nat.le_trans hg1 hg2, fun e1 => ?_, fun l hl => ?_⟩
    · have e2 : g = g1 := by omega
      have e3 : g1 = g2 := by omega
      obtain ⟨m1, k1⟩ := hk1 e2
      obtain ⟨m2, k2⟩ := hk2 e3
      refine ⟨m2.trans m1, fun l hl => ?_⟩
      obtain ⟨l', hl', e'⟩ := k1 l hl
      obtain ⟨l'', hl'', e''⟩ := k2 l' hl'
      exact ⟨l'', hl'', e''.trans e'⟩
    · obtain ⟨l', hl'⟩ := hl1 l hl
      exact hl2 l' hl'
theorem isBox.mono (x : Ext S μ h w S' μ' h' w') {b : Name} {blk : Nat} (hb : isBox h μ b blk) : isBox h' μ' b blk := by
  obtain ⟨⟨T, cs, h1⟩ | ⟨s, h1⟩, h2⟩ := hb
  · obtain ⟨h3, cs', h4⟩ := x.box b T cs h1
    exact ⟨.inl ⟨T, cs', h4⟩, h3.trans h2⟩
  · obtain ⟨h3, s', h4⟩ := x.bld b s h1
    exact ⟨.inr ⟨s', h4⟩, h3.trans h2⟩
theorem CellRep.mono (x : Ext S μ h w S' μ' h' w') {t : Ty} {c : Cell D} {cs : List Value} (hc : CellRep C w S h μ t c cs) : CellRep C w' S' h' μ' t c cs := by
  cases hc with
  | d t y cs hr => exact .d t y cs (hr.mono x.sub x.kept)
  | own e n g rows g' st v hn hg hv h1 =>
    obtain ⟨r1, g1, s1, h2, hg1, hk1, _⟩ := x.tok n e rows g' st hn
    refine .own e n g r1 g1 s1 v h2 (Nat.le_trans hg hg1) (fun e1 => ?_) h1
    have e2 : g' = g1 := by omega
    rw [(hk1 e2).1]
    exact hv (by omega)
theorem CellsRep.mono (x : Ext S μ h w S' μ' h' w') {ts : List Ty} {c : List (Cell D)} {cs : List Value} (hc : CellsRep C w S h μ ts c cs) : CellsRep C w' S' h' μ' ts c cs := by
  induction hc with
  | nil => exact .nil
  | cons t ts d ds c1 c2 hd hs ih => exact .cons t ts d ds c1 c2 (hd.mono x) ih
theorem CapsRep.mono (x : Ext S μ h w S' μ' h' w') {c : List (Cell D ⊕ Name)} {cs : List Value} (hc : CapsRep C w S h μ c cs) : CapsRep C w' S' h' μ' c cs := by
  induction hc with
  | nil => exact .nil
  | inl c l t v vs hc hl ih => exact .inl c l t v vs (hc.mono x) ih
  | inr b blk l vs hb hl ih => exact .inr b blk l vs (hb.mono x) ih
theorem SVRep.mono (x : Ext S μ h w S' μ' h' w') {c : SV D} {v : Value} (hc : SVRep C w S h μ c v) : SVRep C w' S' h' μ' c v := by
  cases hc with
  | c y t v hc => exact .c y t v (hc.mono x)
  | agg xs ts cs hc => exact .agg xs ts cs (hc.mono x)
  | ref b off blk hb => exact .ref b off blk (hb.mono x)
  | refi b off n e i j blk hb hi => exact .refi b off n e i j blk (hb.mono x) hi
  | ro row e off b o ts cells hs ht hr hl => exact .ro row e off b o ts cells (x.sub b hs) ht (hr.mono x.sub x.kept) fun j u hu => (World.cell?_of_block (a := ⟨b, o + j, none⟩) (x.kept b hs)).trans (hl j u hu)
  | oel n g i off e rows g' st v hn hg hv hp =>
    obtain ⟨r1, g1, s1, h2, hg1, hk1, hl1⟩ := x.tok n e _ g' st hn
    obtain ⟨l', rfl⟩ := hl1 rows rfl
    refine .oel n g i off e l' g1 s1 v h2 (Nat.le_trans hg hg1) (fun e1 => ?_) hp
    have e2 : g' = g1 := by omega
    obtain ⟨m1, k1⟩ := hk1 e2
    obtain ⟨l'', e3, e4⟩ := k1 rows rfl
    injection e3 with e3
    subst e3
    rw [m1, e4]
    exact hv (by omega)
  | nils => exact .nils
  | nilp => exact .nilp
  | clo f caps cv hc => exact .clo f caps cv (hc.mono x)
  | dead v => exact .dead v
theorem SVsRep.mono (x : Ext S μ h w S' μ' h' w') {c : List (SV D)} {cs : List Value} (hc : SVsRep C w S h μ c cs) : SVsRep C w' S' h' μ' c cs := by
  induction hc with
  | nil => exact .nil
  | cons y ys v vs hx hs ih => exact .cons y ys v vs (hx.mono x) ih
theorem TVRep.mono (x : Ext S μ h w S' μ' h' w') {c : TV D} {v : Value} (hc : TVRep C w S h μ c v) : TVRep C w' S' h' μ' c v := by
  cases hc with
  | one y v hx => exact .one y v (hx.mono x)
  | tup xs vs hs => exact .tup xs vs (hs.mono x)
/-- Objects that are not touched. -/
theorem ObjRep.mono (x : Ext S μ h w S' μ' h' w') {o : Obj D} {v : Value} (hb : o.owned = true → ∀ b, Value.blk v = some b → w'.heap[b]? = w.heap[b]?) (ho : ObjRep C w S h μ o v) : ObjRep C w' S' h' μ' o v := by
  cases ho with
  | box T ts cs b cells ht hb' hc => exact .box T ts cs b cells ht ((hb rfl b rfl).trans hb') (hc.mono x)
  | empty e ts g A ht => exact .empty e ts g A ht
  | live e ts rows g v cells ht hr ho =>
    rcases ho.2 with hn | ⟨k, cap, cur, rfl, h1, h2, h3, rest⟩
    · exact .live e ts rows g v cells ht (hr.mono x.sub x.kept) ⟨ho.1, .inl hn⟩
    · by_cases h0 : cap = 0
      · subst h0
        have hr0 : rows = [] := List.eq_nil_of_length_eq_zero (Nat.le_zero.1 h3)
        subst hr0
        exact .empty e ts g _ ht
      · exact .live e ts rows g _ cells ht (hr.mono x.sub x.kept) ⟨ho.1, .inr ⟨k, cap, cur, rfl, h1, (hb rfl k (by simp [Value.blk, h0])).trans h2, h3, rest⟩⟩
  | frozen e rows g v hr => exact .frozen e rows g v (hr.mono x.sub x.kept)
  | gone e rows g v => exact .gone e rows g v
theorem CellRep.len (hC : C.ok) {t : Ty} {c : Cell D} {cs : List Value} (hc : CellRep C w S h μ t c cs) : cs.length = t.size C := by
  cases hc with
  | d t y cs hr => exact hr.len hC
  | own => rfl
theorem CellsRep.len (hC : C.ok) {ts : List Ty} {c : List (Cell D)} {cs : List Value} (hc : CellsRep C w S h μ ts c cs) : cs.length = sizes C ts := by
  induction hc with
  | nil => rfl
  | cons t ts d ds c1 c2 hd hs ih => simp only [List.length_append, hd.len hC, ih, sizes, List.map_cons, List.sum_cons]
theorem CellsRep.lens {ts : List Ty} {c : List (Cell D)} {cs : List Value} (hc : CellsRep C w S h μ ts c cs) : c.length = ts.length := by
  induction hc with
  | nil => rfl
  | cons t ts d ds c1 c2 hd hs ih => simp [ih]
theorem CellRep.one {t : Ty} {c : Cell D} {cs : List Value} (hc : CellRep C w S h μ t c cs) : ∀ u ∈ cs, u.oneCell' = true := by
  cases hc with
  | d t y cs hr => exact hr.one
  | own e n g rows g' st v hn hg hv h1 => intro u hu; rw [List.mem_singleton] at hu; subst hu; exact h1
theorem CellsRep.one {ts : List Ty} {c : List (Cell D)} {cs : List Value} (hc : CellsRep C w S h μ ts c cs) : ∀ u ∈ cs, u.oneCell' = true := by
  induction hc with
  | nil => simp
  | cons t ts d ds c1 c2 hd hs ih =>
    intro u hu
    rcases List.mem_append.1 hu with hu | hu
    · exact hd.one u hu
    · exact ih u hu
theorem CellsRep.append {ts us : List Ty} {c d : List (Cell D)} {cs ds : List Value} (hc : CellsRep C w S h μ ts c cs) (hd : CellsRep C w S h μ us d ds) : CellsRep C w S h μ (ts ++ us) (c ++ d) (cs ++ ds) := by
  induction hc with
  | nil => exact hd
  | cons t ts d ds c1 c2 hd hs ih => rw [List.append_assoc]; exact .cons t _ d _ c1 _ hd ih
theorem CellsRep.split (hC : C.ok) {ts : List Ty} {c : List (Cell D)} {cs : List Value} (hc : CellsRep C w S h μ ts c cs) : ∀ k, k ≤ ts.length →
    CellsRep C w S h μ (ts.take k) (c.take k) (cs.take (offOf C ts k)) ∧ CellsRep C w S h μ (ts.drop k) (c.drop k) (cs.drop (offOf C ts k)) := by
  induction hc with
  | nil => intro k _; simp [offOf, sizes]; exact .nil
  | cons t ts d ds c1 c2 hd hs ih =>
    intro k hk
    cases k with
    | zero => simp [offOf, sizes]; exact ⟨.nil, .cons t ts d ds c1 c2 hd hs⟩
    | succ k =>
      obtain ⟨h1, h2⟩ := ih k (by simpa using hk)
      have hl := hd.len hC
      have e : offOf C (t :: ts) (k + 1) = c1.length + offOf C ts k := by simp [offOf, sizes, hl]
      rw [e]
      simp only [List.take_succ_cons, List.drop_succ_cons]
      rw [List.take_length_add_append, List.drop_length_add_append]
      exact ⟨.cons t _ d _ c1 _ hd h1, h2⟩
theorem slotAt_off {C : Cx} : ∀ {ts : List Ty} {off k : Nat}, slotAt C ts off = some k → off = offOf C ts k ∧ k ≤ ts.length
  | ts, 0, k, h => by
    have : k = 0 := by cases ts <;> simpa [slotAt] using h.symm
    subst this
    simp [offOf, sizes]
  | [], off + 1, k, h => by simp [slotAt] at h
  | t :: ts, off + 1, k, h => by
    simp only [slotAt] at h
    split at h
    · rename_i hle
      rw [Option.map_eq_some_iff] at h
      obtain ⟨j, hj, rfl⟩ := h
      obtain ⟨e, hl⟩ := slotAt_off hj
      refine ⟨?_, by simpa using hl⟩
      have : offOf C (t :: ts) (j + 1) = t.size C + offOf C ts j := by simp [offOf, sizes]
      rw [this, ← e]
      omega
    · cases h
end
end Go.Fw
/- The framework, part 4: the steps that memory takes, one by one. -/
namespace Go.Fw
open Alg

def upd {β : Type} (f : Name → β) (n : Name) (x : β) : Name → β := fun m => if m = n then x else f m
@[simp] theorem upd_same {β : Type} (f : Name → β) (n : Name) (x : β) : upd f n x n = x := by simp [upd]
theorem upd_ne {β : Type} (f : Name → β) {n m : Name} (x : β) (h : m ≠ n) : upd f n x m = f m := by simp [upd, h]
theorem Upd.ap_nil (h : Hp) : Upd.ap [] h = h := rfl
theorem Upd.ap_cons (p : Name × Obj D) (u : Upd D) (h : Hp) : Upd.ap (p :: u) h = Upd.ap u (upd h p.1 (some p.2)) := rfl
theorem Upd.ap_append (u v : Upd D) (h : Hp) : Upd.ap (u ++ v) h = Upd.ap v (Upd.ap u h) := by simp [Upd.ap, List.foldl_append]
theorem Upd.ap_one (n : Name) (o : Obj D) (h : Hp) : Upd.ap [(n, o)] h = upd h n (some o) := rfl

section
variable {C : Cx} {w0 : World} {S0 M0 : Nat → Prop} {w w' : World} {S : Nat → Prop} {h : Hp} {μ : Mu}

theorem ObjRep.lt {o : Obj D} {v : Value} (ho : ObjRep C w S h μ o v) (hw : o.owned = true) : ∀ b, Value.blk v = some b → b < w.heap.size := by
  intro b hb
  cases ho with
  | box T ts cs b' cells ht hb' hc =>
    injection hb with hb; subst hb
    exact (Array.getElem?_eq_some_iff.1 hb').1
  | empty => rw [Value.blk_zero] at hb; cases hb
  | live e ts rows g v cells ht hr ho =>
    rcases ho.2 with ⟨rfl, _⟩ | ⟨k, cap, cur, rfl, h1, h2, rest⟩
    · simp [Value.blk] at hb
    · simp only [Value.blk] at hb
      split at hb
      · cases hb
      · injection hb with hb; subst hb
        exact (Array.getElem?_eq_some_iff.1 h2).1
  | frozen => simp [Obj.owned] at hw
  | gone => simp [Obj.owned] at hw

/-- Whether an object may take another's place at its name. -/
inductive Compat : Option (Obj D) → Value → Obj D → Value → Prop
  | new (v : Value) (o : Obj D) (v' : Value) : Compat none v o v'
  | box (T : Nat) (cs cs' : List (Cell D)) (v : Value) : Compat (some (.box T cs)) v (.box T cs') v
  | bld (s s' : D) (v : Value) : Compat (some (.bld s)) v (.bld s') v
  | same (e : Nat) (rows rows' : List (List D)) (g : Nat) (st st' : Stt) (v : Value) (hl : rows'.length = rows.length) : Compat (some (.tok e (.rows rows) g st)) v (.tok e (.rows rows') g st') v
  | later (e : Nat) (rows rows' : List (List D)) (g g' : Nat) (st st' : Stt) (v v' : Value) (hg : g < g') : Compat (some (.tok e (.rows rows) g st)) v (.tok e (.rows rows') g' st') v'

theorem ext_put (H : RH C w0 S0 M0 S μ h w) (n : Name) (o : Obj D) (v : Value) (hc : Compat (h n) (μ n) o v) (hk : ∀ b, S b → w'.heap[b]? = w.heap[b]?) :
    Ext S μ h w S (upd μ n v) (upd h n (some o)) w' := by
  refine ⟨fun _ h => h, hk, fun m T cs hm => ?_, fun m s hm => ?_, fun m e rows g st hm => ?_⟩
  · by_cases e : m = n
    · subst e
      rw [hm] at hc
      cases hc
      exact ⟨upd_same .., _, upd_same ..⟩
    · exact ⟨upd_ne _ _ e, cs, (upd_ne _ _ e).trans hm⟩
  · by_cases e : m = n
    · subst e
      rw [hm] at hc
      cases hc
      exact ⟨upd_same .., _, upd_same ..⟩
    · exact ⟨upd_ne _ _ e, s, (upd_ne _ _ e).trans hm⟩
  · by_cases e : m = n
    · subst e
      rw [hm] at hc
      cases hc with
      | same e rows rows' g st st' v hl =>
        exact ⟨.rows rows', g, st', by simp, Nat.le_refl _, fun _ => ⟨by simp, fun l hl' => by injection hl' with hl'; subst hl'; exact ⟨rows', rfl, hl⟩⟩, fun l hl' => ⟨rows', rfl⟩⟩
      | later e rows rows' g g' st st' v v' hg =>
        exact ⟨.rows rows', g', st', by simp, by omega, fun _ => by omega, fun l hl' => ⟨rows', rfl⟩⟩
    · exact ⟨rows, g, st, (upd_ne _ _ e).trans hm, Nat.le_refl _, fun _ => ⟨upd_ne _ _ e, fun l hl => ⟨l, hl, rfl⟩⟩, fun l hl => ⟨l, hl⟩⟩

/-- An object is put under a name: new, or in the place of what the name had; memory changes in that name's block alone, and in new ones. -/
theorem RH.put (H : RH C w0 S0 M0 S μ h w) (n : Name) (o : Obj D) (v : Value) (row : Option Nat)
    (hold : ∀ o', h n = some o' → o'.owned = true) (hrow : row = none ∨ ∃ o', h n = some o' ∧ Value.blk (μ n) = row) (hg : w.grownBy w' row)
    (hv : Value.blk v = none ∨ (∃ o', h n = some o' ∧ Value.blk v = Value.blk (μ n)) ∨ ∃ b, Value.blk v = some b ∧ w.heap.size ≤ b)
    (hc : Compat (h n) (μ n) o v) (ho : Ext S μ h w S (upd μ n v) (upd h n (some o)) w' → ObjRep C w' S (upd h n (some o)) (upd μ n v) o v) :
    RH C w0 S0 M0 S (upd μ n v) (upd h n (some o)) w' ∧ Ext S μ h w S (upd μ n v) (upd h n (some o)) w' := by
  have hne : ∀ b, S b → some b ≠ row := by
    intro b hb e
    rcases hrow with rfl | ⟨o', h1, h2⟩
    · cases e
    · exact (H.apart n o' b h1 (hold o' h1) (h2.trans e.symm)).1 hb
  have hk : ∀ b, S b → w'.heap[b]? = w.heap[b]? := fun b hb => hg.block b (H.lt b hb) (hne b hb)
  have X := ext_put H n o v hc hk
  refine ⟨?_, X⟩
  have hO := ho X
  have hbl : ∀ m o', m ≠ n → h m = some o' → o'.owned = true → ∀ b, Value.blk (μ m) = some b → some b ≠ row ∧ b < w.heap.size := by
    intro m o' hm h1 h2 b hb
    refine ⟨fun e => ?_, (H.obj m o' h1).lt h2 b hb⟩
    rcases hrow with rfl | ⟨o'', h3, h4⟩
    · cases e
    · exact H.dist n m o'' o' (Ne.symm hm) h3 h1 (hold o'' h3) h2 b (h4.trans e.symm) hb
  have hvb : ∀ m o', m ≠ n → h m = some o' → o'.owned = true → ∀ b, Value.blk (μ m) = some b → Value.blk v ≠ some b := by
    intro m o' hm h1 h2 b hb e
    rcases hv with hv | ⟨o'', h3, h4⟩ | ⟨b', h3, h4⟩
    · rw [hv] at e; cases e
    · exact H.dist n m o'' o' (Ne.symm hm) h3 h1 (hold o'' h3) h2 b (h4.symm.trans e) hb
    · rw [h3] at e
      injection e with e
      have := (H.obj m o' h1).lt h2 b hb
      omega
  refine ⟨fun m o' hm => ?_, fun m1 m2 o1 o2 hn12 h1 h2 w1 w2 b hb1 hb2 => ?_, fun m o' b hm hw hb => ?_, fun b hb => Nat.lt_of_lt_of_le (H.lt b hb) hg.size, H.new, H.old, Nat.le_trans H.size hg.size,
    fun b hb hm => ?_, hg.os.trans H.os, hg.tape.trans H.tape, hg.output.trans H.output⟩
  · by_cases e : m = n
    · subst e
      rw [upd_same] at hm ⊢
      injection hm with hm
      subst hm
      exact hO
    · rw [upd_ne _ _ e] at hm ⊢
      refine (H.obj m o' hm).mono X fun hw b hb => ?_
      obtain ⟨h1, h2⟩ := hbl m o' e hm hw b hb
      exact hg.block b h2 h1
  · by_cases e1 : m1 = n
    · have e2 : m2 ≠ n := fun e => hn12 (e1.trans e.symm)
      rw [e1, upd_same] at hb1
      rw [upd_ne _ _ e2] at h2 hb2
      exact hvb m2 o2 e2 h2 w2 b hb2 hb1
    · rw [upd_ne _ _ e1] at h1 hb1
      by_cases e2 : m2 = n
      · rw [e2, upd_same] at hb2
        exact hvb m1 o1 e1 h1 w1 b hb1 hb2
      · rw [upd_ne _ _ e2] at h2 hb2
        exact H.dist m1 m2 o1 o2 hn12 h1 h2 w1 w2 b hb1 hb2
  · by_cases e : m = n
    · subst e
      rw [upd_same] at hb
      rcases hv with hv | ⟨o'', h3, h4⟩ | ⟨b', h3, h4⟩
      · rw [hv] at hb; cases hb
      · exact H.apart m o'' b h3 (hold o'' h3) (h4.symm.trans hb)
      · rw [h3] at hb
        injection hb with hb
        subst hb
        refine ⟨fun hs => ?_, .inl (Nat.le_trans H.size h4)⟩
        have := H.lt _ hs
        omega
    · rw [upd_ne _ _ e] at hm hb
      exact H.apart m o' b hm hw hb
  · rw [hg.block b (Nat.lt_of_lt_of_le hb H.size) ?_]
    · exact H.keep b hb hm
    · intro e
      rcases hrow with rfl | ⟨o', h1, h2⟩
      · cases e
      · rcases (H.apart n o' b h1 (hold o' h1) (h2.trans e.symm)).2 with h3 | h3
        · omega
        · exact hm h3

/-- A row that is handed on for good: from now on it may not change. -/
theorem RH.freeze (H : RH C w0 S0 M0 S μ h w) {n : Name} {e : Nat} {rows : D} {g : Nat} (hn : h n = some (.tok e rows g .live)) :
    ∃ S', RH C w0 S0 M0 S' μ (upd h n (some (.tok e rows g .frozen))) w ∧ Ext S μ h w S' μ (upd h n (some (.tok e rows g .frozen))) w ∧ Rep C w S' (.sl e) rows [μ n] := by
  have hO := H.obj n _ hn
  generalize hv : μ n = v at hO
  let S' : Nat → Prop := fun b => S b ∨ Value.blk (μ n) = some b
  have hsub : ∀ b, S b → S' b := fun b hb => .inl hb
  have hD : ∃ rows', rows = .rows rows' ∧ Rep C w S' (.sl e) (.rows rows') [μ n] := by
   cases hO with
   | empty e ts g A ht => exact ⟨[], rfl, by rw [hv]; exact .nil e A 0⟩
   | live e ts rows g v cells ht hr ho =>
    refine ⟨rows, rfl, ?_⟩
    rcases ho.2 with ⟨e1, e2⟩ | ⟨k, cap, cur, e1, h1, h2, h3, h4, h5, h6⟩
    · have : rows = [] := List.eq_nil_of_length_eq_zero e2
      rw [hv, e1, this]
      exact .nil e none 0
    · rw [hv, e1]
      by_cases h0 : rows = []
      · subst h0; exact .nil e _ _
      · have hc0 : cap ≠ 0 := fun hc => h0 (List.eq_nil_of_length_eq_zero (Nat.le_zero.1 (hc ▸ h3)))
        refine .sl e ts rows k 0 cap cells ht (.inr (by rw [hv, e1]; simp [Value.blk, hc0])) h0 h3 (hr.mono hsub fun _ _ => rfl) fun j u hu => ?_
        have := ho.cells (g := k) (by rw [e1]; rfl) j u hu
        rwa [Addr.add_lit] at this
  obtain ⟨rows, rfl, hrep⟩ := hD
  clear hO
  have X : Ext S μ h w S' μ (upd h n (some (.tok e (.rows rows) g .frozen))) w := by
    have := ext_put (w' := w) H n (.tok e (.rows rows) g .frozen) (μ n) (by rw [hn]; exact .same e rows rows g _ _ _ rfl) fun _ _ => rfl
    have e1 : upd μ n (μ n) = μ := by funext m; unfold upd; split <;> simp_all
    rw [e1] at this
    exact ⟨hsub, this.kept, this.box, this.bld, this.tok⟩
  refine ⟨S', ⟨fun m o hm => ?_, fun m1 m2 o1 o2 hne h1 h2 w1 w2 b hb1 hb2 => ?_, fun m o b hm hw hb => ?_, fun b hb => ?_, fun b hb => ?_, fun b hb => .inl (H.old b hb), H.size, H.keep, H.os, H.tape, H.output⟩, X, hv ▸ hrep⟩
  · by_cases e1 : m = n
    · subst e1
      rw [upd_same] at hm
      injection hm with hm
      subst hm
      exact .frozen e rows g _ hrep
    · rw [upd_ne _ _ e1] at hm
      exact (H.obj m o hm).mono X fun _ _ _ => rfl
  · by_cases e1 : m1 = n
    · subst e1
      rw [upd_same] at h1
      injection h1 with h1
      subst h1
      simp [Obj.owned] at w1
    · by_cases e2 : m2 = n
      · subst e2
        rw [upd_same] at h2
        injection h2 with h2
        subst h2
        simp [Obj.owned] at w2
      · rw [upd_ne _ _ e1] at h1
        rw [upd_ne _ _ e2] at h2
        exact H.dist m1 m2 o1 o2 hne h1 h2 w1 w2 b hb1 hb2
  · by_cases e1 : m = n
    · subst e1
      rw [upd_same] at hm
      injection hm with hm
      subst hm
      simp [Obj.owned] at hw
    · rw [upd_ne _ _ e1] at hm
      obtain ⟨h1, h2⟩ := H.apart m o b hm hw hb
      refine ⟨fun hs => ?_, h2⟩
      rcases hs with hs | hs
      · exact h1 hs
      · exact H.dist m n o _ e1 hm hn hw rfl b hb hs
  · rcases hb with hb | hb
    · exact H.lt b hb
    · exact (H.obj n _ hn).lt rfl b hb
  · rcases hb with hb | hb
    · exact H.new b hb
    · rcases (H.apart n _ b hn rfl hb).2 with h1 | h1
      · exact .inr (.inl h1)
      · exact .inr (.inr h1)

/-- A row that is given away. -/
theorem RH.give (H : RH C w0 S0 M0 S μ h w) {n : Name} {e : Nat} {rows : D} {g : Nat} (hn : h n = some (.tok e rows g .live)) :
    RH C w0 S0 M0 S μ (upd h n (some (.tok e rows g .gone))) w ∧ Ext S μ h w S μ (upd h n (some (.tok e rows g .gone))) w := by
  have hD : ∃ rows', rows = .rows rows' := by
    have hO := H.obj n _ hn
    generalize μ n = v at hO
    cases hO with
    | empty => exact ⟨_, rfl⟩
    | live => exact ⟨_, rfl⟩
  obtain ⟨rows, rfl⟩ := hD
  have X : Ext S μ h w S μ (upd h n (some (.tok e (.rows rows) g .gone))) w := by
    have := ext_put (w' := w) H n (.tok e (.rows rows) g .gone) (μ n) (by rw [hn]; exact .same e rows rows g _ _ _ rfl) fun _ _ => rfl
    have e1 : upd μ n (μ n) = μ := by funext m; unfold upd; split <;> simp_all
    rwa [e1] at this
  refine ⟨⟨fun m o hm => ?_, fun m1 m2 o1 o2 hne h1 h2 w1 w2 b hb1 hb2 => ?_, fun m o b hm hw hb => ?_, H.lt, H.new, H.old, H.size, H.keep, H.os, H.tape, H.output⟩, X⟩
  · by_cases e1 : m = n
    · subst e1
      rw [upd_same] at hm
      injection hm with hm
      subst hm
      exact .gone ..
    · rw [upd_ne _ _ e1] at hm
      exact (H.obj m o hm).mono X fun _ _ _ => rfl
  · by_cases e1 : m1 = n
    · subst e1
      rw [upd_same] at h1
      injection h1 with h1
      subst h1
      simp [Obj.owned] at w1
    · by_cases e2 : m2 = n
      · subst e2
        rw [upd_same] at h2
        injection h2 with h2
        subst h2
        simp [Obj.owned] at w2
      · rw [upd_ne _ _ e1] at h1
        rw [upd_ne _ _ e2] at h2
        exact H.dist m1 m2 o1 o2 hne h1 h2 w1 w2 b hb1 hb2
  · by_cases e1 : m = n
    · subst e1
      rw [upd_same] at hm
      injection hm with hm
      subst hm
      simp [Obj.owned] at hw
    · rw [upd_ne _ _ e1] at hm
      exact H.apart m o b hm hw hb
/-- Memory grows; some of the new blocks may not change from now on. -/
theorem RH.grow (H : RH C w0 S0 M0 S μ h w) (Q : Nat → Prop) (hg : w.grownBy w' none) (hq : ∀ b, Q b → w.heap.size ≤ b ∧ b < w'.heap.size) :
    RH C w0 S0 M0 (fun b => S b ∨ Q b) μ h w' ∧ Ext S μ h w (fun b => S b ∨ Q b) μ h w' := by
  have X : Ext S μ h w (fun b => S b ∨ Q b) μ h w' :=
    ⟨fun b hb => .inl hb, fun b hb => hg.block b (H.lt b hb) (by simp), fun n T cs hn => ⟨rfl, cs, hn⟩, fun n s hn => ⟨rfl, s, hn⟩, fun n e rows g st hn => ⟨rows, g, st, hn, Nat.le_refl _, fun _ => ⟨rfl, fun l hl => ⟨l, hl, rfl⟩⟩, fun l hl => ⟨l, hl⟩⟩⟩
  refine ⟨⟨fun n o hn => (H.obj n o hn).mono X fun hw b hb => hg.block b ((H.obj n o hn).lt hw b hb) (by simp), H.dist, fun n o b hn hw hb => ?_, fun b hb => ?_, fun b hb => ?_, fun b hb => .inl (H.old b hb), Nat.le_trans H.size hg.size,
    fun b hb hm => (hg.block b (Nat.lt_of_lt_of_le hb H.size) (by simp)).trans (H.keep b hb hm), hg.os.trans H.os, hg.tape.trans H.tape, hg.output.trans H.output⟩, X⟩
  · obtain ⟨h1, h2⟩ := H.apart n o b hn hw hb
    refine ⟨fun hs => ?_, h2⟩
    rcases hs with hs | hs
    · exact h1 hs
    · have := (H.obj n o hn).lt hw b hb
      have := (hq b hs).1
      omega
  · rcases hb with hb | hb
    · exact Nat.lt_of_lt_of_le (H.lt b hb) hg.size
    · exact (hq b hb).2
  · rcases hb with hb | hb
    · exact H.new b hb
    · exact .inr (.inl (Nat.le_trans H.size (hq b hb).1))
/-- A nil row, to begin with. -/
theorem RH.nilRow (H : RH C w0 S0 M0 S μ h w) {n : Name} (hn : h n = none) {e : Nat} {ts : List Ty} (ht : C.tab e = some ts) :
    RH C w0 S0 M0 S (upd μ n (.slice none 0 0)) (upd h n (some (.tok e (.rows []) 0 .live))) w ∧ Ext S μ h w S (upd μ n (.slice none 0 0)) (upd h n (some (.tok e (.rows []) 0 .live))) w :=
  H.put n _ _ none (fun o' h' => by rw [hn] at h'; cases h') (.inl rfl) ⟨rfl, rfl, rfl, Nat.le_refl _, fun _ _ _ => rfl⟩ (.inl rfl) (by rw [hn]; exact .new ..)
    fun _ => .live e ts [] 0 _ [] ht (.nil ts) (World.ownsRow_nil ..)
end
end Go.Fw
/- The framework, part 5: the operations that only compute. -/
namespace Go.Fw
open Alg

@[simp] theorem D.toInt_int (n : Int) : (D.int n).toInt = n := rfl
@[simp] theorem D.toBool_bool (b : Bool) : (D.bool b).toBool = b := rfl
@[simp] theorem D.toStr_str (s : List UInt8) : (D.str s).toStr = s := rfl
@[simp] theorem D.toRows_rows (l : List (List D)) : (D.rows l).toRows = l := rfl
/-! ### what ran -/
def Runs {A : Type} (C : Cx) (V : Vt) (h : Hp) (e : Eff D A) (a : A) : Prop := ∃ l, e.run C V h = some (a, l)
section
variable {A B : Type} {C : Cx} {V : Vt} {h : Hp}
theorem run_ebind (x : Eff D A) (f : A → Eff D B) : (Eff.bind x f).run C V h = (x.run C V h).bind fun p => ((f p.1).run C V h).map fun q => (q.1, p.2 ++ q.2) := by
  induction x with
  | pure a => simp only [Eff.bind, Eff.run, Option.bind_some]; cases (f a).run C V h <;> simp
  | fail => rfl
  | guard c k ih => simp only [Eff.bind, Eff.run]; split <;> simp [*]
  | ite c a b iha ihb => simp only [Eff.bind, Eff.run]; split <;> simp [*]
  | get n k ih =>
    simp only [Eff.bind, Eff.run, ih]
    cases (k (h n)).run C V h with
    | none => rfl
    | some p =>
      simp only [Option.map_some, Option.bind_some]
      cases (f p.1).run C V h <;> simp
  | call g xs n k ih =>
    simp only [Eff.bind, Eff.run]
    split
    · split
      · exact ih _
      · rfl
    · rfl
  | callv s g xs n k ih =>
    simp only [Eff.bind]
    cases g <;> simp only [Eff.run] <;> try rfl
    split
    · split
      · split
        · exact ih _
        · rfl
      · rfl
    · rfl
@[simp] theorem Runs.bind (x : Eff D A) (f : A → Eff D B) (b : B) : Runs C V h (x >>= f) b ↔ ∃ a, Runs C V h x a ∧ Runs C V h (f a) b := by
  show Runs C V h (Eff.bind x f) b ↔ _
  unfold Runs
  rw [run_ebind]
  constructor
  · rintro ⟨l, hl⟩
    rw [Option.bind_eq_some_iff] at hl
    obtain ⟨p, h1, h2⟩ := hl
    rw [Option.map_eq_some_iff] at h2
    obtain ⟨q, h3, h4⟩ := h2
    injection h4 with h4 h5
    exact ⟨p.1, ⟨p.2, h1⟩, q.2, by rw [h3, ← h4]⟩
  · rintro ⟨a, ⟨l1, h1⟩, l2, h2⟩
    exact ⟨l1 ++ l2, by rw [h1]; simp [h2]⟩
@[simp] theorem Runs.pure (a b : A) : Runs C V h (Pure.pure a) b ↔ a = b := by
  constructor
  · rintro ⟨l, hl⟩; injection hl with hl; injection hl
  · rintro rfl; exact ⟨[], rfl⟩
@[simp] theorem Runs.pure' (a b : A) : Runs C V h (Eff.pure a) b ↔ a = b := Runs.pure a b
@[simp] theorem Runs.fail (b : A) : Runs C V h (Eff.fail) b ↔ False := by
  constructor
  · rintro ⟨l, hl⟩; cases hl
  · exact False.elim
@[simp] theorem Runs.liftO (o : Option A) (b : A) : Runs C V h (liftO o) b ↔ o = some b := by
  cases o <;> simp [Fw.liftO]
@[simp] theorem Runs.req (b : Bool) (u : Unit) : Runs C V h (req b) u ↔ b = true := by
  cases b <;> simp [Fw.req]
@[simp] theorem Runs.guardE (c : D) (u : Unit) : Runs C V h (guardE c) u ↔ c.toBool = true := by
  unfold Fw.guardE Runs
  simp only [Eff.run]
  split <;> simp [*]
@[simp] theorem Runs.getE (n : Name) (o : Option (Obj D)) : Runs C V h (getE n) o ↔ h n = o := by
  unfold Fw.getE Runs
  simp [Eff.run]
@[simp] theorem Runs.get (n : Name) (k : Option (Obj D) → Eff D A) (b : A) : Runs C V h (.get n k) b ↔ Runs C V h (k (h n)) b := by
  unfold Runs
  simp only [Eff.run]
  constructor
  · rintro ⟨l, hl⟩
    rw [Option.map_eq_some_iff] at hl
    obtain ⟨p, h1, h2⟩ := hl
    injection h2 with h2 h3
    exact ⟨p.2, by rw [h1, ← h2]⟩
  · rintro ⟨l, hl⟩; exact ⟨n :: l, by rw [hl]; rfl⟩
@[simp] theorem Runs.ite (c : D) (x y : Eff D A) (b : A) : Runs C V h (.ite c x y) b ↔ if c.toBool then Runs C V h x b else Runs C V h y b := by
  unfold Runs
  simp only [Eff.run]
  split <;> rfl
theorem Runs.call (f : Nat) (xs : List D) (n : Nat) (k : List D → Eff D A) (b : A) : Runs C V h (.call f xs n k) b ↔ ∃ ys, V f xs = some ys ∧ ys.length = n ∧ Runs C V h (k ys) b := by
  unfold Runs
  rw [Eff.run.eq_6]
  cases V f xs with
  | none => simp
  | some ys =>
    by_cases hn : ys.length = n
    · simp [hn]
    · simp [hn]
theorem Runs.callv (s : Sig) (x : D) (xs : List D) (n : Nat) (k : List D → Eff D A) (b : A) : Runs C V h (.callv s x xs n k) b ↔ ∃ f tys caps ys, x = .fn f tys caps ∧ C.sig f = some { s with params := s.params ++ tys.map fun t => .val false [(t, false)] } ∧ V f (xs ++ caps) = some ys ∧ ys.length = n ∧ Runs C V h (k ys) b := by
  unfold Runs
  cases x with
  | fn f tys caps =>
    rw [Eff.run.eq_7]
    simp only [D.fn.injEq]
    by_cases hs : C.sig f = some { s with params := s.params ++ tys.map fun t => PK.val false [(t, false)] }
    · rw [if_pos (by simpa using hs)]
      cases hV : V f (xs ++ caps) with
      | none =>
        simp only [reduceCtorEq, exists_false, false_iff]
        rintro ⟨f', tys', caps', ys, ⟨rfl, rfl, rfl⟩, _, h3, _⟩
        rw [hV] at h3
        cases h3
      | some ys =>
        by_cases hn : ys.length = n
        · simp only [hn, beq_self_eq_true, if_true]
          constructor
          · rintro ⟨l, hl⟩; exact ⟨f, tys, caps, ys, ⟨rfl, rfl, rfl⟩, hs, hV, hn, l, hl⟩
          · rintro ⟨f', tys', caps', ys', ⟨rfl, rfl, rfl⟩, _, h3, _, h5⟩
            rw [hV] at h3
            injection h3 with h3
            subst h3
            exact h5
        · have hn' : (ys.length == n) = false := by simpa using hn
          simp only [hn', Bool.false_eq_true, if_false, reduceCtorEq, exists_false, false_iff]
          rintro ⟨f', tys', caps', ys', ⟨rfl, rfl, rfl⟩, _, h3, h4, _⟩
          rw [hV] at h3
          injection h3 with h3
          subst h3
          exact hn h4
    · rw [if_neg (by simpa using hs)]
      simp only [reduceCtorEq, exists_false, false_iff]
      rintro ⟨f', tys', caps', ys, ⟨rfl, rfl, rfl⟩, h2, _⟩
      exact hs h2
  | _ => simp [Eff.run]
@[simp] theorem Runs.ret1 (v : SV D) (r : Res D) : Runs C V h (ret1 v) r ↔ (.one v, []) = r := by simp [Fw.ret1]
end

/-! ### values of one kind -/
section
variable {C : Cx} {w0 : World} {S0 M0 : Nat → Prop} {w w' : World} {S S' : Nat → Prop} {h h' : Hp} {μ μ' : Mu}
theorem CellRep.intv {t : Ty} {k : IntKind} {x : D} {cs : List Value} (H : CellRep C w S h μ t (.d (.int k) x) cs) : ∃ n, x = .int n ∧ cs = [.int k n] := by
  cases H with
  | d t y cs hr => cases hr; exact ⟨_, rfl, rfl⟩
theorem SVRep.intv {k : IntKind} {x : D} {v : Value} (H : SVRep C w S h μ (.c (.d (.int k) x)) v) : ∃ n, x = .int n ∧ v = .int k n := by
  cases H with
  | c y t v hc => obtain ⟨n, h1, h2⟩ := hc.intv; injection h2 with h2; exact ⟨n, h1, h2⟩
theorem SVRep.boolv {x : D} {v : Value} (H : SVRep C w S h μ (.c (.d .bool x)) v) : ∃ b, x = .bool b ∧ v = .bool b := by
  cases H with
  | c y t v hc => cases hc with
    | d t y cs hr => cases hr; exact ⟨_, rfl, rfl⟩
theorem SVRep.strv {x : D} {v : Value} (H : SVRep C w S h μ (.c (.d .str x)) v) : ∃ s, x = .str s ∧ v = .string ⟨s.toArray⟩ := by
  cases H with
  | c y t v hc => cases hc with
    | d t y cs hr => cases hr; exact ⟨_, rfl, rfl⟩
theorem SVRep.ofInt (k : IntKind) (n : Int) : SVRep C w S h μ (.c (.d (.int k) (.int n))) (.int k n) := .c _ _ _ (.d _ _ _ (.int k n))
theorem SVRep.ofBool (b : Bool) : SVRep C w S h μ (.c (.d .bool (.bool b))) (.bool b) := .c _ _ _ (.d _ _ _ (.bool b))
theorem SVRep.ofStr (s : List UInt8) : SVRep C w S h μ (.c (.d .str (.str s))) (.string ⟨s.toArray⟩) := .c _ _ _ (.d _ _ _ (.str s))
theorem intOf_some {v : SV D} {k : IntKind} {x : D} (h : intOf v = some (k, x)) : v = .c (.d (.int k) x) := by
  unfold intOf at h
  split at h
  · injection h with h; injection h with h1 h2; subst h1 h2; rfl
  · cases h
theorem boolOf_some {v : SV D} {x : D} (h : boolOf v = some x) : v = .c (.d .bool x) := by
  unfold boolOf at h
  split at h
  · injection h with h; subst h; rfl
  · cases h
theorem strOf_some {v : SV D} {x : D} (h : strOf v = some x) : v = .c (.d .str x) := by
  unfold strOf at h
  split at h
  · injection h with h; subst h; rfl
  · cases h

/-! ### where an operation lands -/
def Lands (C : Cx) (w0 : World) (S0 M0 : Nat → Prop) (S : Nat → Prop) (μ : Mu) (h : Hp) (w : World) (res : Res D) (r : Result Next) : Prop :=
  ∃ v w', (r = .ok (.value v) w' ∨ (r = .ok .skip w' ∧ v = undef)) ∧
    ∃ S' μ', RH C w0 S0 M0 S' μ' (Upd.ap res.2 h) w' ∧ Ext S μ h w S' μ' (Upd.ap res.2 h) w' ∧ TVRep C w' S' (Upd.ap res.2 h) μ' res.1 v
theorem Lands.same (H : RH C w0 S0 M0 S μ h w) {sv : SV D} {v : Value} {r : Result Next} (hr : r = .ok (.value v) w) (hv : SVRep C w S h μ sv v) :
    Lands C w0 S0 M0 S μ h w (.one sv, []) r := ⟨v, w, .inl hr, S, μ, H, .refl, .one _ _ hv⟩
/-- A value that an operation's own code brings. -/
theorem run_val (s : Sem Value) (P : Program) : (do pure (.value (← s)) : Sem Next).run P w = (s.run P w).andThen fun v w' => .ok (.value v) w' := by
  simp
theorem Lands.val (H : RH C w0 S0 M0 S μ h w) {s : Sem Value} {sv : SV D} {v : Value} (hr : s.run C.P w = .ok v w) (hv : SVRep C w S h μ sv v) :
    Lands C w0 S0 M0 S μ h w (.one sv, []) ((do pure (.value (← s)) : Sem Next).run C.P w) := .same H (by rw [run_val, hr]; rfl) hv

/-! ### numbers, truth values, strings -/
theorem toList_mk (s : List UInt8) : (⟨s.toArray⟩ : ByteArray).toList = s := by
  rw [ByteArray.toList_eq]
theorem size_mk (s : List UInt8) : (⟨s.toArray⟩ : ByteArray).size = s.length := rfl
theorem append_mk (s t : List UInt8) : (⟨s.toArray⟩ : ByteArray) ++ ⟨t.toArray⟩ = ⟨(s ++ t).toArray⟩ := by
  apply ByteArray.ext
  simp
theorem bytes_eta (s : ByteArray) : (⟨s.data.toList.toArray⟩ : ByteArray) = s := by cases s; simp
theorem constV_rep {v : Value} {sv : SV D} (hc : constV v = some sv) : SVRep C w S h μ sv v := by
  unfold constV at hc
  split at hc <;> first | (injection hc with hc; subst hc) | cases hc
  · exact .ofInt _ _
  · exact .ofBool _
  · rename_i s
    have := SVRep.ofStr (C := C) (w := w) (S := S) (h := h) (μ := μ) s.data.toList
    rw [bytes_eta] at this
    exact this
  · exact .nils
  · exact .c _ _ _ (.d _ _ _ .nofn)
  · exact .nilp
end
end Go.Fw
/- The framework, part 6: numbers, truth values and strings, operation by operation. -/
namespace Go.Fw
open Alg
section
variable {C : Cx} {w0 : World} {S0 M0 : Nat → Prop} {w w' : World} {S S' : Nat → Prop} {h h' : Hp} {μ μ' : Mu} {V : Vt}

theorem run_und {t : Nat} {d : TypeDesc} (hu : C.P.underlying t = some d) : (underlying t).run C.P w = .ok d w := run_underlying hu w

theorem unOp_sound (H : RH C w0 S0 M0 S μ h w) {op : UnOp} {x : SV D} {vx : Value} {res : Res D} (hx : SVRep C w S h μ x vx) (hr : Runs C V h (unOpV op x) res) :
    Lands C w0 S0 M0 S μ h w res ((do pure (.value (← Op.unary op vx)) : Sem Next).run C.P w) := by
  unfold unOpV at hr
  split at hr
  · rw [Runs.ret1] at hr; subst hr
    obtain ⟨n, rfl, rfl⟩ := hx.intv
    exact .val H (v := .int _ _) rfl (.ofInt _ _)
  · rw [Runs.ret1] at hr; subst hr
    obtain ⟨n, rfl, rfl⟩ := hx.intv
    exact .val H (v := .int _ _) rfl (.ofInt _ _)
  · rw [Runs.ret1] at hr; subst hr
    obtain ⟨b, rfl, rfl⟩ := hx.boolv
    exact .val H (v := .bool _) rfl (.ofBool _)
  · exact ((Runs.fail _).1 hr).elim

theorem run_bin (op : BinOp) (t : Nat) (x y : Operand) (vx vy : Value) (hg : eqGuard op t x y vx vy = pure ()) : (do eqGuard op t x y vx vy; binOp op t vx vy : Sem Value) = binOp op t vx vy := by
  rw [hg]; rfl
theorem boolI (b : Bool) : D.toBool (.bool b) = b := rfl
theorem binOp_int {op : BinOp} {t : Nat} {k k' : IntKind} {a b : Int} {res : Res D} (hr : Runs C V h (binOpV C op t (.c (.d (.int k) (.int a))) (.c (.d (.int k') (.int b)))) res) :
    ∃ sv v, res = (.one sv, []) ∧ (binOp op t (.int k a) (.int k' b)).run C.P w = .ok v w ∧ SVRep C w S h μ sv v := by
  unfold binOpV at hr
  cases op
  case shl =>
    simp only [Runs.bind, Runs.guardE, Runs.ret1, exists_const] at hr
    obtain ⟨hb, rfl⟩ := hr
    have hb : 0 ≤ b := of_decide_eq_true hb
    refine ⟨_, .int k (k.wrap (a * 2 ^ (Nat.min b.toNat k.bits))), rfl, ?_, .ofInt _ _⟩
    show (Op.shift .shl k a k' b).run C.P w = _
    unfold Op.shift
    rw [if_neg (by omega)]
    rfl
  case shr =>
    simp only [Runs.bind, Runs.guardE, Runs.ret1, exists_const] at hr
    obtain ⟨hb, rfl⟩ := hr
    have hb : 0 ≤ b := of_decide_eq_true hb
    refine ⟨_, .int k (a.fdiv (2 ^ (Nat.min b.toNat k.bits))), rfl, ?_, .ofInt _ _⟩
    show (Op.shift .shr k a k' b).run C.P w = _
    unfold Op.shift
    rw [if_neg (by omega)]
    rfl
  all_goals
    simp only [Runs.bind, Runs.req, exists_const, beq_iff_eq] at hr
    obtain ⟨rfl, hr⟩ := hr
  case quo =>
    simp only [Runs.bind, Runs.guardE, Runs.ret1, exists_const] at hr
    obtain ⟨hb, rfl⟩ := hr
    have hb : b ≠ 0 := by simpa [f2, F2.den, ilit, lit, Lt.den, D.toInt, D.toBool, bne_iff_ne] using hb
    refine ⟨_, .int k (k.wrap (a.tdiv b)), rfl, ?_, .ofInt _ _⟩
    rw [binOp_quo]
    unfold Op.intDiv
    rw [if_neg hb]
    rfl
  case rem =>
    simp only [Runs.bind, Runs.guardE, Runs.ret1, exists_const] at hr
    obtain ⟨hb, rfl⟩ := hr
    have hb : b ≠ 0 := by simpa [f2, F2.den, ilit, lit, Lt.den, D.toInt, D.toBool, bne_iff_ne] using hb
    refine ⟨_, .int k (a.tmod b), rfl, ?_, .ofInt _ _⟩
    rw [binOp_rem]
    unfold Op.intDiv
    rw [if_neg hb]
    rfl
  all_goals
    rw [Runs.ret1] at hr; subst hr
  case add => exact ⟨_, _, rfl, by rw [binOp_add]; rfl, .ofInt k _⟩
  case sub => exact ⟨_, _, rfl, by rw [binOp_sub]; rfl, .ofInt k _⟩
  case mul => exact ⟨_, _, rfl, by rw [binOp_mul]; rfl, .ofInt k _⟩
  case and => exact ⟨_, _, rfl, by rw [binOp_and]; rfl, .ofInt k _⟩
  case or => exact ⟨_, _, rfl, by rw [binOp_or]; rfl, .ofInt k _⟩
  case xor => exact ⟨_, _, rfl, by rw [binOp_xor]; rfl, .ofInt k _⟩
  case andNot => exact ⟨_, _, rfl, by rw [binOp_andNot]; rfl, .ofInt k _⟩
  case eql => exact ⟨_, _, rfl, by rw [binOp_eql]; rfl, .ofBool _⟩
  case neq => exact ⟨_, _, rfl, by rw [binOp_neq]; rfl, .ofBool _⟩
  case lss => exact ⟨_, _, rfl, by rw [binOp_lss]; rfl, .ofBool _⟩
  case leq => exact ⟨_, _, rfl, by rw [binOp_leq]; rfl, .ofBool _⟩
  case gtr => exact ⟨_, _, rfl, by rw [binOp_gtr]; rfl, .ofBool _⟩
  case geq => exact ⟨_, _, rfl, by rw [binOp_geq]; rfl, .ofBool _⟩
theorem i64max : IntKind.i64.max = 9223372036854775807 := by decide
theorem binOp_str {op : BinOp} {t : Nat} {a b : List UInt8} {res : Res D} (hr : Runs C V h (binOpV C op t (.c (.d .str (.str a))) (.c (.d .str (.str b)))) res) :
    ∃ sv v, res = (.one sv, []) ∧ (binOp op t (.string ⟨a.toArray⟩) (.string ⟨b.toArray⟩)).run C.P w = .ok v w ∧ SVRep C w S h μ sv v := by
  unfold binOpV at hr
  have e : ∀ op, binOp op t (.string ⟨a.toArray⟩) (.string ⟨b.toArray⟩) = Op.stringOp op ⟨a.toArray⟩ ⟨b.toArray⟩ := fun op => by cases op <;> rfl
  rw [e]
  unfold Op.stringOp
  simp only [toList_mk, size_mk, append_mk]
  cases op
  case add =>
    simp only [Runs.bind, Runs.guardE, Runs.ret1, exists_const] at hr
    obtain ⟨h1, h2, h3, rfl⟩ := hr
    have h2 : (a.length : Int) ≤ 140737488355328 := of_decide_eq_true h2
    have h3 : (b.length : Int) ≤ 140737488355328 := of_decide_eq_true h3
    refine ⟨_, .string ⟨(a ++ b).toArray⟩, rfl, ?_, .ofStr _⟩
    dsimp only
    rw [i64max, if_neg (by omega)]
    rfl
  case eql => rw [Runs.ret1] at hr; subst hr; exact ⟨_, _, rfl, rfl, .ofBool _⟩
  case neq => rw [Runs.ret1] at hr; subst hr; exact ⟨_, _, rfl, rfl, .ofBool _⟩
  case lss => rw [Runs.ret1] at hr; subst hr; exact ⟨_, _, rfl, rfl, .ofBool _⟩
  case leq => rw [Runs.ret1] at hr; subst hr; exact ⟨_, _, rfl, rfl, .ofBool _⟩
  case gtr => rw [Runs.ret1] at hr; subst hr; exact ⟨_, _, rfl, rfl, .ofBool _⟩
  case geq => rw [Runs.ret1] at hr; subst hr; exact ⟨_, _, rfl, rfl, .ofBool _⟩
  all_goals exact ((Runs.fail _).1 hr).elim
theorem binOp_bool {op : BinOp} {t : Nat} {a b : Bool} {res : Res D} (hr : Runs C V h (binOpV C op t (.c (.d .bool (.bool a))) (.c (.d .bool (.bool b)))) res) :
    ∃ sv v, res = (.one sv, []) ∧ (binOp op t (.bool a) (.bool b)).run C.P w = .ok v w ∧ SVRep C w S h μ sv v := by
  unfold binOpV at hr
  simp only [Runs.bind, Runs.req, exists_const] at hr
  obtain ⟨ht, hr⟩ := hr
  have ht : C.P.underlying t = some .bool := by
    split at ht
    · assumption
    · cases ht
  cases op
  case eql => simp only [Runs.ret1] at hr; subst hr; exact ⟨_, _, rfl, run_eql_bool w t a b ht, .ofBool _⟩
  case neq => simp only [Runs.ret1] at hr; subst hr; exact ⟨_, _, rfl, run_neq_bool w t a b ht, .ofBool _⟩
  all_goals exact ((Runs.fail _).1 hr).elim
theorem constIdx {i : Nat} {k : IntKind} {x : D} {v : Value} (hx : SVRep C w S h μ (.c (.d (.int k) x)) v) : ∃ n, x = .int n ∧ v = .int k n := hx.intv
theorem convert_sound_int (H : RH C w0 S0 M0 S μ h w) {s t : Nat} {k : IntKind} {k' : IntKind} {x : D} {vx : Value} (hs : (C.P.underlying s).isSome = true) (ht : C.P.underlying t = some (.int k)) (hx : SVRep C w S h μ (.c (.d (.int k') x)) vx) :
    Lands C w0 S0 M0 S μ h w (.one (vI k (f1 (.conv k) x)), []) ((do pure (.value (← convert s t vx)) : Sem Next).run C.P w) := by
  obtain ⟨n, rfl, rfl⟩ := hx.intv
  obtain ⟨d, hd⟩ := Option.isSome_iff_exists.1 hs
  refine .val H (v := .int k (k.wrap n)) ?_ (.ofInt _ _)
  simp [convert, run_underlying hd, run_underlying ht, Conv.intToInt]
end
end Go.Fw
/- The framework, part 7: loads, fields, indexes. -/
namespace Go.Fw
open Alg
section
variable {C : Cx} {w0 : World} {S0 M0 : Nat → Prop} {w w' : World} {S S' : Nat → Prop} {h h' : Hp} {μ μ' : Mu} {V : Vt}

theorem Cx.ok.und (hC : C.ok) {t : Nat} {ts : List Ty} (ht : C.tab t = some ts) : ∃ d, C.P.underlying t = some d := Option.isSome_iff_exists.1 (hC t ts ht).2.2.1
theorem Cx.ok.info (hC : C.ok) {t : Nat} {ts : List Ty} (ht : C.tab t = some ts) : ∃ i, C.P.info? t = some i ∧ i.size = sizes C ts := by
  obtain ⟨i, hi⟩ := Option.isSome_iff_exists.1 (hC t ts ht).2.1
  refine ⟨i, hi, ?_⟩
  rw [(hC t ts ht).1]
  simp [Program.cellsOf, hi]
theorem run_sizeOf (hC : C.ok) {t : Nat} {ts : List Ty} (ht : C.tab t = some ts) : (sizeOf t).run C.P w = .ok (sizes C ts) w := by
  obtain ⟨i, hi, e⟩ := hC.info ht
  simp [sizeOf, typeInfo, hi, e]
theorem run_isAgg (hC : C.ok) {t : Nat} {ts : List Ty} (ht : C.tab t = some ts) : (isAgg t).run C.P w = .ok (C.isAgg t) w := by
  obtain ⟨d, hd⟩ := hC.und ht
  unfold isAgg Cx.isAgg
  simp only [hd, Sem.run_bind, run_underlying hd, Result.andThen_ok]
  cases d <;> rfl

theorem CellsRep.sub (hC : C.ok) {TS ts : List Ty} {cs : List (Cell D)} {cells : List Value} (H : CellsRep C w S h μ TS cs cells) {k : Nat}
    (h1 : (TS.drop k).take ts.length = ts) (h2 : k + ts.length ≤ TS.length) : CellsRep C w S h μ ts ((cs.drop k).take ts.length) ((cells.drop (offOf C TS k)).take (sizes C ts)) := by
  have a := (H.split hC k (by omega)).2
  have b := (a.split hC ts.length (by simp; omega)).1
  have e : offOf C (TS.drop k) ts.length = sizes C ts := by rw [offOf, h1]
  rwa [h1, e] at b
theorem RepRow.sub (hC : C.ok) {TS ts : List Ty} {cs : List D} {cells : List Value} (H : RepRow C w S TS cs cells) {k : Nat}
    (h1 : (TS.drop k).take ts.length = ts) (h2 : k + ts.length ≤ TS.length) : RepRow C w S ts ((cs.drop k).take ts.length) ((cells.drop (offOf C TS k)).take (sizes C ts)) := by
  have a := (H.split hC k (by omega)).2
  have b := (a.split hC ts.length (by simp; omega)).1
  have e : offOf C (TS.drop k) ts.length = sizes C ts := by rw [offOf, h1]
  rwa [h1, e] at b
theorem RepRow.cells {ts : List Ty} {row : List D} {cells : List Value} (H : RepRow C w S ts row cells) : CellsRep C w S h μ ts (dCells ts row) cells := by
  induction ts generalizing row cells with
  | nil => cases H; exact .nil
  | cons t ts ih =>
    cases H with
    | cons _ _ d ds c1 c2 hd hs => exact .cons t ts _ _ c1 c2 (.d t d c1 hd) (ih hs)
/-- Some cells of a row, one by one. -/
theorem rowPart (row : List D) (m n : Nat) (hl : m + n ≤ row.length) : (List.range n).map (fun q => (f1 (.cell (m + q)) (.rows [row]) : D)) = (row.drop m).take n := by
  apply List.ext_getElem
  · simp; omega
  · intro i h1 h2
    simp only [List.length_map, List.length_range] at h1
    simp [f1, F1.den, D.row1, D.toRows, List.getElem?_eq_getElem (show m + i < row.length by omega)]

theorem valOf_rep (hC : C.ok) {t : Nat} {ts : List Ty} (ht : C.tab t = some ts) {cs : List (Cell D)} {cells : List Value} (H : CellsRep C w S h μ ts cs cells) {sv : SV D} (hv : valOf C t cs = some sv)
    {b o : Nat} (hl : ∀ j u, cells[j]? = some u → w.cell? ⟨b, o + j, none⟩ = some u) : ∃ v, (loadVar t ⟨b, o, none⟩).run C.P w = .ok v w ∧ SVRep C w S h μ sv v := by
  have hlen := H.len hC
  have hl' : ∀ j u, cells[j]? = some u → w.cell? ((⟨b, o, none⟩ : Addr).add j) = some u := fun j u hu => by rw [Addr.add_lit]; exact hl j u hu
  unfold valOf at hv
  unfold loadVar
  simp only [Sem.run_bind, run_isAgg hC ht, Result.andThen_ok]
  split at hv
  · rename_i ha
    injection hv with hv
    subst hv
    refine ⟨.agg cells.toArray, ?_, .agg _ ts _ H⟩
    simp only [ha, if_true]
    simp only [Sem.run_bind, run_sizeOf hC ht, Result.andThen_ok, ← hlen]
    rw [run_loadCells_list (P := C.P) (w := w) ⟨b, o, none⟩ cells hl']
    rfl
  · rename_i ha
    split at hv
    · injection hv with hv
      subst hv
      cases H with
      | cons t' ts' d ds c1 c2 hd hs =>
        have hs' := hs.lens
        cases hs with
        | nil =>
          rw [List.append_nil] at hl
          have h1 : c1.length = 1 := by
            rcases (hC t _ ht).2.2.2 with h2 | h2
            · exact absurd h2 ha
            · rw [List.append_nil] at hlen; rw [hlen, h2]
          obtain ⟨u, rfl⟩ := List.length_eq_one_iff.1 h1
          refine ⟨u, ?_, .c _ _ _ hd⟩
          have h3 := hl 0 u rfl
          rw [Nat.add_zero] at h3
          simp [ha, h3]
    · cases hv
theorem opt_beq {α : Type} [BEq α] [LawfulBEq α] {a b : α} (h : (a == b) = true) : a = b := eq_of_beq h
theorem box_known (H : RH C w0 S0 M0 S μ h w) {b : Name} {blk T : Nat} {cs : List (Cell D)} (hb : isBox h μ b blk) (hn : h b = some (.box T cs)) :
    ∃ ts cells, C.tab T = some ts ∧ w.heap[blk]? = some (.cells cells.toArray T (0, 0)) ∧ CellsRep C w S h μ ts cs cells := by
  have hO := H.obj b _ hn
  rw [hb.2] at hO
  cases hO with
  | box T ts cs b' cells ht hb' hc => exact ⟨ts, cells, ht, hb', hc⟩
theorem tok_known (H : RH C w0 S0 M0 S μ h w) {n : Name} {e g : Nat} {rows : D} {st : Stt} (hn : h n = some (.tok e rows g st)) (hs : st ≠ .gone) :
    ∃ l A c, rows = .rows l ∧ μ n = .slice A l.length c ∧ l.length ≤ c ∧ (l ≠ [] → ∃ ts cells b o, C.tab e = some ts ∧ A = some ⟨b, o, none⟩ ∧ RepRows C w S ts l cells ∧ (st = .live → o = 0) ∧ (∀ j u, cells[j]? = some u → w.cell? ⟨b, o + j, none⟩ = some u)) := by
  have hO := H.obj n _ hn
  generalize hv : μ n = v at hO
  cases hO with
  | empty e ts g A ht => exact ⟨[], A, 0, rfl, rfl, Nat.le_refl _, fun h => absurd rfl h⟩
  | live e ts l g v cells ht hr ho =>
    rcases ho.2 with ⟨e1, e2⟩ | ⟨k, cap, cur, e1, h1, h2, h3, h4, h5, h6⟩
    · have : l = [] := List.eq_nil_of_length_eq_zero e2
      subst this
      exact ⟨[], none, 0, rfl, by rw [e1]; rfl, Nat.le_refl _, fun h => absurd rfl h⟩
    · refine ⟨l, _, cap, rfl, e1, h3, fun _ => ⟨ts, cells, k, 0, ht, rfl, hr, fun _ => rfl, fun j u hu => ?_⟩⟩
      have := ho.cells (g := k) (by rw [e1]; rfl) j u hu
      rwa [Addr.add_lit] at this
  | frozen e l g v hr =>
    cases hr with
    | nil e A c => exact ⟨[], A, c, rfl, rfl, Nat.zero_le _, fun h => absurd rfl h⟩
    | sl e ts rows b o c cells ht hs' hne hc hr hl => exact ⟨_, _, c, rfl, rfl, hc, fun _ => ⟨ts, cells, b, o, ht, rfl, hr, (fun h => by cases h), hl⟩⟩
  | gone => exact absurd rfl hs
theorem run_loadAt (t : Nat) (a : Addr) : (Instr.loadAt t (.pointer (some a))).run C.P w = (loadVar t a).run C.P w := by
  simp [Instr.loadAt, Instr.sureAddr]
theorem partBeq {ts us : List Ty} {k n : Nat} (h : (((ts.drop k).take us.length == us) && decide (n ≤ ts.length)) = true) : (ts.drop k).take us.length = us ∧ n ≤ ts.length := by
  rw [Bool.and_eq_true, decide_eq_true_eq] at h
  exact ⟨eq_of_beq h.1, h.2⟩
theorem load_core (hC : C.ok) (H : RH C w0 S0 M0 S μ h w) {t : Nat} {sv : SV D} {va : Value} {res : Res D} (ha : SVRep C w S h μ sv va) (hr : Runs C V h (loadV C t sv) res) :
    (∃ a, va = .pointer (some a)) ∧ ∃ sv' v, res = (.one sv', []) ∧ (Instr.loadAt t va).run C.P w = .ok v w ∧ SVRep C w S h μ sv' v := by
  cases ha with
  | ref b off blk hb =>
    simp only [loadV, Runs.bind, Runs.getE] at hr
    obtain ⟨o, hn, hr⟩ := hr
    split at hr
    · rename_i T cs
      simp only [Runs.bind, Runs.liftO, Runs.req, Runs.ret1, exists_const] at hr
      obtain ⟨TS, hT, ts, ht, k, hk, hp, sv', hv, rfl⟩ := hr
      obtain ⟨hp1, hp2⟩ := partBeq hp
      obtain ⟨TS', cells, hT', hblk, hcs⟩ := box_known H hb hn
      rw [hT] at hT'
      injection hT' with hT'
      subst hT'
      obtain ⟨e1, e2⟩ := slotAt_off hk
      obtain ⟨v, h1, h2⟩ := valOf_rep (w := w) (b := blk) (o := off) hC ht (hcs.sub hC hp1 hp2) hv (fun j u hu => by
        rw [List.getElem?_take] at hu
        split at hu
        · rw [List.getElem?_drop, ← e1] at hu
          rw [cell_of_row w blk (off + j) _ T (0, 0) hblk]
          simpa using hu
        · cases hu)
      exact ⟨⟨_, rfl⟩, _, _, rfl, by rw [run_loadAt]; exact h1, h2⟩
    · exact ((Runs.fail _).1 hr).elim
  | refi b off n e i j blk hb hi =>
    simp only [loadV, Runs.bind, Runs.getE] at hr
    obtain ⟨o, hn, hr⟩ := hr
    split at hr
    · rename_i T cs
      simp only [Runs.bind, Runs.liftO, Runs.req, Runs.ret1, exists_const] at hr
      obtain ⟨TS, hT, k, hk, hTk, hr⟩ := hr
      split at hr
      · rename_i ty x hcx
        simp only [Runs.bind, Runs.liftO, Runs.req, Runs.ret1, exists_const] at hr
        obtain ⟨es, he, ts, ht, m, hm, hp, sv', hv, rfl⟩ := hr
        obtain ⟨hp1, hp2⟩ := partBeq hp
        have hTk := eq_of_beq hTk
        obtain ⟨TS', cells, hT', hblk, hcs⟩ := box_known H hb hn
        rw [hT] at hT'
        injection hT' with hT'
        subst hT'
        obtain ⟨e1, e2⟩ := slotAt_off hk
        obtain ⟨e3, e4⟩ := slotAt_off hm
        -- the array's own cells
        have hkl : k < TS.length := (List.getElem?_eq_some_iff.1 hTk).1
        have hone : (TS.drop k).take 1 = [.arr n e] := by
          rw [List.drop_eq_getElem_cons hkl, List.take_succ_cons, List.take_zero, (List.getElem?_eq_some_iff.1 hTk).2]
        have hA := hcs.sub (ts := [.arr n e]) hC hone (by simp; omega)
        have hc1 : (cs.drop k).take [Ty.arr n e].length = [.d ty x] := by
          have hkc := (List.getElem?_eq_some_iff.1 hcx).1
          rw [List.length_singleton, List.drop_eq_getElem_cons hkc, List.take_succ_cons, List.take_zero, (List.getElem?_eq_some_iff.1 hcx).2]
        rw [hc1] at hA
        generalize hcl : (cells.drop (offOf C TS k)).take (sizes C [Ty.arr n e]) = ac at hA
        have hc2 : ∀ p u, ac[p]? = some u → cells[off + p]? = some u := by
          intro p u hpu
          rw [← hcl, List.getElem?_take] at hpu
          split at hpu
          · rwa [List.getElem?_drop, ← e1] at hpu
          · cases hpu
        clear hcl
        cases hA with
        | cons _ _ _ _ c1 c2 hd hs =>
        cases hs with
        | nil =>
        cases hd with
        | d _ _ _ hrep =>
        cases hrep with
        | arr _ _ es' rows _ he' hrl hrows =>
        rw [he] at he'
        injection he' with he'
        subst he'
        have hrow := hrows.get hC i (by omega)
        have hsub := hrow.sub hC hp1 hp2
        have hrl2 := hrow.lens
        have eq1 : (List.map (fun q => (f1 (.cell (m + q)) (f2 .row (.rows rows) (.int i)) : D)) (List.range ts.length)) = ((rows.getD i []).drop m).take ts.length := by
          have : (f2 .row (.rows rows) (.int (i : Int)) : D) = .rows [rows.getD i []] := by simp [f2, F2.den, D.toRows, D.toInt]
          rw [this]
          exact rowPart _ m ts.length (by rw [hrl2]; exact hp2)
        rw [eq1] at hv
        have hsz := hC e es he
        obtain ⟨v, h1, h2⟩ := valOf_rep (w := w) (b := blk) (o := off + i * C.P.cellsOf e + j) hC ht (hsub.cells (h := h) (μ := μ)) hv (fun q u hu => by
          rw [List.getElem?_take] at hu
          split at hu
          · rename_i hq
            rw [List.getElem?_drop, List.getElem?_take] at hu
            split at hu
            · rw [List.getElem?_drop] at hu
              rw [← hsz.1, cell_of_row w blk _ _ T (0, 0) hblk, List.getElem?_toArray]
              rw [List.append_nil] at hc2
              have := hc2 (i * sizes C es + (offOf C es m + q)) u hu
              rw [← e3] at this
              rw [← this]
              congr 1
              omega
            · cases hu
          · cases hu)
        exact ⟨⟨_, rfl⟩, _, _, rfl, by rw [run_loadAt]; exact h1, h2⟩
      · exact ((Runs.fail _).1 hr).elim
    · exact ((Runs.fail _).1 hr).elim
  | ro row e off b o es cells hs he hrow hl =>
    simp only [loadV, Runs.bind, Runs.liftO, Runs.req, Runs.ret1, exists_const] at hr
    obtain ⟨es', he', ts, ht, m, hm, hp, sv', hv, rfl⟩ := hr
    rw [he] at he'
    injection he' with he'
    subst he'
    obtain ⟨hp1, hp2⟩ := partBeq hp
    obtain ⟨e3, e4⟩ := slotAt_off hm
    rw [rowPart _ m ts.length (by rw [hrow.lens]; exact hp2)] at hv
    obtain ⟨v, h1, h2⟩ := valOf_rep (w := w) (b := b) (o := o + off) hC ht ((hrow.sub hC hp1 hp2).cells (h := h) (μ := μ)) hv (fun q u hu => by
      rw [List.getElem?_take] at hu
      split at hu
      · rw [List.getElem?_drop, ← e3] at hu
        rw [Nat.add_assoc]
        exact hl _ _ hu
      · cases hu)
    exact ⟨⟨_, rfl⟩, _, _, rfl, by rw [run_loadAt]; exact h1, h2⟩
  | oel n g i off e rows g' st v hn hg hv hpt =>
    simp only [loadV, Runs.bind, Runs.getE] at hr
    obtain ⟨o, hn', hr⟩ := hr
    rw [hn] at hn'
    subst hn'
    simp only [Runs.bind, Runs.liftO, Runs.req, Runs.ret1, exists_const] at hr
    obtain ⟨hgs, es, he, ts, ht, m, hm, hp, sv', hv', rfl⟩ := hr
    simp only [Bool.and_eq_true, beq_iff_eq, bne_iff_ne, ne_eq] at hgs
    obtain ⟨hgg, hst⟩ := hgs
    obtain ⟨hil, blk, c, hmu, rfl⟩ := hv hgg
    obtain ⟨hp1, hp2⟩ := partBeq hp
    obtain ⟨e3, e4⟩ := slotAt_off hm
    obtain ⟨l, A, c', hl1, hmu', hlc, hl2⟩ := tok_known H hn hst
    injection hl1 with hl1
    subst hl1
    obtain ⟨es', cells, b, o, he', hA, hrows, ho, hcell⟩ := hl2 (by intro h0; rw [h0] at hil; simp at hil)
    rw [hmu] at hmu'
    injection hmu' with hA' _ _
    rw [hA] at hA'
    injection hA' with hA'
    injection hA' with hb' ho' _
    subst hb' ho'
    rw [he] at he'
    injection he' with he'
    subst he'
    have hrow := hrows.get hC i hil
    have eq1 : (List.map (fun q => (f1 (.cell (m + q)) (f2 .row (.rows rows) (.int i)) : D)) (List.range ts.length)) = ((rows.getD i []).drop m).take ts.length := by
      have : (f2 .row (.rows rows) (.int (i : Int)) : D) = .rows [rows.getD i []] := by simp [f2, F2.den, D.toRows, D.toInt]
      rw [this]
      exact rowPart _ m ts.length (by rw [hrow.lens]; exact hp2)
    rw [eq1] at hv'
    have hsz := hC e es he
    obtain ⟨v, h1, h2⟩ := valOf_rep (w := w) (b := blk) (o := i * C.P.cellsOf e + off) hC ht ((hrow.sub hC hp1 hp2).cells (h := h) (μ := μ)) hv' (fun q u hu => by
      rw [List.getElem?_take] at hu
      split at hu
      · rw [List.getElem?_drop, List.getElem?_take] at hu
        split at hu
        · rw [List.getElem?_drop, ← e3] at hu
          rw [← hsz.1]
          have := hcell _ _ hu
          rw [Nat.zero_add] at this
          rw [← this]
          congr 2
          omega
        · cases hu
      · cases hu)
    exact ⟨⟨_, rfl⟩, _, _, rfl, by rw [run_loadAt]; exact h1, h2⟩
  | c => exact ((Runs.fail _).1 hr).elim
  | agg => exact ((Runs.fail _).1 hr).elim
  | nils => exact ((Runs.fail _).1 hr).elim
  | nilp => exact ((Runs.fail _).1 hr).elim
  | clo => exact ((Runs.fail _).1 hr).elim
  | dead => exact ((Runs.fail _).1 hr).elim
theorem load_sound (hC : C.ok) (H : RH C w0 S0 M0 S μ h w) {t : Nat} {sv : SV D} {va : Value} {res : Res D} (ha : SVRep C w S h μ sv va) (hr : Runs C V h (loadV C t sv) res) :
    Lands C w0 S0 M0 S μ h w res ((do pure (.value (← Instr.loadAt t va)) : Sem Next).run C.P w) := by
  obtain ⟨_, sv', v, rfl, h1, h2⟩ := load_core hC H ha hr
  exact .val H h1 h2
end
end Go.Fw
/- The framework, part 8: addresses, indexes, cuts, lengths. -/
namespace Go.Fw
open Alg
section
variable {C : Cx} {w0 : World} {S0 M0 : Nat → Prop} {w w' : World} {S S' : Nat → Prop} {h h' : Hp} {μ μ' : Mu} {V : Vt}

theorem fieldAddr_sound (H : RH C w0 S0 M0 S μ h w) {s f : Nat} {a sv : SV D} {va : Value} (ha : SVRep C w S h μ a va) (hr : fieldAddrV C s f a = some sv) :
    Lands C w0 S0 M0 S μ h w (.one sv, []) ((do pure (.value (← Instr.fieldAt s va f)) : Sem Next).run C.P w) := by
  unfold fieldAddrV at hr
  rw [Option.bind_eq_bind, Option.bind_eq_some_iff] at hr
  obtain ⟨⟨o, ft⟩, hf, hr⟩ := hr
  dsimp only at hr
  split at hr
  · cases hr
  rename_i hne
  have hne : C.P.cellsOf ft ≠ 0 := by simpa using hne
  unfold fieldInfo at hf
  split at hf
  · rename_i fs hu
    rw [Option.map_eq_some_iff] at hf
    obtain ⟨fd, hfd, e⟩ := hf
    injection e with e1 e2
    have key : ∀ b off, (Instr.fieldAt s (.pointer (some ⟨b, off, none⟩)) f).run C.P w = .ok (.pointer (some ⟨b, off + o, none⟩)) w := by
      intro b off
      have hi : ∃ i, C.P.info? ft = some i ∧ i.size ≠ 0 := by
        unfold Program.cellsOf at hne
        cases hi : C.P.info? ft with
        | none => rw [hi] at hne; simp at hne
        | some i => rw [hi] at hne; exact ⟨i, rfl, by simpa using hne⟩
      obtain ⟨i, hi, hi0⟩ := hi
      subst e1 e2
      simp [Instr.fieldAt, run_underlying hu, hfd, Instr.sureAddr, fieldPlace, sizeOf, typeInfo, hi, hi0, Addr.add_lit]
    cases ha with
    | ref b off blk hb =>
      injection hr with hr; subst hr
      exact .val H (key _ _) (.ref b _ blk hb)
    | refi b off n e i j blk hb hi =>
      injection hr with hr; subst hr
      refine .val H (key _ _) ?_
      have := SVRep.refi (C := C) (w := w) (S := S) b off n e i (j + o) blk hb hi
      rwa [← Nat.add_assoc] at this
    | ro row e off b o' ts cells hs ht hr' hl =>
      injection hr with hr; subst hr
      refine .val H (key _ _) ?_
      have := SVRep.ro (h := h) (μ := μ) row e (off + o) b o' ts cells hs ht hr' hl
      rwa [← Nat.add_assoc] at this
    | oel n g i off e rows g' st v hn hg hv hp =>
      injection hr with hr; subst hr
      obtain ⟨ad, rfl⟩ := hp
      by_cases hgg : g = g'
      · obtain ⟨hil, blk, c, hmu, hva⟩ := hv hgg
        injection hva with hva
        injection hva with hva
        subst hva
        refine .val H (key _ _) (.oel n g i (off + o) e rows g' st _ hn hg (fun _ => ⟨hil, blk, c, hmu, ?_⟩) ⟨_, rfl⟩)
        rw [Nat.add_assoc]
      · have hne' : g ≠ g' := hgg
        have : ∃ a', (Instr.fieldAt s (.pointer (some ad)) f).run C.P w = .ok (.pointer (some a')) w := by
          have hi : ∃ i, C.P.info? ft = some i ∧ i.size ≠ 0 := by
            unfold Program.cellsOf at hne
            cases hi : C.P.info? ft with
            | none => rw [hi] at hne; simp at hne
            | some i => rw [hi] at hne; exact ⟨i, rfl, by simpa using hne⟩
          obtain ⟨i, hi, hi0⟩ := hi
          subst e1 e2
          exact ⟨ad.add fd.offset, by simp [Instr.fieldAt, run_underlying hu, hfd, Instr.sureAddr, fieldPlace, sizeOf, typeInfo, hi, hi0]⟩
        obtain ⟨a', ha'⟩ := this
        exact .val H ha' (.oel n g i (off + o) e rows g' st _ hn hg (fun e => absurd e hne') ⟨_, rfl⟩)
    | c => cases hr
    | agg => cases hr
    | nils => cases hr
    | nilp => cases hr
    | clo => cases hr
    | dead => cases hr
  · cases hf

theorem run_part (hC : C.ok) {t : Nat} {ts : List Ty} (ht : C.tab t = some ts) {cs : List (Cell D)} {cells all : List Value} {off : Nat} (H : CellsRep C w S h μ ts cs cells) {sv : SV D} (hv : valOf C t cs = some sv)
    (hl : cells = (all.drop off).take (sizes C ts)) : ∃ v, (part t all.toArray off).run C.P w = .ok v w ∧ SVRep C w S h μ sv v := by
  have hlen := H.len hC
  unfold valOf at hv
  unfold part
  simp only [Sem.run_bind, run_isAgg hC ht, Result.andThen_ok]
  split at hv
  · rename_i ha
    injection hv with hv
    subst hv
    refine ⟨.agg cells.toArray, ?_, .agg _ ts _ H⟩
    simp only [ha, if_true]
    simp only [Sem.run_bind, run_sizeOf hC ht, Result.andThen_ok]
    rw [hl]
    simp [List.extract_toArray, List.extract_eq_take_drop]
  · rename_i ha
    split at hv
    · injection hv with hv
      subst hv
      cases H with
      | cons t' ts' d ds c1 c2 hd hs =>
        cases hs with
        | nil =>
          have h1 : c1.length = 1 := by
            rcases (hC t _ ht).2.2.2 with h2 | h2
            · exact absurd h2 ha
            · rw [List.append_nil] at hlen; rw [hlen, h2]
          obtain ⟨u, rfl⟩ := List.length_eq_one_iff.1 h1
          refine ⟨u, ?_, .c _ _ _ hd⟩
          have h3 : all[off]? = some u := by
            have : ([u] ++ [])[0]? = some u := rfl
            rw [hl, List.getElem?_take] at this
            split at this
            · simpa using this
            · cases this
          simp [ha, h3]
    · cases hv
theorem Rep.fits {t u : Ty} {d : D} {cs : List Value} (hf : fits t u = true) (hr : Rep C w S t d cs) : Rep C w S u d cs := by
  unfold Fw.fits at hf
  rw [Bool.or_eq_true] at hf
  rcases hf with hf | hf
  · rw [eq_of_beq hf] at hr; exact hr
  · split at hf
    · rename_i e e'
      have := eq_of_beq hf
      subst this
      cases hr with
      | nilc e A => exact .nil e A 0
      | slc e ts rows b o cells ht hs hn hr hl => exact .sl e ts rows b o _ cells ht hs hn (Nat.le_refl _) hr hl
    · cases hf
theorem slotOk_sound {t u : Ty} {c c' : Cell D} {cs : List Value} (hc : CellRep C w S h μ u c cs) (hr : Runs C V h (slotOk t c) c') : CellRep C w S h μ t c' cs := by
  cases hc with
  | d u x cs hx =>
    simp only [slotOk] at hr
    split at hr
    · rename_i hf
      rw [Runs.pure'] at hr
      subst hr
      exact .d t x cs (hx.fits hf)
    · exact ((Runs.fail _).1 hr).elim
  | own e n g rows g' st v hn hg hv h1 =>
    simp only [slotOk, Runs.get, hn] at hr
    split at hr
    · rename_i hp
      rw [Runs.pure'] at hr
      subst hr
      simp only [Bool.and_eq_true, beq_iff_eq] at hp
      obtain ⟨⟨hp1, rfl⟩, hp3⟩ := hp
      exact .own e n g rows g' st v hn hg hv h1
    · exact ((Runs.fail _).1 hr).elim
theorem slotsOk_sound : ∀ {ts us : List Ty} {c c' : List (Cell D)} {cs : List Value}, CellsRep C w S h μ us c cs → Runs C V h (slotsOk ts c) c' → CellsRep C w S h μ ts c' cs := by
  intro ts us c c' cs hc
  induction hc generalizing ts c' with
  | nil =>
    intro hr
    cases ts with
    | nil => simp only [slotsOk, Runs.pure'] at hr; subst hr; exact .nil
    | cons t ts => exact ((Runs.fail _).1 hr).elim
  | cons u us d ds c1 c2 hd hs ih =>
    intro hr
    cases ts with
    | nil => exact ((Runs.fail _).1 hr).elim
    | cons t ts =>
      simp only [slotsOk, Runs.bind, Runs.pure] at hr
      obtain ⟨x, h1, xs, h2, rfl⟩ := hr
      exact .cons t ts x xs c1 c2 (slotOk_sound hd h1) (ih h2)
theorem field_sound (hC : C.ok) (H : RH C w0 S0 M0 S μ h w) {s f : Nat} {x : SV D} {res : Res D} {vx : Value} (hx : SVRep C w S h μ x vx) (hr : Runs C V h (fieldV C s f x) res) :
    Lands C w0 S0 M0 S μ h w res ((do pure (.value (← Instr.field s vx f)) : Sem Next).run C.P w) := by
  cases hx with
  | agg xs xts cs hc =>
    simp only [fieldV, Runs.bind, Runs.liftO, Runs.req, Runs.ret1, exists_const] at hr
    obtain ⟨⟨o, ft⟩, hf, ss, hs, ts, ht, k, hk, hp, xs', hx', sv, hv, rfl⟩ := hr
    dsimp only at hk ht hv
    obtain ⟨hp1, hp2⟩ := partBeq hp
    unfold fieldInfo at hf
    split at hf
    · rename_i fs hu
      rw [Option.map_eq_some_iff] at hf
      obtain ⟨fd, hfd, e⟩ := hf
      injection e with e1 e2
      subst e1 e2
      have hc' := slotsOk_sound hc hx'
      obtain ⟨e1, e2⟩ := slotAt_off hk
      obtain ⟨v, h1, h2⟩ := run_part (w := w) (all := cs) (off := fd.offset) hC ht (hc'.sub hC hp1 hp2) hv (by rw [e1])
      refine .val H ?_ h2
      simp only [Instr.field, Sem.run_bind, run_underlying hu, Result.andThen_ok, hfd, asAgg]
      exact h1
    · cases hf
  | c => exact ((Runs.fail _).1 hr).elim
  | ref => exact ((Runs.fail _).1 hr).elim
  | refi => exact ((Runs.fail _).1 hr).elim
  | ro => exact ((Runs.fail _).1 hr).elim
  | oel => exact ((Runs.fail _).1 hr).elim
  | nils => exact ((Runs.fail _).1 hr).elim
  | nilp => exact ((Runs.fail _).1 hr).elim
  | clo => exact ((Runs.fail _).1 hr).elim
  | dead => exact ((Runs.fail _).1 hr).elim
theorem inBounds_iff (i n : D) (u : Unit) : Runs C V h (inBounds i n) u ↔ 0 ≤ i.toInt ∧ i.toInt < n.toInt := by
  simp only [inBounds, Runs.bind, Runs.guardE, exists_const]
  exact ⟨fun ⟨a, b⟩ => ⟨of_decide_eq_true (p := (0 : Int) ≤ i.toInt) a, of_decide_eq_true (p := i.toInt < n.toInt) b⟩, fun ⟨a, b⟩ => ⟨decide_eq_true (p := (0 : Int) ≤ i.toInt) a, decide_eq_true (p := i.toInt < n.toInt) b⟩⟩
theorem tok_val (H : RH C w0 S0 M0 S μ h w) {t : Ty} {n : Name} {g e g' : Nat} {rows : D} {st : Stt} {v : Value} (hc : CellRep C w S h μ t (.own n g) [v]) (hn : h n = some (.tok e rows g' st)) (hg : g = g') :
    v = μ n := by
  generalize hl : [v] = l at hc
  cases hc with
  | own e n g rows g' st v hn' hg' hv h1 =>
    injection hl with hl
    subst hl
    rw [hn] at hn'
    injection hn' with hn'
    injection hn' with _ _ hn' _
    exact hv (by omega)
/-- A slice's data, out of its cell. -/
theorem cellData_sound (H : RH C w0 S0 M0 S μ h w) {c : Cell D} {t : Ty} {v : Value} {b : Bool} {r : Ty × D × Upd D} (hc : CellRep C w S h μ t c [v]) (hr : Runs C V h (cellData b c) r) :
    ∃ S', RH C w0 S0 M0 S' μ (Upd.ap r.2.2 h) w ∧ Ext S μ h w S' μ (Upd.ap r.2.2 h) w ∧ (b = true → r.2.2 = []) ∧
      ((∃ e l A c', r.1 = .sl e ∧ r.2.1 = .rows l ∧ v = .slice A l.length c' ∧ l.length ≤ c' ∧ (l ≠ [] → ∃ ts cells b o, C.tab e = some ts ∧ A = some ⟨b, o, none⟩ ∧ RepRows C w S ts l cells ∧ (∀ j u, cells[j]? = some u → w.cell? ⟨b, o + j, none⟩ = some u))) ∨ (∃ x, c = .d r.1 x)) ∧
      (b = false → Rep C w S' r.1 r.2.1 [v]) ∧ (∀ x, c = .d t x → r = (t, x, [])) := by
  cases c with
  | d t' x =>
    simp only [cellData, Runs.pure'] at hr
    subst hr
    generalize hl : [v] = l at hc
    cases hc with
    | d _ _ _ hx =>
    subst hl
    exact ⟨S, H, .refl, fun _ => rfl, .inr ⟨x, rfl⟩, fun _ => hx, fun y hy => by injection hy with h1 h2; subst h2; rfl⟩
  | own n g =>
    simp only [cellData, Runs.get] at hr
    split at hr
    · rename_i e rows g' st hn
      split at hr
      · rename_i hg
        have hg := eq_of_beq hg
        have hv := tok_val H hc hn hg
        have hte : t = .sl e := by
          generalize hl : [v] = l at hc
          cases hc with
          | own e' n g rows' g'' st' v hn' hg' hv h1 =>
            rw [hn] at hn'
            injection hn' with hn'
            injection hn' with hn' _ _ _
            rw [hn']
        split at hr
        · rw [Runs.pure'] at hr
          obtain ⟨l, A, c', e1, e2, e3, e4⟩ := tok_known H hn (by decide)
          have alt : ∃ e' l A c', Ty.sl e = Ty.sl e' ∧ rows = .rows l ∧ v = .slice A l.length c' ∧ l.length ≤ c' ∧ (l ≠ [] → ∃ ts cells b o, C.tab e' = some ts ∧ A = some ⟨b, o, none⟩ ∧ RepRows C w S ts l cells ∧ (∀ j u, cells[j]? = some u → w.cell? ⟨b, o + j, none⟩ = some u)) :=
            ⟨e, l, A, c', rfl, e1, hv.trans e2, e3, fun hl => by obtain ⟨ts, cells, b, o, a1, a2, a3, a4, a5⟩ := e4 hl; exact ⟨ts, cells, b, o, a1, a2, a3, a5⟩⟩
          cases b with
          | true =>
            subst hr
            exact ⟨S, H, .refl, fun _ => rfl, .inl alt, (fun hb => by cases hb), (fun x hx => by cases hx)⟩
          | false =>
            subst hr
            obtain ⟨S', h1, h2, h3⟩ := H.freeze hn
            subst hg
            refine ⟨S', h1, h2, (fun hb => by cases hb), .inl alt, fun _ => ?_, (fun x hx => by cases hx)⟩
            rw [hv]; exact h3
        · rw [Runs.pure'] at hr
          subst hr
          obtain ⟨l, A, c', e1, e2, e3, e4⟩ := tok_known H hn (by decide)
          refine ⟨S, H, .refl, fun _ => rfl, .inl ⟨e, l, A, c', rfl, e1, hv.trans e2, e3, fun hl => by obtain ⟨ts, cells, b, o, a1, a2, a3, a4, a5⟩ := e4 hl; exact ⟨ts, cells, b, o, a1, a2, a3, a5⟩⟩, fun _ => ?_, (fun x hx => by cases hx)⟩
          have hO := H.obj n _ hn
          rw [← hv] at hO
          cases hO with
          | frozen e l g v hr => exact hr
        · exact ((Runs.fail _).1 hr).elim
      · exact ((Runs.fail _).1 hr).elim
    · exact ((Runs.fail _).1 hr).elim
theorem run_indexAt (hC : C.ok) {t e : Nat} {es : List Ty} (ht : C.P.underlying t = some (.slice e)) (he : C.tab e = some es) (b o len cap : Nat) (k : IntKind) (i : Nat) (hi : i < len) :
    (Instr.indexAt t (.slice (some ⟨b, o, none⟩) len cap) (.int k i)).run C.P w = .ok (.pointer (some ⟨b, o + i * sizes C es, none⟩)) w := by
  have h1 : (0 : Int) ≤ i ∧ (i : Int) < len := by omega
  simp [Instr.indexAt, asIntOf, run_underlying ht, run_sizeOf hC he, h1, hi, Addr.add_lit]
theorem run_indexAtArr (hC : C.ok) {t n e : Nat} {es : List Ty} (ht : C.P.underlying t = some (.array n e)) (he : C.tab e = some es) (b o : Nat) (k : IntKind) (i : Nat) (hi : i < n) :
    (Instr.indexAt t (.pointer (some ⟨b, o, none⟩)) (.int k i)).run C.P w = .ok (.pointer (some ⟨b, o + i * sizes C es, none⟩)) w := by
  have h1 : (0 : Int) ≤ i ∧ (i : Int) < n := by omega
  simp [Instr.indexAt, Instr.sureAddr, asIntOf, run_underlying ht, run_sizeOf hC he, h1, hi, Addr.add_lit]
theorem nat_of {i : Int} {n : Nat} (h : 0 ≤ i ∧ i < n) : ∃ k : Nat, i = k ∧ k < n := ⟨i.toNat, by omega, by omega⟩
theorem rowOf (l : List (List D)) (i : Nat) : (f2 .row (.rows l) (.int i) : D) = .rows [l.getD i []] := by simp [f2, F2.den]
theorem indexAddr_sound (hC : C.ok) (H : RH C w0 S0 M0 S μ h w) {t : Nat} {x : SV D} {i : D} {k : IntKind} {n : Int} {vx : Value} {res : Res D} (hx : SVRep C w S h μ x vx) (hi : i = .int n) (hr : Runs C V h (indexAddrV C t x i) res) :
    Lands C w0 S0 M0 S μ h w res ((do pure (.value (← Instr.indexAt t vx (.int k n))) : Sem Next).run C.P w) := by
  subst hi
  unfold indexAddrV at hr
  split at hr
  · rename_i e hu
    split at hr
    · -- a row of the call's own
      rename_i n' g
      cases hx with
      | c y ty v hc =>
      simp only [Runs.bind, Runs.getE] at hr
      obtain ⟨o, hn, hr⟩ := hr
      split at hr
      · rename_i e' rows g' st
        simp only [Runs.bind, Runs.req, inBounds_iff, exists_const, Bool.and_eq_true, beq_iff_eq, bne_iff_ne, ne_eq] at hr
        obtain ⟨⟨⟨hg, hst⟩, rfl⟩, hb, hr⟩ := hr
        have hv := tok_val H hc hn hg
        obtain ⟨l, A, c', e1, e2, e3, e4⟩ := tok_known H hn hst
        subst e1
        simp only [f1, F1.den, D.toRows_rows, D.toInt_int] at hb
        obtain ⟨j, rfl, hj⟩ := nat_of hb
        obtain ⟨ts, cells, b, o, a1, rfl, a3, a4, a5⟩ := e4 (by intro h0; rw [h0] at hj; simp at hj)
        have hsz := hC e ts a1
        subst hv
        rw [e2]
        split at hr
        · rename_i hl
          subst hl
          rw [Runs.ret1] at hr
          subst hr
          have ho := a4 rfl
          subst ho
          refine .val H (run_indexAt hC hu a1 b 0 _ _ k j hj) (.oel n' g j 0 e l g' _ _ hn (Nat.le_of_eq hg) (fun _ => ⟨hj, b, c', e2, ?_⟩) ⟨_, rfl⟩)
          rw [← hsz.1]; simp
        · rename_i hl
          rw [Runs.ret1] at hr
          subst hr
          have hO := H.obj n' _ hn
          rw [e2] at hO
          cases hO with
          | empty => exact absurd rfl hl
          | live => exact absurd rfl hl
          | gone => exact absurd rfl hst
          | frozen e l' g v hrep =>
            generalize hLL : [Value.slice (some ⟨b, o, none⟩) l.length c'] = LL at hrep
            cases hrep with
            | nil e A c =>
              simp at hj
            | sl e ts' rows b' o' c cells' ht' hs' hne' hc' hr' hl' =>
              injection hLL with hLL
              injection hLL with hA _ _
              injection hA with hA
              injection hA with hb' ho' _
              subst hb' ho'
              rw [a1] at ht'
              injection ht' with ht'
              subst ht'
              rw [rowOf]
              have hrow := hr'.get hC j hj
              refine .val H (run_indexAt hC hu a1 b o _ _ k j hj) ?_
              have := SVRep.ro (h := h) (μ := μ) (l.getD j []) e 0 b (o + j * sizes C ts) ts _ hs' a1 hrow (fun q u hq => by
                rw [List.getElem?_take] at hq
                split at hq
                · rw [List.getElem?_drop] at hq
                  rw [Nat.add_assoc]
                  exact hl' _ _ hq
                · cases hq)
              simpa using this
      · exact ((Runs.fail _).1 hr).elim
    · rename_i ty l
      simp only [Runs.bind, Runs.req, inBounds_iff, exists_const, Runs.ret1, Bool.or_eq_true, beq_iff_eq] at hr
      obtain ⟨hty, hb, rfl⟩ := hr
      cases hx with
      | c y ty' v hc =>
      cases hc with
      | d _ _ _ hrep =>
      have hrep : Rep C w S (.sl e) l [vx] := by
        refine hrep.fits ?_
        rcases hty with rfl | rfl <;> simp [Fw.fits]
      generalize hLL : [vx] = LL at hrep
      cases hrep with
      | nil e A c =>
        simp [f1, F1.den] at hb
        omega
      | sl e ts' rows b' o' c cells' ht' hs' hne' hc' hr' hl' =>
        injection hLL with hLL
        subst hLL
        simp only [f1, F1.den, D.toRows_rows, D.toInt_int] at hb
        obtain ⟨j, rfl, hj⟩ := nat_of hb
        rw [rowOf]
        have hrow := hr'.get hC j hj
        refine .val H (run_indexAt hC hu ht' b' o' _ _ k j hj) ?_
        have := SVRep.ro (h := h) (μ := μ) (rows.getD j []) e 0 b' (o' + j * sizes C ts') ts' _ hs' ht' hrow (fun q u hq => by
          rw [List.getElem?_take] at hq
          split at hq
          · rw [List.getElem?_drop] at hq
            rw [Nat.add_assoc]
            exact hl' _ _ hq
          · cases hq)
        simpa using this
    · exact ((Runs.fail _).1 hr).elim
  · rename_i n' e hu
    split at hr
    · rename_i b off
      simp only [Runs.bind, Runs.req, inBounds_iff, exists_const, Runs.ret1, Runs.liftO] at hr
      obtain ⟨h2, hb, es, he, rfl⟩ := hr
      cases hx with
      | ref b off blk hbox =>
      simp only [ilit, lit, Lt.den, D.toInt_int] at hb
      obtain ⟨j, rfl, hj⟩ := nat_of hb
      refine .val H (run_indexAtArr hC hu he blk off k j hj) ?_
      have := SVRep.refi (C := C) (w := w) (S := S) b off n' e j 0 blk hbox hj
      rw [(hC e es he).1]
      simpa using this
    · rename_i r e' off
      simp only [Runs.bind, Runs.req, inBounds_iff, exists_const, Runs.ret1, Runs.liftO] at hr
      obtain ⟨h2, hb, es, he, q, hq, hp, rfl⟩ := hr
      cases hx with
      | ro row e' off b o ts cells hs ht hrow hl =>
      rw [ht] at he
      injection he with he
      subst he
      have hp := eq_of_beq hp
      simp only [ilit, lit, Lt.den, D.toInt_int] at hb
      obtain ⟨j, rfl, hj⟩ := nat_of hb
      obtain ⟨e1, e2⟩ := slotAt_off hq
      have hql : q < ts.length := (List.getElem?_eq_some_iff.1 hp).1
      have hone : (ts.drop q).take 1 = [.arr n' e] := by
        rw [List.drop_eq_getElem_cons hql, List.take_succ_cons, List.take_zero, (List.getElem?_eq_some_iff.1 hp).2]
      have hA := hrow.sub (ts := [.arr n' e]) hC hone (by simp; omega)
      have hcl : ∀ p u, ((cells.drop (offOf C ts q)).take (sizes C [Ty.arr n' e]))[p]? = some u → w.cell? ⟨b, o + off + p, none⟩ = some u := by
        intro p u hpu
        rw [List.getElem?_take] at hpu
        split at hpu
        · rw [List.getElem?_drop, ← e1] at hpu
          rw [Nat.add_assoc]
          exact hl _ _ hpu
        · cases hpu
      have hql' : q < row.length := by rw [hrow.lens]; exact hql
      have hr1 : (row.drop q).take [Ty.arr n' e].length = [row[q]] := by
        rw [List.length_singleton, List.drop_eq_getElem_cons hql', List.take_succ_cons, List.take_zero]
      have hcell : (f1 (.cell q) (.rows [row]) : D) = row[q] := by simp [f1, F1.den, D.row1, hql']
      rw [hcell]
      rw [hr1] at hA
      generalize (cells.drop (offOf C ts q)).take (sizes C [Ty.arr n' e]) = ac at hA hcl
      generalize row[q] = rq at hA
      cases hA with
      | cons _ _ _ _ c1 c2 hd hs' =>
      cases hs' with
      | nil =>
      cases hd with
      | arr _ _ es' rows _ he' hrl hrows =>
      rw [List.append_nil] at hcl
      rw [rowOf]
      have hrow' := hrows.get hC j (by omega)
      refine .val H (run_indexAtArr hC hu he' b (o + off) k j hj) ?_
      have := SVRep.ro (h := h) (μ := μ) (rows.getD j []) e 0 b (o + off + j * sizes C es') es' _ hs he' hrow' (fun p u hpu => by
        rw [List.getElem?_take] at hpu
        split at hpu
        · rw [List.getElem?_drop] at hpu
          rw [Nat.add_assoc]
          exact hcl _ _ hpu
        · cases hpu)
      simpa using this
    · exact ((Runs.fail _).1 hr).elim
  · exact ((Runs.fail _).1 hr).elim
end
end Go.Fw
/- The framework, part 9: cuts of strings and slices, lengths, conversions, equality of structs. -/
namespace Go.Fw
open Alg
section
variable {C : Cx} {w0 : World} {S0 M0 : Nat → Prop} {w w' : World} {S S' : Nat → Prop} {h h' : Hp} {μ μ' : Mu} {V : Vt}

theorem getElem_mk (s : List UInt8) (i : Nat) : (⟨s.toArray⟩ : ByteArray)[i]? = s[i]? := by
  by_cases hi : i < s.length
  · have h1 : i < (⟨s.toArray⟩ : ByteArray).size := hi
    rw [getElem?_pos _ i h1, List.getElem?_eq_getElem hi]
    rfl
  · have h1 : ¬ i < (⟨s.toArray⟩ : ByteArray).size := hi
    rw [getElem?_neg _ i h1, List.getElem?_eq_none (by omega)]
theorem index_sound (hC : C.ok) (H : RH C w0 S0 M0 S μ h w) {t : Nat} {x : SV D} {i : D} {k : IntKind} {n : Int} {vx : Value} {res : Res D} (hx : SVRep C w S h μ x vx) (hi : i = .int n) (hr : Runs C V h (indexV C t x i) res) :
    Lands C w0 S0 M0 S μ h w res ((do pure (.value (← Instr.index t vx (.int k n))) : Sem Next).run C.P w) := by
  subst hi
  unfold indexV at hr
  split at hr
  · rename_i hu
    simp only [Runs.bind, Runs.liftO, inBounds_iff, exists_const, Runs.ret1] at hr
    obtain ⟨s, hs, hb, rfl⟩ := hr
    rw [strOf_some hs] at hx
    obtain ⟨s, rfl, rfl⟩ := hx.strv
    simp only [f1, F1.den, D.toStr_str, D.toInt_int] at hb
    obtain ⟨j, rfl, hj⟩ := nat_of hb
    refine .val H (v := .int .u8 (s[j]'hj).toNat) ?_ ?_
    · have h0 : (0 : Int) ≤ j := by omega
      simp [Instr.index, asIntOf, run_underlying hu, h0, getElem_mk, List.getElem?_eq_getElem hj]
    · have : (f2 .sidx (.str s) (.int (j : Int)) : D) = .int ((s[j]'hj).toNat : Int) := by simp [f2, F2.den, List.getElem?_eq_getElem hj]
      rw [vI, this]
      exact .ofInt _ _
  · rename_i m e hu
    split at hr
    · rename_i n' e' y
      simp only [Runs.bind, Runs.liftO, Runs.req, inBounds_iff, exists_const, Runs.ret1, Bool.and_eq_true, beq_iff_eq] at hr
      obtain ⟨⟨rfl, rfl⟩, hb, es, he, sv, hv, rfl⟩ := hr
      simp only [ilit, lit, Lt.den, D.toInt_int] at hb
      obtain ⟨j, rfl, hj⟩ := nat_of hb
      cases hx with
      | agg _ ts cs hc =>
      cases hc with
      | cons _ _ _ _ c1 c2 hd hs =>
      cases hs with
      | nil =>
      cases hd with
      | d _ _ _ hrep =>
      cases hrep with
      | arr _ _ es' rows _ he' hrl hrows =>
      rw [he] at he'
      injection he' with he'
      subst he'
      have hrow := hrows.get hC j (by omega)
      rw [rowOf] at hv
      have eq1 : rowCells (.rows [rows.getD j []] : D) es.length = rows.getD j [] := by
        have := rowPart (rows.getD j []) 0 es.length (by rw [hrow.lens]; omega)
        simp only [Nat.zero_add] at this
        rw [rowCells, this, List.drop_zero, List.take_of_length_le (by rw [hrow.lens]; exact Nat.le_refl _)]
      rw [eq1] at hv
      obtain ⟨v, h1, h2⟩ := run_part (w := w) (all := c1 ++ []) (off := j * sizes C es) hC he (hrow.cells (h := h) (μ := μ)) hv (by simp)
      refine .val H ?_ h2
      have h0 : (0 : Int) ≤ j ∧ (j : Int) < m := by omega
      simp only [Instr.index, asIntOf, Sem.run_bind, Sem.run_pure, Result.andThen_ok, run_underlying hu, h0, and_self, if_true, Int.toNat_natCast]
      simp only [run_sizeOf hC he, Sem.run_bind, Result.andThen_ok, true_and, h0.2, if_true]
      exact h1
    · exact ((Runs.fail _).1 hr).elim
  · exact ((Runs.fail _).1 hr).elim

theorem extract_mk (s : List UInt8) (a b : Nat) : (⟨s.toArray⟩ : ByteArray).extract a b = ⟨((s.take b).drop a).toArray⟩ := by
  apply ByteArray.ext
  apply Array.toList_inj.1
  rw [Lib.extract_data, ← List.drop_take]
theorem run_bound (k : IntKind) (i : Int) (y : Nat) (code : BoundsCode) (hi : 0 ≤ i ∧ i ≤ y) : (Instr.sliceBound (.int k i) y code).run C.P w = .ok i.toNat w := by
  simp [Instr.sliceBound, asIntOf, hi]
theorem ileI (a b : D) : (f2 .ile a b : D).toBool = true ↔ a.toInt ≤ b.toInt := by
  show decide (a.toInt ≤ b.toInt) = true ↔ _
  exact decide_eq_true_iff
/-- An operand that may be missing. -/
def OptRep (C : Cx) (w : World) (S : Nat → Prop) (h : Hp) (μ : Mu) (x : Option (SV D)) (v : Option Value) : Prop := match x, v with
  | none, none => True
  | some x, some v => SVRep C w S h μ x v
  | _, _ => False
theorem optInt {x : Option (SV D)} {v : Option Value} {d y : D} (hy : optI d x = some y) (hx : OptRep C w S h μ x v) :
    (v = none ∧ x = none ∧ y = d) ∨ ∃ k n, v = some (.int k n) ∧ y = .int n := by
  cases x with
  | none =>
    cases v with
    | none => exact .inl ⟨rfl, rfl, by injection hy with hy; exact hy.symm⟩
    | some v => exact hx.elim
  | some z =>
    cases v with
    | none => exact hx.elim
    | some v =>
      rw [optI, Option.map_eq_some_iff] at hy
      obtain ⟨⟨k, y'⟩, h1, rfl⟩ := hy
      have hx : SVRep C w S h μ z v := hx
      rw [intOf_some h1] at hx
      obtain ⟨n, e1, rfl⟩ := hx.intv
      exact .inr ⟨k, n, rfl, e1⟩
theorem sliceStr_sound (H : RH C w0 S0 M0 S μ h w) {t : Nat} {x : SV D} {lo hi : Option (SV D)} {vx : Value} {vlo vhi : Option Value} {res : Res D} (hx : SVRep C w S h μ x vx) (hlo : OptRep C w S h μ lo vlo) (hhi : OptRep C w S h μ hi vhi)
    (hu : C.P.underlying t = some .string) (hr : Runs C V h (sliceV C t x lo hi none) res) :
    Lands C w0 S0 M0 S μ h w res ((do pure (.value (← Instr.sliceAt t vx vlo vhi none)) : Sem Next).run C.P w) := by
  unfold sliceV at hr
  simp only [hu, Runs.bind, Runs.liftO, Runs.guardE, exists_const, Runs.ret1] at hr
  obtain ⟨s, hs, hh, hhe, ll, hle, g1, g2, g3, g4, rfl⟩ := hr
  rw [strOf_some hs] at hx
  obtain ⟨s, rfl, rfl⟩ := hx.strv
  simp only [ileI, ilit, lit, Lt.den, D.toInt_int, f1, F1.den, D.toStr_str] at g1 g2 g3 g4
  have hH : ∃ m : Nat, hh.toInt = m ∧ (match vhi with | some v => Instr.sliceBound v s.length .sliceAlen | none => pure s.length).run C.P w = .ok m w := by
    rcases optInt hhe hhi with ⟨rfl, _, e⟩ | ⟨k, n, rfl, e⟩
    · exact ⟨s.length, by rw [e]; rfl, rfl⟩
    · rw [e] at g1 g2 ⊢
      exact ⟨n.toNat, by simp at g1 ⊢; omega, run_bound k n _ _ ⟨g1, g2⟩⟩
  obtain ⟨m, hm, hrun⟩ := hH
  have hL : ∃ l : Nat, ll.toInt = l ∧ (match vlo with | some v => Instr.sliceBound v m .sliceB | none => pure 0).run C.P w = .ok l w := by
    rcases optInt hle hlo with ⟨rfl, _, e⟩ | ⟨k, n, rfl, e⟩
    · exact ⟨0, by rw [e]; rfl, rfl⟩
    · rw [e] at g3 g4 ⊢
      refine ⟨n.toNat, by simp at g3 ⊢; omega, run_bound k n _ _ ⟨g3, ?_⟩⟩
      rw [← hm]; exact g4
  obtain ⟨l, hl, hrun2⟩ := hL
  refine .val H (v := .string ⟨((s.take m).drop l).toArray⟩) ?_ ?_
  · have e1 : ∀ d, (∀ n e, d ≠ TypeDesc.array n e) → C.P.underlying t = some d → (Instr.sliceAt t (.string ⟨s.toArray⟩) vlo vhi none).run C.P w = (Instr.slice t (.string ⟨s.toArray⟩) vlo vhi none).run C.P w := by
      intro d hd hu'
      unfold Instr.sliceAt
      simp only [Sem.run_bind, run_underlying hu', Result.andThen_ok]
    rw [e1 .string (by intro n e; simp) hu]
    unfold Instr.slice Instr.sliceBounds
    simp only [Sem.run_bind, run_underlying hu, Result.andThen_ok, Option.isSome_none, Bool.false_eq_true, if_false, Sem.run_pure, size_mk]
    cases vhi <;> cases vlo <;> simp_all [extract_mk]
  · have : (f3 .ssub (.str s) ll hh : D) = .str ((s.take m).drop l) := by simp [f3, F3.den, hl, hm]
    rw [vS, this]
    exact .ofStr _
end
end Go.Fw
/- The framework, part 10: cuts of slices, lengths, conversions. -/
namespace Go.Fw
open Alg
section
variable {C : Cx} {w0 : World} {S0 M0 : Nat → Prop} {w w' : World} {S S' : Nat → Prop} {h h' : Hp} {μ μ' : Mu} {V : Vt}

/-- A slice that stands for rows: its value's form. -/
theorem Rep.slv {e : Nat} {x : D} {v : Value} (hr : Rep C w S (.sl e) x [v]) : ∃ l A c, x = .rows l ∧ v = .slice A l.length c ∧ l.length ≤ c ∧
    (l ≠ [] → ∃ ts cells b o, C.tab e = some ts ∧ A = some ⟨b, o, none⟩ ∧ S b ∧ RepRows C w S ts l cells ∧ (∀ j u, cells[j]? = some u → w.cell? ⟨b, o + j, none⟩ = some u)) := by
  generalize hl : [v] = l at hr
  cases hr with
  | nil e A c => injection hl with hl; exact ⟨[], A, c, rfl, hl, Nat.zero_le _, fun h => absurd rfl h⟩
  | sl e ts rows b o c cells ht hs hn hc hr hl' => injection hl with hl; exact ⟨rows, _, c, rfl, hl, hc, fun _ => ⟨ts, cells, b, o, ht, rfl, hs, hr, hl'⟩⟩
theorem Rep.ofCut (hC : C.ok) {e l m : Nat} {A : Option Addr} {rows : List (List D)} {c : Nat} (hr : Rep C w S (.sl e) (.rows rows) [.slice A rows.length c]) (hlm : l ≤ m) (hm : m ≤ rows.length) (cc : Nat) (hcc : m - l ≤ cc) (hz : m - l = 0 ∨ cc ≠ 0) {es : List Ty} (he : C.tab e = some es) :
    Rep C w S (.sl e) (.rows ((rows.take m).drop l)) [.slice (if cc = 0 then A else A.map (·.add (l * sizes C es))) (m - l) cc] ∧ (m - l = cc → Rep C w S (.slc e) (.rows ((rows.take m).drop l)) [.slice (if cc = 0 then A else A.map (·.add (l * sizes C es))) (m - l) cc]) := by
  have hlen : ((rows.take m).drop l).length = m - l := by simp; omega
  by_cases h0 : m - l = 0
  · have : (rows.take m).drop l = [] := List.eq_nil_of_length_eq_zero (hlen.trans h0)
    rw [this, h0]
    exact ⟨.nil e _ _, fun hc => by rw [← hc]; exact .nilc e _⟩
  · have hcc0 : cc ≠ 0 := by omega
    rw [if_neg hcc0]
    obtain ⟨l', A', c', e1, e2, e3, e4⟩ := hr.slv
    injection e1 with e1
    subst e1
    injection e2 with e2 _ _
    subst e2
    have hne : rows ≠ [] := by intro h; rw [h] at hm; simp at hm; omega
    obtain ⟨ts, cells, b, o, a1, rfl, a3, a4, a5⟩ := e4 hne
    rw [he] at a1
    injection a1 with a1
    subst a1
    have hne' : (rows.take m).drop l ≠ [] := by intro h; rw [h] at hlen; simp at hlen; omega
    have hr1 := ((a4.take hC m).1.take hC l).2
    have hcl : ∀ j u, ((cells.take (m * sizes C es)).drop (l * sizes C es))[j]? = some u → w.cell? ⟨b, o + l * sizes C es + j, none⟩ = some u := by
      intro j u hu
      rw [List.getElem?_drop, List.getElem?_take] at hu
      split at hu
      · rw [Nat.add_assoc]; exact a5 _ _ hu
      · cases hu
    simp only [Option.map_some, Addr.add_lit]
    refine ⟨?_, fun hc => ?_⟩
    · have := Rep.sl (C := C) (w := w) (S := S) e es _ b (o + l * sizes C es) cc _ he a3 hne' (by rw [hlen]; exact hcc) hr1 hcl
      rwa [hlen] at this
    · have := Rep.slc (C := C) (w := w) (S := S) e es _ b (o + l * sizes C es) _ he a3 hne' hr1 hcl
      rw [hlen] at this
      rw [← hc]; exact this
theorem tab_of_rows {e : Nat} {x : D} {v : Value} (hr : Rep C w S (.sl e) x [v]) : True := trivial

theorem run_sliceAt (t : Nat) (d : TypeDesc) (hu : C.P.underlying t = some d) (hd : ∀ n e, d ≠ TypeDesc.array n e) (v : Value) (lo hi mx : Option Value) :
    (Instr.sliceAt t v lo hi mx).run C.P w = (Instr.slice t v lo hi mx).run C.P w := by
  unfold Instr.sliceAt
  simp only [Sem.run_bind, run_underlying hu, Result.andThen_ok]
theorem sliceSl_sound (hC : C.ok) (H : RH C w0 S0 M0 S μ h w) {t e : Nat} {x : SV D} {lo hi : Option (SV D)} {vx : Value} {vlo vhi : Option Value} {res : Res D} (hx : SVRep C w S h μ x vx) (hlo : OptRep C w S h μ lo vlo) (hhi : OptRep C w S h μ hi vhi)
    (hu : C.P.underlying t = some (.slice e)) {es : List Ty} (he : C.tab e = some es) (hr : Runs C V h (sliceV C t x lo hi none) res) :
    Lands C w0 S0 M0 S μ h w res ((do pure (.value (← Instr.sliceAt t vx vlo vhi none)) : Sem Next).run C.P w) := by
  unfold sliceV at hr
  simp only [hu] at hr
  cases hx with
  | c c ty v hc =>
    simp only [Runs.bind, Runs.liftO, Runs.guardE, exists_const, Runs.req] at hr
    obtain ⟨⟨u, y, up⟩, hcd, hr⟩ := hr
    simp only [Runs.bind, Runs.liftO, Runs.guardE, exists_const, Runs.req, Runs.pure'] at hr
    obtain ⟨hf, hh, hhe, ll, hle, g1, g2, g3, g4, rfl⟩ := hr
    obtain ⟨S1, H1, X1, -, -, hrep, -⟩ := cellData_sound H hc hcd
    have hrep := (hrep rfl).fits hf
    dsimp only at hrep H1 X1
    obtain ⟨l, A, c', rfl, rfl, hlc, -⟩ := hrep.slv
    simp only [ileI, ilit, lit, Lt.den, D.toInt_int, f1, F1.den, D.toRows_rows] at g1 g2 g3 g4
    have hH : ∃ m : Nat, hh.toInt = m ∧ m ≤ l.length ∧ (match vhi with | some v => Instr.sliceBound v c' .sliceAcap | none => pure l.length).run C.P w = .ok m w := by
      rcases optInt hhe hhi with ⟨rfl, _, e⟩ | ⟨k, n, rfl, e⟩
      · exact ⟨l.length, by rw [e]; rfl, Nat.le_refl _, rfl⟩
      · rw [e] at g1 g2 ⊢
        simp only [D.toInt_int] at g1 g2
        exact ⟨n.toNat, by simp; omega, by omega, run_bound k n _ _ ⟨g1, by omega⟩⟩
    obtain ⟨m, hm, hml, hrun⟩ := hH
    have hL : ∃ q : Nat, ll.toInt = q ∧ (match vlo with | some v => Instr.sliceBound v m .sliceB | none => pure 0).run C.P w = .ok q w := by
      rcases optInt hle hlo with ⟨rfl, _, e⟩ | ⟨k, n, rfl, e⟩
      · exact ⟨0, by rw [e]; rfl, rfl⟩
      · rw [e] at g3 g4 ⊢
        refine ⟨n.toNat, by simp at g3 ⊢; omega, run_bound k n _ _ ⟨g3, ?_⟩⟩
        rw [← hm]; exact g4
    obtain ⟨q, hq, hrun2⟩ := hL
    have hqm : q ≤ m := by rw [hm, hq] at g4; omega
    have hcut := (hrep.ofCut hC hqm hml (c' - q) (by omega) (by omega) he).1
    refine ⟨.slice (if c' = q then A else A.map (·.add (q * sizes C es))) (m - q) (c' - q), w, .inl ?_, S1, μ, H1, X1, .one _ _ (.c _ _ _ (.d (.sl e) _ _ ?_))⟩
    · rw [run_val, run_sliceAt t _ hu (by intro n e; simp)]
      unfold Instr.slice Instr.sliceBounds
      simp only [Sem.run_bind, run_underlying hu, Result.andThen_ok, Option.isSome_none, Bool.false_eq_true, if_false, Sem.run_pure, if_true]
      cases vhi <;> cases vlo <;> simp_all [run_sizeOf hC he]
    · have e1 : (f3 .lsub (.rows l) ll hh : D) = .rows ((l.take m).drop q) := by simp [f3, F3.den, hq, hm]
      rw [e1]
      have e2 : (if c' - q = 0 then A else A.map (·.add (q * sizes C es))) = (if c' = q then A else A.map (·.add (q * sizes C es))) := by
        by_cases h0 : c' = q
        · rw [if_pos h0, if_pos (by omega)]
        · rw [if_neg h0, if_neg (by omega)]
      rwa [e2] at hcut
  | _ => exact ((Runs.fail _).1 hr).elim
theorem slice3_sound (hC : C.ok) (H : RH C w0 S0 M0 S μ h w) {t e : Nat} {x m0 : SV D} {lo hi : Option (SV D)} {vx vm : Value} {vlo vhi : Option Value} {res : Res D} (hx : SVRep C w S h μ x vx) (hlo : OptRep C w S h μ lo vlo) (hhi : OptRep C w S h μ hi vhi)
    (hmx : SVRep C w S h μ m0 vm) (hu : C.P.underlying t = some (.slice e)) {es : List Ty} (he : C.tab e = some es) (hr : Runs C V h (sliceV C t x lo hi (some m0)) res) :
    Lands C w0 S0 M0 S μ h w res ((do pure (.value (← Instr.sliceAt t vx vlo vhi (some vm))) : Sem Next).run C.P w) := by
  unfold sliceV at hr
  simp only [hu] at hr
  cases hx with
  | c c ty v hc =>
    simp only [Runs.bind, Runs.liftO, Runs.guardE, exists_const, Runs.req] at hr
    obtain ⟨⟨u, y, up⟩, hcd, hr⟩ := hr
    simp only [Runs.bind, Runs.req, exists_const] at hr
    obtain ⟨hf, hr⟩ := hr
    split at hr
    · rename_i hv
      simp only [Runs.bind, Runs.liftO, Runs.guardE, exists_const, Runs.req, Runs.pure'] at hr
      obtain ⟨⟨kh, hh⟩, hhe, ll, hle, ⟨km, mm⟩, hme, g1, g2, g3, g4, g5, rfl⟩ := hr
      obtain ⟨S1, H1, X1, -, -, hrep, -⟩ := cellData_sound H hc hcd
      have hrep := (hrep rfl).fits hf
      dsimp only at hrep H1 X1 g1 g2 g3 g4 g5
      obtain ⟨l, A, c', rfl, rfl, hlc, -⟩ := hrep.slv
      rw [intOf_some hme] at hmx
      obtain ⟨mi, rfl, rfl⟩ := hmx.intv
      cases vhi with
      | none => exact hhi.elim
      | some vh =>
      have hhi : SVRep C w S h μ hv vh := hhi
      rw [intOf_some hhe] at hhi
      obtain ⟨hi', rfl, rfl⟩ := hhi.intv
      have g5 : mi = hi' := by simpa [f2, F2.den] using g5
      subst g5
      simp only [ileI, ilit, lit, Lt.den, D.toInt_int, f1, F1.den, D.toRows_rows] at g1 g2 g3 g4
      obtain ⟨m, rfl⟩ := Int.eq_ofNat_of_zero_le g1
      have hml : m ≤ l.length := by omega
      have hL : ∃ q : Nat, ll.toInt = q ∧ (match vlo with | some v => Instr.sliceBound v m .slice3C | none => pure 0).run C.P w = .ok q w := by
        rcases optInt hle hlo with ⟨rfl, _, e⟩ | ⟨k, n, rfl, e⟩
        · exact ⟨0, by rw [e]; rfl, rfl⟩
        · rw [e] at g3 g4 ⊢
          refine ⟨n.toNat, by simp at g3 ⊢; omega, run_bound k n _ _ ⟨g3, g4⟩⟩
      obtain ⟨q, hq, hrun2⟩ := hL
      have hqm : q ≤ m := by rw [hq] at g4; omega
      have hcut := (hrep.ofCut hC hqm hml (m - q) (Nat.le_refl _) (by omega) he).2 rfl
      have b1 := run_bound (C := C) (w := w) km (m : Int) c' .slice3Acap ⟨by omega, by omega⟩
      have b2 := run_bound (C := C) (w := w) kh (m : Int) m .slice3B ⟨by omega, by omega⟩
      rw [Int.toNat_natCast] at b1 b2
      refine ⟨.slice (if m = q then A else A.map (·.add (q * sizes C es))) (m - q) (m - q), w, .inl ?_, S1, μ, H1, X1, .one _ _ (.c _ _ _ (.d (.slc e) _ _ ?_))⟩
      · rw [run_val, run_sliceAt t _ hu (by intro n e; simp)]
        unfold Instr.slice Instr.sliceBounds
        simp only [Sem.run_bind, run_underlying hu, Result.andThen_ok, Sem.run_pure, if_true, b1, Option.isSome_some, b2]
        cases vlo <;> simp_all [run_sizeOf hC he]
      · have e1 : (f3 .lsub (.rows l) ll (.int m) : D) = .rows ((l.take m).drop q) := by simp [f3, F3.den, hq]
        rw [e1]
        have e2 : (if m - q = 0 then A else A.map (·.add (q * sizes C es))) = (if m = q then A else A.map (·.add (q * sizes C es))) := by
          by_cases h0 : m = q
          · rw [if_pos h0, if_pos (by omega)]
          · rw [if_neg h0, if_neg (by omega)]
        rwa [e2] at hcut
    · exact ((Runs.fail _).1 hr).elim
  | _ => exact ((Runs.fail _).1 hr).elim
/-- The rows of a slice that is only read. -/
theorem rowsOf_sound (H : RH C w0 S0 M0 S μ h w) {x : SV D} {vx : Value} {r : Nat × D} (hx : SVRep C w S h μ x vx) (hr : Runs C V h (rowsOf x) r) :
    ∃ l A c, r.2 = .rows l ∧ vx = .slice A l.length c ∧ l.length ≤ c ∧ (l ≠ [] → ∃ ts cells b o, C.tab r.1 = some ts ∧ A = some ⟨b, o, none⟩ ∧ RepRows C w S ts l cells ∧ (∀ j u, cells[j]? = some u → w.cell? ⟨b, o + j, none⟩ = some u)) := by
  cases hx with
  | c c ty v hc =>
    simp only [rowsOf, Runs.bind] at hr
    obtain ⟨⟨u, y, up⟩, hcd, hr⟩ := hr
    obtain ⟨S1, H1, X1, -, halt, -, hd⟩ := cellData_sound H hc hcd
    dsimp only at hr halt
    have key : ∀ e, (u = .sl e ∨ u = .slc e) → r = (e, y) → ∃ l A c, r.2 = .rows l ∧ vx = .slice A l.length c ∧ l.length ≤ c ∧ (l ≠ [] → ∃ ts cells b o, C.tab r.1 = some ts ∧ A = some ⟨b, o, none⟩ ∧ RepRows C w S ts l cells ∧ (∀ j u, cells[j]? = some u → w.cell? ⟨b, o + j, none⟩ = some u)) := by
      intro e hu hre
      subst hre
      rcases halt with ⟨e', l, A, c', h1, h2, h3, h4, h5⟩ | ⟨x, hcx⟩
      · subst h1
        have : e' = e := by rcases hu with hu | hu <;> simp at hu; exact hu
        subst this
        exact ⟨l, A, c', h2, h3, h4, h5⟩
      · subst hcx
        have hu' : ty = u := by
          generalize hLL : [vx] = LL at hc
          cases hc with
          | d _ _ _ hx => rfl
        subst hu'
        have := hd x rfl
        injection this with _ this
        injection this with this _
        subst this
        generalize hLL : [vx] = LL at hc
        cases hc with
        | d _ _ _ hx =>
        rw [← hLL] at hx
        have hx : Rep C w S (.sl e) y [vx] := hx.fits (by rcases hu with rfl | rfl <;> simp [Fw.fits])
        obtain ⟨l, A, c', h1, h2, h3, h4⟩ := hx.slv
        exact ⟨l, A, c', h1, h2, h3, fun hl => by obtain ⟨ts, cells, b, o, a1, a2, a3, a4, a5⟩ := h4 hl; exact ⟨ts, cells, b, o, a1, a2, a4, a5⟩⟩
    split at hr
    · rename_i e
      rw [Runs.pure] at hr
      exact key e (.inl rfl) hr.symm
    · rename_i e
      rw [Runs.pure] at hr
      exact key e (.inr rfl) hr.symm
    · exact ((Runs.fail _).1 hr).elim
  | _ => exact ((Runs.fail _).1 hr).elim
theorem len_sound (H : RH C w0 S0 M0 S μ h w) {t : Nat} {ty : TypeId} {x : SV D} {vx : Value} {res : Res D} (hx : SVRep C w S h μ x vx) (hr : Runs C V h (lenV C t x) res) :
    Lands C w0 S0 M0 S μ h w res ((do pure (.value (← Builtin.len_ #[t] ty #[vx])) : Sem Next).run C.P w) := by
  unfold lenV at hr
  split at hr
  · rename_i hu
    simp only [Runs.bind, Runs.liftO, Runs.ret1] at hr
    obtain ⟨s, hs, rfl⟩ := hr
    rw [strOf_some hs] at hx
    obtain ⟨s, rfl, rfl⟩ := hx.strv
    refine .val H (v := .int .i64 s.length) ?_ (.ofInt _ _)
    simp [Builtin.len_, run_underlying hu, goInt, size_mk]
  · rename_i e hu
    split at hr
    · rw [Runs.ret1] at hr
      subst hr
      cases hx
      refine .val H (v := .int .i64 0) ?_ (.ofInt _ _)
      simp [Builtin.len_, run_underlying hu, goInt]
    · simp only [Runs.bind, Runs.req, exists_const, Runs.ret1] at hr
      obtain ⟨⟨e', y⟩, hro, hr⟩ := hr
      simp only [Runs.bind, Runs.req, exists_const, Runs.ret1] at hr
      obtain ⟨he, rfl⟩ := hr
      obtain ⟨l, A, c, h1, rfl, h3, h4⟩ := rowsOf_sound H hx hro
      dsimp only at h1
      subst h1
      refine .val H (v := .int .i64 l.length) ?_ (.ofInt _ _)
      simp [Builtin.len_, run_underlying hu, goInt]
  · rename_i n e hu
    rw [Runs.ret1] at hr
    subst hr
    refine .val H (v := .int .i64 n) ?_ (.ofInt _ _)
    simp [Builtin.len_, run_underlying hu, goInt]
  · exact ((Runs.fail _).1 hr).elim
end
end Go.Fw
/- The framework, part 11: conversions, equality of structs. -/
namespace Go.Fw
open Alg
section
variable {C : Cx} {w0 : World} {S0 M0 : Nat → Prop} {w w' : World} {S S' : Nat → Prop} {h h' : Hp} {μ μ' : Mu} {V : Vt}

theorem RepRow.one_int {k : IntKind} {r : List D} {cs : List Value} (hr : RepRow C w S [.int k] r cs) : ∃ n, r = [.int n] ∧ cs = [.int k n] := by
  cases hr with
  | cons _ _ d ds c1 c2 hd hs =>
  cases hs with
  | nil =>
  cases hd with
  | int k n => exact ⟨n, rfl, rfl⟩
/-- Rows of one number each. -/
theorem RepRows.nums {k : IntKind} : ∀ {l : List (List D)} {cs : List Value}, RepRows C w S [.int k] l cs → ∃ xs : List Int, l = xs.map (fun n => [.int n]) ∧ cs = xs.map (fun n => .int k n)
  | _, _, .nil _ => ⟨[], rfl, rfl⟩
  | _, _, .cons _ r rs c1 c2 h hs => by
    obtain ⟨n, rfl, rfl⟩ := h.one_int
    obtain ⟨xs, rfl, rfl⟩ := RepRows.nums hs
    exact ⟨n :: xs, rfl, rfl⟩
theorem RepRows.ofNums (k : IntKind) : ∀ xs : List Int, RepRows C w S [.int k] (xs.map (fun n => [.int n])) (xs.map (fun n => .int k n))
  | [] => .nil _
  | n :: xs => .cons _ _ _ [.int k n] _ (.cons _ _ _ _ [.int k n] [] (.int k n) .nil) (RepRows.ofNums k xs)
theorem und_u8 {e : Nat} (hu : (match C.P.underlying e with | some (.int .u8) => true | _ => false) = true) : C.P.underlying e = some (.int .u8) := by
  split at hu
  · assumption
  · cases hu
theorem convert_sound (hC : C.ok) (H : RH C w0 S0 M0 S μ h w) {s t : Nat} {x : SV D} {vx : Value} {res : Res D} (hx : SVRep C w S h μ x vx) (hr : Runs C V h (convertV C s t x) res) :
    Lands C w0 S0 M0 S μ h w res ((do pure (.value (← convert s t vx)) : Sem Next).run C.P w) := by
  unfold convertV at hr
  split at hr
  · rename_i hs ht
    rw [Runs.ret1] at hr
    subst hr
    exact convert_sound_int H (by rw [hs]; rfl) ht hx
  · rename_i hs ht
    rw [Runs.ret1] at hr
    subst hr
    obtain ⟨b, rfl, rfl⟩ := hx.strv
    refine .val H (v := .string ⟨b.toArray⟩) ?_ (.ofStr _)
    simp [convert, run_underlying hs, run_underlying ht]
  · rename_i e hs ht
    simp only [Runs.bind, Runs.req, exists_const, Runs.ret1] at hr
    obtain ⟨hu, htab, ⟨e', y⟩, hro, he, rfl⟩ := hr
    have hu := und_u8 hu
    have htab := eq_of_beq htab
    have he : e = e' := by simpa using he
    subst he
    obtain ⟨l, A, c, h1, rfl, h3, h4⟩ := rowsOf_sound H hx hro
    dsimp only at h1 h4
    subst h1
    by_cases hl : l = []
    · subst hl
      refine .val H (v := .string ⟨#[]⟩) ?_ (.ofStr [])
      cases A with
      | none => exact run_convert_bytes_nil w s e hs hu 0 c t ht
      | some a =>
        obtain ⟨b, o, sp⟩ := a
        have := run_convert_bytes_arg (P := C.P) w s e hs hu b o 0 c [] rfl (fun i hi => by omega) t ht
        simp [convert, run_underlying hs, run_underlying ht, run_underlying hu, Conv.bytesToString, loadCells, loadCellsFrom]
        rfl
    · obtain ⟨ts, cells, b, o, a1, rfl, a3, a4⟩ := h4 hl
      rw [htab] at a1
      injection a1 with a1
      subst a1
      obtain ⟨xs, rfl, rfl⟩ := a3.nums
      have := run_convert_bytes_arg (P := C.P) w s e hs hu b o xs.length c xs rfl (fun i hi => a4 i _ (by simp [List.getElem?_eq_getElem hi])) t ht
      refine .val H (v := .string (strOfNums xs)) (by simpa using this) ?_
      have e1 : (f1 .strOf (.rows (xs.map fun n => [.int n])) : D) = .str (xs.map fun n => UInt8.ofNat n.toNat) := by
        simp [f1, F1.den, Function.comp_def]
      rw [vS, e1]
      exact .ofStr _
  · rename_i e a hs ht
    simp only [Runs.bind, Runs.req, exists_const, Runs.guardE, Runs.ret1] at hr
    obtain ⟨hu, htab, hg, rfl⟩ := hr
    have hu := und_u8 hu
    have htab := eq_of_beq htab
    obtain ⟨b, rfl, rfl⟩ := hx.strv
    -- a new block, which may not change
    have hrun := Lib.run_convert_string_bytes (P := C.P) w s t e (⟨b.toArray⟩ : ByteArray) hs ht hu
    have hg : w.grownBy (Lib.bytesWorld w e ⟨b.toArray⟩) none := 
      ⟨rfl, rfl, rfl, by rw [Lib.bytesWorld_size]; omega, fun k hk _ => Lib.bytesWorld_at_old w e _ k hk⟩
    obtain ⟨H1, X1⟩ := H.grow (fun k => k = w.heap.size) hg (fun k hk => by rw [Lib.bytesWorld_size]; omega)
    refine ⟨_, _, .inl (by rw [run_val, hrun]; rfl), _, μ, H1, X1, .one _ _ (.c _ _ _ (.d (.sl e) _ _ ?_))⟩
    have e1 : (f1 .bytesOf (.str b) : D) = .rows ((b.map fun x => (x.toNat : Int)).map fun n => [.int n]) := by
      simp [f1, F1.den, Function.comp_def]
    rw [e1]
    have hgl : b.length ≤ grownCap w b.length 0 e := grownCap_ge w b.length 0 e
    by_cases h0 : b = []
    · subst h0
      exact .nil e _ _
    · have := Rep.sl (C := C) (w := Lib.bytesWorld w e ⟨b.toArray⟩) (S := fun k => S k ∨ k = w.heap.size) e [.int .u8] _ w.heap.size 0 (grownCap w b.length 0 e) _ htab (.inr rfl) (by simpa using h0) (by simpa using hgl) (RepRows.ofNums .u8 (b.map fun x => (x.toNat : Int))) (fun j v hv => by
        rw [List.getElem?_map, List.getElem?_map] at hv
        cases hbj : b[j]? with
        | none => rw [hbj] at hv; simp at hv
        | some x =>
          rw [hbj] at hv
          simp at hv
          subst hv
          have hjl : j < b.length := (List.getElem?_eq_some_iff.1 hbj).1
          have := Lib.bytesWorld_cell w e ⟨b.toArray⟩ j hjl
          rw [Nat.zero_add, this]
          simp [List.getD, hbj])
      simpa [size_mk] using this
  · exact ((Runs.fail _).1 hr).elim

/-! ### structs that are compared -/
theorem mkRow_D : ∀ xs : List D, mkRow xs = .rows [xs] := by
  intro xs
  cases xs with
  | nil => simp [mkRow, f2, F2.den, ilit, lit, Lt.den, D.row1]
  | cons x xs =>
    have : ∀ (ys zs : List D), List.foldl (fun r y => f2 .addc r y) (.rows [zs] : D) ys = .rows [zs ++ ys] := by
      intro ys
      induction ys with
      | nil => intro zs; simp
      | cons y ys ih =>
        intro zs
        rw [List.foldl_cons]
        have e : (f2 .addc (.rows [zs]) y : D) = .rows [zs ++ [y]] := by simp [f2, F2.den, D.row1]
        rw [e, ih]
        simp
    show List.foldl (fun r y => f2 .addc r y) (f1 .one x) xs = _
    have e : (f1 .one x : D) = .rows [[x]] := rfl
    rw [e, this]
    rfl
theorem beqRow_append : ∀ (a1 b1 a2 b2 : List D), a1.length = b1.length → beqRow (a1 ++ a2) (b1 ++ b2) = (beqRow a1 b1 && beqRow a2 b2)
  | [], [], _, _, _ => by simp [beqRow]
  | x :: a1, y :: b1, a2, b2, h => by
    simp only [List.cons_append, beqRow]
    rw [beqRow_append a1 b1 a2 b2 (by simpa using h), Bool.and_assoc]
  | [], _ :: _, _, _, h => by simp at h
  | _ :: _, [], _, _, h => by simp at h
theorem run_partRow (hC : C.ok) {t : Nat} {ts : List Ty} (ht : C.tab t = some ts) {ds : List D} {cells all : List Value} {off : Nat} (H : RepRow C w S ts ds cells) (hl : cells = (all.drop off).take (sizes C ts)) :
    (part t all.toArray off).run C.P w = .ok (if C.isAgg t then .agg cells.toArray else cells.headD undef) w := by
  have hlen := H.len hC
  unfold part
  simp only [Sem.run_bind, run_isAgg hC ht, Result.andThen_ok]
  split
  · simp only [Sem.run_bind, run_sizeOf hC ht, Result.andThen_ok]
    rw [hl]
    simp [List.extract_toArray, List.extract_eq_take_drop]
  · rename_i ha
    have h1 : cells.length = 1 := by
      rcases (hC t _ ht).2.2.2 with h2 | h2
      · exact absurd h2 ha
      · rw [hlen, h2]
    obtain ⟨u, rfl⟩ := List.length_eq_one_iff.1 h1
    have h3 : all[off]? = some u := by
      have : [u][0]? = some u := rfl
      rw [hl, List.getElem?_take] at this
      split at this
      · simpa using this
      · cases this
    simp [h3]
theorem bytes_beq (a b : List UInt8) : ((⟨a.toArray⟩ : ByteArray) == ⟨b.toArray⟩) = (a == b) := by
  rw [beq_toListBytes, toList_mk, toList_mk]
theorem eqOk_sound (hC : C.ok) : ∀ (k t : Nat) (ts : List Ty) (as bs : List D) (ca cb : List Value), eqOk C k t = true → C.tab t = some ts → RepRow C w S ts as ca → RepRow C w S ts bs cb → ∀ d, k ≤ d →
    (Op.equalIn d t (if C.isAgg t then .agg ca.toArray else ca.headD undef) (if C.isAgg t then .agg cb.toArray else cb.headD undef)).run C.P w = .ok (beqRow as bs) w := by
  intro k
  induction k with
  | zero => intro t ts as bs ca cb h; simp [eqOk] at h
  | succ k ih =>
    intro t ts as bs ca cb hk ht ha hb d hd
    obtain ⟨d, rfl⟩ : ∃ d', d = d' + 1 := ⟨d - 1, by omega⟩
    unfold eqOk at hk
    split at hk
    · rename_i hu
      have e := eq_of_beq hk
      rw [ht] at e
      injection e with e
      subst e
      have hagg : C.isAgg t = false := by unfold Cx.isAgg; rw [hu]
      cases ha with
      | cons _ _ _ _ c1 c2 hd1 hs1 =>
      cases hs1 with
      | nil =>
      cases hd1 with
      | bool x =>
      cases hb with
      | cons _ _ _ _ c1 c2 hd1 hs1 =>
      cases hs1 with
      | nil =>
      cases hd1 with
      | bool y =>
      simp [hagg, Op.equalIn, run_underlying hu, beqRow, D.beq]
    · rename_i q hu
      have e := eq_of_beq hk
      rw [ht] at e
      injection e with e
      subst e
      have hagg : C.isAgg t = false := by unfold Cx.isAgg; rw [hu]
      obtain ⟨x, rfl, rfl⟩ := ha.one_int
      obtain ⟨y, rfl, rfl⟩ := hb.one_int
      simp [hagg, Op.equalIn, run_underlying hu, beqRow, D.beq]
    · rename_i hu
      have e := eq_of_beq hk
      rw [ht] at e
      injection e with e
      subst e
      have hagg : C.isAgg t = false := by unfold Cx.isAgg; rw [hu]
      cases ha with
      | cons _ _ _ _ c1 c2 hd1 hs1 =>
      cases hs1 with
      | nil =>
      cases hd1 with
      | str x =>
      cases hb with
      | cons _ _ _ _ c1 c2 hd1 hs1 =>
      cases hs1 with
      | nil =>
      cases hd1 with
      | str y =>
      simp [hagg, Op.equalIn, run_underlying hu, beqRow, D.beq, bytes_beq]
    · rename_i fs hu
      rw [Bool.and_eq_true, Bool.and_eq_true, ht] at hk
      obtain ⟨⟨hst, htile⟩, hall⟩ := hk
      have hst : C.P.stoodInHeld t = false := by simpa using hst
      have hagg : C.isAgg t = true := by unfold Cx.isAgg; rw [hu]
      have hfo : C.P.fieldsOf t = fs := by simp [Program.fieldsOf, hu]
      have hrun := run_equalIn_struct (P := C.P) w d t ca.toArray cb.toArray (by rw [hfo]; exact hu) hst
      rw [hagg, if_pos rfl, if_pos rfl, hrun, hfo]
      clear hrun hfo hu hst
      -- field by field
      have key : ∀ (fl : List Field) (o : Nat) (us : List Ty) (as bs : List D) (ra rb : List Value), tile C o fl us = true → (fl.all fun f => eqOk C k f.type) = true → RepRow C w S us as ra → RepRow C w S us bs rb →
          ra = ca.drop o → rb = cb.drop o → (Op.eqFields d ca.toArray cb.toArray fl).run C.P w = .ok (beqRow as bs) w := by
        intro fl
        induction fl with
        | nil =>
          intro o us as bs ra rb h1 _ h3 h4 _ _
          have : us = [] := by simpa [tile] using h1
          subst this
          cases h3
          cases h4
          simp [Op.eqFields, beqRow]
        | cons f fl ihf =>
          intro o us as bs ra rb h1 h2 h3 h4 e1 e2
          simp only [tile, Bool.and_eq_true] at h1
          obtain ⟨⟨ho, hn⟩, h1⟩ := h1
          have ho := eq_of_beq ho
          have hn : f.name ≠ "_" := by simpa using hn
          split at h1
          · rename_i vs hvs
            rw [Bool.and_eq_true] at h1
            obtain ⟨hv, h1⟩ := h1
            have hv := eq_of_beq hv
            have hvl : vs.length ≤ us.length := by
              have := congrArg List.length hv
              simp at this
              omega
            rw [List.all_cons, Bool.and_eq_true] at h2
            obtain ⟨pa, qa⟩ := h3.split hC vs.length hvl
            obtain ⟨pb, qb⟩ := h4.split hC vs.length hvl
            have hoff : offOf C us vs.length = sizes C vs := by rw [offOf, ← hv]
            rw [← hv] at pa pb
            rw [hoff] at pa pb qa qb
            have ra1 := run_partRow (w := w) hC hvs (off := f.offset) pa (by rw [e1, ho])
            have rb1 := run_partRow (w := w) hC hvs (off := f.offset) pb (by rw [e2, ho])
            have hsub := ih f.type vs _ _ _ _ h2.1 hvs pa pb d (by omega)
            have hrest := ihf (o + sizes C vs) (us.drop vs.length) _ _ _ _ h1 h2.2 qa qb (by rw [e1, List.drop_drop]) (by rw [e2, List.drop_drop])
            have hsp : beqRow as bs = (beqRow (as.take vs.length) (bs.take vs.length) && beqRow (as.drop vs.length) (bs.drop vs.length)) := by
              rw [← beqRow_append _ _ _ _ (by rw [pa.lens, pb.lens]), List.take_append_drop, List.take_append_drop]
            unfold Op.eqFields
            rw [if_pos hn]
            simp only [Sem.run_bind, ra1, rb1, Result.andThen_ok, hsub]
            rw [hsp]
            cases hbq : beqRow (as.take vs.length) (bs.take vs.length)
            · simp
            · simp only [Bool.not_true, Bool.false_eq_true, if_false, Bool.true_and]
              exact hrest
          · cases h1
      exact key fs.toList 0 ts as bs ca cb htile hall ha hb rfl rfl
    · cases hk
end
end Go.Fw
/- The framework, part 12: variables in memory: made, written. -/
namespace Go.Fw
open Alg

/-! ### zero values -/
def zmRow (f : Ty → List Value → Option (List Value)) : List Ty → List Value → Option (List Value)
  | [], r => some r
  | t :: ts, r => (f t r).bind (zmRow f ts)
def zmN (g : List Value → Option (List Value)) : Nat → List Value → Option (List Value)
  | 0, r => some r
  | n + 1, r => (g r).bind (zmN g n)
/-- Takes the zero cells of a slot off a list. -/
def zm (C : Cx) : Nat → Ty → List Value → Option (List Value)
  | _, .int k, .int k' n :: r => if k == k' && n == 0 then some r else none
  | _, .bool, .bool false :: r => some r
  | _, .str, .string s :: r => if s.data.toList == [] then some r else none
  | _, .sl _, .slice none 0 0 :: r => some r
  | _, .fn, .nilFunc :: r => some r
  | k + 1, .arr (n + 1) e, r => match C.tab e with
    | some ts => zmN (zmRow (zm C k) ts) (n + 1) r
    | none => none
  | _, _, _ => none
def Cx.zok (C : Cx) : Prop := ∀ e ts, C.tab e = some ts → ∃ i z, C.P.info? e = some i ∧ i.zero = some z ∧ zmRow (zm C 4) ts z.cells.toList = some []

section
variable {C : Cx} {w0 : World} {S0 M0 : Nat → Prop} {w w' : World} {S S' : Nat → Prop} {h h' : Hp} {μ μ' : Mu} {V : Vt}

theorem zmRow_rep {f : Ty → List Value → Option (List Value)} {g : Ty → Option D} (hf : ∀ t r rest, f t r = some rest → ∃ x c, g t = some x ∧ r = c ++ rest ∧ Rep C w S t x c) :
    ∀ (ts : List Ty) (r rest : List Value), zmRow f ts r = some rest → ∃ xs c, ts.mapM g = some xs ∧ r = c ++ rest ∧ RepRow C w S ts xs c
  | [], r, rest, h => by
    simp only [zmRow, Option.some.injEq] at h
    subst h
    exact ⟨[], [], rfl, rfl, .nil⟩
  | t :: ts, r, rest, h => by
    simp only [zmRow, Option.bind_eq_some_iff] at h
    obtain ⟨r1, h1, h2⟩ := h
    obtain ⟨x, c, e1, rfl, e3⟩ := hf t r r1 h1
    obtain ⟨xs, c', e4, rfl, e6⟩ := zmRow_rep hf ts r1 rest h2
    exact ⟨x :: xs, c ++ c', by simp [List.mapM_cons, e1, e4], by simp, .cons t ts x xs c c' e3 e6⟩
theorem zmN_rep {g : List Value → Option (List Value)} {ts : List Ty} {xs : List D} (hg : ∀ r rest, g r = some rest → ∃ c, r = c ++ rest ∧ RepRow C w S ts xs c) :
    ∀ (n : Nat) (r rest : List Value), zmN g n r = some rest → ∃ c, r = c ++ rest ∧ RepRows C w S ts (List.replicate n xs) c
  | 0, r, rest, h => by
    simp only [zmN, Option.some.injEq] at h
    subst h
    exact ⟨[], rfl, .nil ts⟩
  | n + 1, r, rest, h => by
    simp only [zmN, Option.bind_eq_some_iff] at h
    obtain ⟨r1, h1, h2⟩ := h
    obtain ⟨c, rfl, e2⟩ := hg r r1 h1
    obtain ⟨c', rfl, e4⟩ := zmN_rep hg n r1 rest h2
    exact ⟨c ++ c', by simp, .cons ts xs _ c c' e2 e4⟩
theorem zm_rep : ∀ (k : Nat) (t : Ty) (r rest : List Value), zm C k t r = some rest → ∃ x c, zeroX (X := D) C k t = some x ∧ r = c ++ rest ∧ Rep C w S t x c := by
  intro k
  induction k with
  | zero =>
    intro t r rest h
    unfold zm at h
    split at h
    · split at h
      · rename_i hp
        simp only [Bool.and_eq_true, beq_iff_eq] at hp
        obtain ⟨rfl, rfl⟩ := hp
        injection h with h; subst h
        exact ⟨.int 0, [.int _ 0], by simp [zeroX, ilit, lit, Lt.den], rfl, .int _ _⟩
      · cases h
    · injection h with h; subst h; exact ⟨.bool false, [.bool false], by simp [zeroX, lit, Lt.den], rfl, .bool _⟩
    · split at h
      · rename_i s _ hp
        injection h with h; subst h
        have hp := eq_of_beq hp
        refine ⟨.str [], [.string s], by simp [zeroX, lit, Lt.den], rfl, ?_⟩
        have := Rep.str (C := C) (w := w) (S := S) []
        rwa [← hp, bytes_eta, hp] at this
      · cases h
    · injection h with h; subst h; exact ⟨.rows [], [.slice none 0 0], by simp [zeroX, lit, Lt.den], rfl, .nil _ _ _⟩
    · injection h with h; subst h; exact ⟨.nofn, [.nilFunc], by simp [zeroX, lit, Lt.den], rfl, .nofn⟩
    · rename_i heq; cases heq
    · cases h
  | succ k ih =>
    intro t r rest h
    unfold zm at h
    split at h
    · split at h
      · rename_i hp
        simp only [Bool.and_eq_true, beq_iff_eq] at hp
        obtain ⟨rfl, rfl⟩ := hp
        injection h with h; subst h
        exact ⟨.int 0, [.int _ 0], by simp [zeroX, ilit, lit, Lt.den], rfl, .int _ _⟩
      · cases h
    · injection h with h; subst h; exact ⟨.bool false, [.bool false], by simp [zeroX, lit, Lt.den], rfl, .bool _⟩
    · split at h
      · rename_i s _ hp
        injection h with h; subst h
        have hp := eq_of_beq hp
        refine ⟨.str [], [.string s], by simp [zeroX, lit, Lt.den], rfl, ?_⟩
        have := Rep.str (C := C) (w := w) (S := S) []
        rwa [← hp, bytes_eta, hp] at this
      · cases h
    · injection h with h; subst h; exact ⟨.rows [], [.slice none 0 0], by simp [zeroX, lit, Lt.den], rfl, .nil _ _ _⟩
    · injection h with h; subst h; exact ⟨.nofn, [.nilFunc], by simp [zeroX, lit, Lt.den], rfl, .nofn⟩
    · rename_i r _ _ _ k' n e heq
      injection heq with heq
      subst heq
      split at h
      · rename_i ts hts
        have hrow : ∀ r rest, zmRow (zm C k) ts r = some rest → ∃ c xs, ts.mapM (zeroX (X := D) C k) = some xs ∧ r = c ++ rest ∧ RepRow C w S ts xs c := fun r rest hh => by
          obtain ⟨xs, c, a, b, d⟩ := zmRow_rep (g := zeroX C k) (fun t r rest h => ih t r rest h) ts r rest hh
          exact ⟨c, xs, a, b, d⟩
        have h0 := h
        simp only [zmN, Option.bind_eq_some_iff] at h0
        obtain ⟨r1, h1, h2⟩ := h0
        obtain ⟨c, xs, hm, -, -⟩ := hrow r r1 h1
        have hg : ∀ r rest, zmRow (zm C k) ts r = some rest → ∃ c, r = c ++ rest ∧ RepRow C w S ts xs c := fun r rest hh => by
          obtain ⟨c, xs', a, b, d⟩ := hrow r rest hh
          rw [hm] at a
          injection a with a
          subst a
          exact ⟨c, b, d⟩
        obtain ⟨c', rfl, hrep⟩ := zmN_rep hg (n + 1) r rest h
        refine ⟨.rows (List.replicate (n + 1) xs), c', ?_, rfl, .arr (n + 1) e ts _ _ hts (by simp) hrep⟩
        have e1 : ((n + 1 : Nat) : Int).toNat = n + 1 := Int.toNat_natCast _
        simp only [zeroX, hts, hm, mkRow_D, Option.bind_eq_bind, Option.bind_some, f2, F2.den, ilit, lit, Lt.den, D.toInt_int, e1, D.row1, D.toRows_rows, List.headD_cons, pure]
      · cases h
    · cases h
end
end Go.Fw
/- The framework, part 13: data that are handed on; variables that are made and written. -/
namespace Go.Fw
open Alg
section
variable {C : Cx} {w0 : World} {S0 M0 : Nat → Prop} {w w' : World} {S S' : Nat → Prop} {h h' : Hp} {μ μ' : Mu} {V : Vt}

/-- Rows that are handed on for good. -/
def FzU (h : Hp) (u : Upd D) : Prop := ∀ p ∈ u, ∃ e rows g, h p.1 = some (.tok e rows g .live) ∧ p.2 = .tok e rows g .frozen
def Good (C : Cx) (w : World) (μ : Mu) (u : Upd D) (S' : Nat → Prop) : Prop := ∀ p ∈ u, ∀ e rows g, p.2 = .tok e rows g .frozen → Rep C w S' (.sl e) rows [μ p.1]
theorem FzU.nil (h : Hp) : FzU h [] := fun p hp => by cases hp
theorem FzU.append {u v : Upd D} (a : FzU h u) (b : FzU h v) : FzU h (u ++ v) := fun p hp => (List.mem_append.1 hp).elim (a p) (b p)
theorem Good.left {u v : Upd D} {S' : Nat → Prop} (a : Good C w μ (u ++ v) S') : Good C w μ u S' := fun p hp => a p (List.mem_append.2 (.inl hp))
theorem Good.right {u v : Upd D} {S' : Nat → Prop} (a : Good C w μ (u ++ v) S') : Good C w μ v S' := fun p hp => a p (List.mem_append.2 (.inr hp))
theorem upd_id {n : Name} {o : Obj D} (hn : h n = some o) : upd h n (some o) = h := by
  funext m
  unfold upd
  split
  · rename_i e; rw [e, hn]
  · rfl
theorem freezeAll : ∀ (u : Upd D) (S : Nat → Prop) (h : Hp), RH C w0 S0 M0 S μ h w → (∀ p ∈ u, ∃ e rows g st, h p.1 = some (.tok e rows g st) ∧ (st = .live ∨ st = .frozen) ∧ p.2 = .tok e rows g .frozen) →
    ∃ S', RH C w0 S0 M0 S' μ (Upd.ap u h) w ∧ Ext S μ h w S' μ (Upd.ap u h) w ∧ Good C w μ u S' := by
  intro u
  induction u with
  | nil => intro S h H _; exact ⟨S, H, .refl, fun p hp => by cases hp⟩
  | cons p u ih =>
    intro S h H hu
    obtain ⟨e, rows, g, st, h1, h2, h3⟩ := hu p (by simp)
    obtain ⟨n, o⟩ := p
    dsimp only at h1 h3
    subst h3
    have key : ∃ S1, RH C w0 S0 M0 S1 μ (upd h n (some (.tok e rows g .frozen))) w ∧ Ext S μ h w S1 μ (upd h n (some (.tok e rows g .frozen))) w ∧ Rep C w S1 (.sl e) rows [μ n] := by
      rcases h2 with rfl | rfl
      · exact H.freeze h1
      · rw [upd_id h1]
        refine ⟨S, H, .refl, ?_⟩
        have hO := H.obj n _ h1
        cases hO with
        | frozen e rows g v hr => exact hr
    obtain ⟨S1, H1, X1, R1⟩ := key
    obtain ⟨S2, H2, X2, G2⟩ := ih S1 _ H1 (fun q hq => by
      obtain ⟨e', rows', g', st', a1, a2, a3⟩ := hu q (by simp [hq])
      by_cases hne : q.1 = n
      · rw [hne] at a1
        rw [h1] at a1
        injection a1 with a1
        injection a1 with b1 b2 b3 b4
        subst b1 b2 b3
        exact ⟨e, rows, g, .frozen, by rw [hne, upd_same], .inr rfl, a3⟩
      · exact ⟨e', rows', g', st', by rw [upd_ne _ _ hne]; exact a1, a2, a3⟩)
    refine ⟨S2, H2, X1.trans X2, fun q hq e' rows' g' hq' => ?_⟩
    rcases List.mem_cons.1 hq with rfl | hq
    · injection hq' with b1 b2 b3 b4
      subst b1 b2 b3
      exact R1.mono X2.sub fun _ _ => rfl
    · exact G2 q hq e' rows' g' hq'
theorem FzU.ok {u : Upd D} (H : RH C w0 S0 M0 S μ h w) (hu : FzU h u) : ∃ S', RH C w0 S0 M0 S' μ (Upd.ap u h) w ∧ Ext S μ h w S' μ (Upd.ap u h) w ∧ Good C w μ u S' :=
  freezeAll u S h H fun p hp => by obtain ⟨e, rows, g, h1, h2⟩ := hu p hp; exact ⟨e, rows, g, .live, h1, .inl rfl, h2⟩
/-- What is frozen is kept by name. -/
theorem FzU.other : ∀ {u : Upd D} {n : Name}, (∀ p ∈ u, p.1 ≠ n) → ∀ h : Hp, Upd.ap u h n = h n
  | [], n, _, h => rfl
  | p :: u, n, hn, h => by
    rw [Upd.ap_cons, FzU.other (fun q hq => hn q (by simp [hq])), upd_ne _ _ (Ne.symm (hn p (by simp)))]

theorem cellAs_rep (H : RH C w0 S0 M0 S μ h w) {t t' : Ty} {c : Cell D} {cs : List Value} {r : D × Upd D} (hc : CellRep C w S h μ t' c cs) (hr : Runs C V h (cellAs false t c) r) :
    FzU h r.2 ∧ ∀ S', (∀ b, S b → S' b) → Good C w μ r.2 S' → Rep C w S' t r.1 cs := by
  simp only [cellAs, Runs.bind, Runs.req, exists_const] at hr
  obtain ⟨⟨u, x, up⟩, h1, hr⟩ := hr
  simp only [Runs.bind, Runs.req, exists_const, Runs.pure] at hr
  obtain ⟨hf, rfl⟩ := hr
  cases c with
  | d t'' y =>
    simp only [cellData, Runs.pure'] at h1
    injection h1 with e1 e2
    injection e2 with e2 e3
    subst e1 e2 e3
    cases hc with
    | d _ _ _ hx => exact ⟨.nil h, fun S' hs _ => (hx.mono hs fun _ _ => rfl).fits hf⟩
  | own n g =>
    simp only [cellData, Runs.get] at h1
    split at h1
    · rename_i e rows g' st hn
      split at h1
      · rename_i hg
        have hg := eq_of_beq hg
        obtain ⟨v, rfl⟩ : ∃ v, cs = [v] := by cases hc with | own => exact ⟨_, rfl⟩
        have hv := tok_val H hc hn hg
        split at h1
        · rw [Runs.pure'] at h1
          injection h1 with e1 e2
          injection e2 with e2 e3
          subst e1 e2 e3
          refine ⟨fun p hp => ?_, fun S' hs hG => ?_⟩
          · simp at hp
            subst hp
            exact ⟨e, rows, g', by rw [hn], by rw [hg]⟩
          · have := hG (n, .tok e rows g .frozen) (by simp) e rows g rfl
            rw [hv]
            exact this.fits hf
        · rw [Runs.pure'] at h1
          injection h1 with e1 e2
          injection e2 with e2 e3
          subst e1 e2 e3
          refine ⟨.nil h, fun S' hs _ => ?_⟩
          have hO := H.obj n _ hn
          rw [← hv] at hO
          cases hO with
          | frozen e l g v hr => exact (hr.mono hs fun _ _ => rfl).fits hf
        · exact ((Runs.fail _).1 h1).elim
      · exact ((Runs.fail _).1 h1).elim
    · exact ((Runs.fail _).1 h1).elim
theorem cellsAs_rep (H : RH C w0 S0 M0 S μ h w) {ts : List Ty} {c : List (Cell D)} {cs : List Value} (hc : CellsRep C w S h μ ts c cs) : ∀ {us : List Ty} {r : List D × Upd D}, Runs C V h (cellsAs false us c) r →
    FzU h r.2 ∧ ∀ S', (∀ b, S b → S' b) → Good C w μ r.2 S' → RepRow C w S' us r.1 cs := by
  induction hc with
  | nil =>
    intro us r hr
    cases us with
    | nil => simp only [cellsAs, Runs.pure'] at hr; subst hr; exact ⟨.nil h, fun _ _ _ => .nil⟩
    | cons u us => exact ((Runs.fail _).1 hr).elim
  | cons t ts d ds c1 c2 hd hs ih =>
    intro us r hr
    cases us with
    | nil => exact ((Runs.fail _).1 hr).elim
    | cons u us =>
      simp only [cellsAs, Runs.bind] at hr
      obtain ⟨⟨x, u1⟩, h1, ⟨xs, u2⟩, h2, hr⟩ := hr
      rw [Runs.pure] at hr
      subst hr
      obtain ⟨f1, g1⟩ := cellAs_rep H hd h1
      obtain ⟨f2, g2⟩ := ih h2
      exact ⟨f1.append f2, fun S' hs hG => .cons u us x xs c1 c2 (g1 S' hs hG.left) (g2 S' hs hG.right)⟩
theorem cloX_rep : ∀ {l : List (Cell D ⊕ Name)} {cv : List Value} (f : Nat) (tys : List Ty) (caps : List D) (cv0 : List Value) {y : D}, CapsRep C w S h μ l cv → RepRow C w S tys caps cv0 → Runs C V h (cloX l (.fn f tys caps)) y →
    Rep C w S .fn y [.func (.func f) #[] (cv0 ++ cv).toArray] := by
  intro l
  induction l with
  | nil =>
    intro cv f tys caps cv0 y hl h0 hr
    cases hl
    simp only [cloX, Runs.pure'] at hr
    subst hr
    rw [List.append_nil]
    exact .fn f tys caps cv0 h0
  | cons x l ih =>
    intro cv f tys caps cv0 y hl h0 hr
    cases hl with
    | inl c l t v vs hc hl =>
      cases c with
      | d t' z =>
        simp only [cloX] at hr
        generalize hLL : [v] = LL at hc
        cases hc with
        | d _ _ _ hz =>
        subst hLL
        have := ih f (tys ++ [t]) (caps ++ [z]) (cv0 ++ [v]) hl (h0.append (by simpa using RepRow.cons t [] z [] [v] [] hz .nil)) hr
        simpa using this
      | own => exact ((Runs.fail _).1 hr).elim
    | inr b blk l vs hb hl => exact ((Runs.fail _).1 hr).elim
/-- The data of a value that is handed on for good. -/
theorem dataOfV_rep (H : RH C w0 S0 M0 S μ h w) {ts : List Ty} {sv : SV D} {v : Value} {r : List D × Upd D} (hv : SVRep C w S h μ sv v) (hr : Runs C V h (dataOfV false ts sv) r) :
    FzU h r.2 ∧ ∀ S', (∀ b, S b → S' b) → Good C w μ r.2 S' → RepRow C w S' ts r.1 v.cells.toList := by
  cases hv with
  | c x t v hc =>
    simp only [dataOfV] at hr
    have hc' : CellsRep C w S h μ [t] [x] [v] := by simpa using CellsRep.cons t [] x [] [v] [] hc .nil
    have h1 := cellsAs_rep H hc' hr
    have hvc : v.cells.toList = [v] := by
      have := hc.one v (by simp)
      cases v <;> first | rfl | simp [Value.oneCell'] at this
    rw [hvc]
    exact h1
  | agg xs us cs hc =>
    simp only [dataOfV] at hr
    have h1 := cellsAs_rep H hc hr
    simpa [Value.cells] using h1
  | nils =>
    simp only [dataOfV] at hr
    split at hr
    · rw [Runs.pure'] at hr
      subst hr
      refine ⟨.nil h, fun S' _ _ => ?_⟩
      exact RepRow.cons _ [] (D.rows []) [] [.slice none 0 0] [] (Rep.nil _ none 0) .nil
    · exact ((Runs.fail _).1 hr).elim
  | clo f caps cv hc =>
    simp only [dataOfV] at hr
    split at hr
    · simp only [Runs.bind, Runs.pure] at hr
      obtain ⟨x, h1, rfl⟩ := hr
      have := cloX_rep f [] [] [] hc .nil h1
      refine ⟨.nil h, fun S' hs _ => ?_⟩
      simpa [Value.cells] using RepRow.cons _ [] _ [] _ [] (this.mono hs fun _ _ => rfl) .nil
    · exact ((Runs.fail _).1 hr).elim
  | _ => exact ((Runs.fail _).1 hr).elim

/-! ### new names -/
def Fresh (h : Hp) (nm : Nat → Name) (k : Nat) : Prop := ∀ j, k ≤ j → h (nm j) = none
def Inj (nm : Nat → Name) : Prop := ∀ i j, nm i = nm j → i = j
theorem Fresh.up {nm : Nat → Name} {k : Nat} (hf : Fresh h nm k) (hi : Inj nm) {j : Nat} (hj : j < k + 1) {o : Option (Obj D)} : Fresh (upd h (nm j) o) nm (k + 1) := fun i hik => by
  rw [upd_ne _ _ (fun e => by have := hi _ _ e; omega)]
  exact hf i (by omega)
theorem zm_sl {k e : Nat} {l r : List Value} (hz : zm C k (.sl e) l = some r) : l = .slice none 0 0 :: r := by
  cases k <;> (unfold zm at hz; split at hz <;> first | (rename_i heq; cases heq; done) | (rename_i heq _; cases heq; done) | skip)
  all_goals first
    | (injection hz with hz; subst hz; rfl)
    | cases hz
    | (simp_all; done)
theorem zeroCells_sound (nm : Nat → Name) (hi : Inj nm) : ∀ (ts : List Ty) (k : Nat) (h : Hp) (μ : Mu) (vals : List Value) (r : List (Cell D) × Upd D), RH C w0 S0 M0 S μ h w → Fresh h nm k → zeroCells C nm k ts = some r → zmRow (zm C 4) ts vals = some [] →
    ∃ μ', RH C w0 S0 M0 S μ' (Upd.ap r.2 h) w ∧ Ext S μ h w S μ' (Upd.ap r.2 h) w ∧ CellsRep C w S (Upd.ap r.2 h) μ' ts r.1 vals ∧ (∀ p ∈ r.2, ∃ j, k ≤ j ∧ p.1 = nm j) := by
  intro ts
  induction ts with
  | nil =>
    intro k h μ vals r H hf hz hm
    simp only [zeroCells, Option.some.injEq] at hz
    subst hz
    simp only [zmRow, Option.some.injEq] at hm
    subst hm
    exact ⟨μ, H, .refl, .nil, fun p hp => by cases hp⟩
  | cons t ts ih =>
    intro k h μ vals r H hf hz hm
    simp only [zmRow, Option.bind_eq_some_iff] at hm
    obtain ⟨r1, hm1, hm2⟩ := hm
    obtain ⟨x, c, hx, rfl, hrep⟩ := zm_rep (C := C) (w := w) (S := S) 4 t vals r1 hm1
    by_cases hsl : ∃ e, t = .sl e
    · obtain ⟨e, rfl⟩ := hsl
      simp only [zeroCells, Option.bind_eq_bind, Option.bind_eq_some_iff] at hz
      obtain ⟨es, he, ⟨cs, u⟩, h1, h2⟩ := hz
      simp only [pure, Option.some.injEq] at h2
      subst h2
      obtain ⟨H1, X1⟩ := H.nilRow (n := nm k) (hf k (Nat.le_refl _)) he
      obtain ⟨μ', H2, X2, R2, N2⟩ := ih (k + 1) _ _ r1 _ H1 (hf.up hi (by omega)) h1 hm2
      refine ⟨μ', H2, X1.trans X2, ?_, fun p hp => ?_⟩
      · have hc : c = [.slice none 0 0] := by
          have e1 := zm_sl hm1
          exact List.append_cancel_right (show c ++ r1 = [.slice none 0 0] ++ r1 from e1)
        subst hc
        refine .cons _ ts _ cs [.slice none 0 0] r1 ?_ R2
        have : CellRep C w S (upd h (nm k) (some (.tok e (.rows []) 0 .live))) (upd μ (nm k) (.slice none 0 0)) (.sl e) (.own (nm k) 0) [.slice none 0 0] :=
          .own e (nm k) 0 (.rows []) 0 .live _ (upd_same ..) (Nat.le_refl _) (fun _ => (upd_same ..).symm) rfl
        exact this.mono X2
      · rcases List.mem_cons.1 hp with rfl | hp
        · exact ⟨k, Nat.le_refl _, rfl⟩
        · obtain ⟨j, hj, e'⟩ := N2 p hp
          exact ⟨j, by omega, e'⟩
    · have hz' : ∃ cs u, zeroCells C nm (k + 1) ts = some (cs, u) ∧ r = (.d t x :: cs, u) := by
        cases t <;> first
          | exact absurd ⟨_, rfl⟩ hsl
          | (simp only [zeroCells, Option.bind_eq_bind, Option.bind_eq_some_iff, pure, Option.some.injEq] at hz
             obtain ⟨x', hx', ⟨cs, u⟩, h1, rfl⟩ := hz
             rw [hx] at hx'
             injection hx' with hx'
             subst hx'
             exact ⟨cs, u, h1, rfl⟩)
      obtain ⟨cs, u, h1, rfl⟩ := hz'
      obtain ⟨μ', H2, X2, R2, N2⟩ := ih (k + 1) h μ r1 _ H (fun j hj => hf j (by omega)) h1 hm2
      exact ⟨μ', H2, X2, .cons t ts _ cs c r1 (.d t x c (hrep.mono X2.sub fun _ _ => rfl)) R2, fun p hp => by obtain ⟨j, hj, e'⟩ := N2 p hp; exact ⟨j, by omega, e'⟩⟩
end
end Go.Fw

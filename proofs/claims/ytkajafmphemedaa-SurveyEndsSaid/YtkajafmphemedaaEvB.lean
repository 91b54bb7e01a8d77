/- The operations of the evaluator: definitions only. -/
import Derived.Test.YtkajafmphemedaaEvA
import Derived.Laws.Cells
import Derived.Laws.CopyRow
namespace Go.Proofs.Ytkajafmphemedaa.Ev

/-- An object of the frame. -/
inductive Blk where
  | flat (t : TypeId) (cs : List AV)
  deriving Inhabited

/-- The evaluator's frame: what its slots hold, and its objects; values that someone has kept; of a function that is ranged over: the answers that its yields get, by their number, what it has yielded, and the answers (the last one first). -/
structure St where
  env : List AV
  loc : List Blk
  sav : List AV := []
  bs : Nat → Bool := fun _ => true
  out : List (List AV × Bool) := []
  deriving Inhabited

/-- What an operation does. -/
inductive Res where
  | val (v : AV)
  | alloc (b : Blk) (v : AV)
  | store (j : Nat) (b : Blk)
  | call (f : FuncId) (args : List AV)

def szOf (P : Program) (t : TypeId) : Option Nat := (P.info? t).map (·.size)
def aggB (P : Program) (t : TypeId) : Option Bool :=
  match P.underlying t with
  | some (.struct _) => some true
  | some (.array _ _) => some true
  | some _ => some false
  | none => none
def zeroAV (P : Program) (t : TypeId) : Option (List AV) :=
  match P.info? t with
  | some i => match i.zero with
    | some v => ofScals v.cells.toList
    | none => none
  | none => none

def isCell : AV → Bool
  | .agg _ => false
  | .tup _ => false
  | .top => false
  | _ => true

/-- The cells of a value. -/
def cellsAV : AV → Option (List AV)
  | .agg cs => some cs
  | .tup _ => none
  | .top => none
  | x => some [x]

def ovw (cs : List AV) (off : Nat) (xs : List AV) : List AV := cs.take off ++ xs ++ cs.drop (off + xs.length)

/-- The parts of a composite literal go in, one behind the other. -/
def fillAV (place : Nat → Option (Nat × Nat)) (cs : List AV) : List (Nat × AV) → Option (List AV)
  | [] => some cs
  | (i, x) :: rest =>
    match place i with
    | none => none
    | some (off, size) =>
      match cellsAV x with
      | none => none
      | some xs => if xs.length = size ∧ off + xs.length ≤ cs.length then fillAV place (ovw cs off xs) rest else none

def rngGet (get : Get AV) (row : Nat) : Nat → Nat → List AV
  | _, 0 => []
  | col, n + 1 => get row col :: rngGet get row (col + 1) n

/-- A variable of type t out of a row of cells. -/
def loadAV (P : Program) (t : TypeId) (cs : List AV) (col : Nat) : Option AV :=
  match aggB P t, szOf P t with
  | some true, some n => if col + n ≤ cs.length then some (.agg ((cs.drop col).take n)) else none
  | some false, some _ => cs[col]?
  | _, _ => none

def loadX (P : Program) (t : TypeId) (wd : Nat) (get : Get AV) (row col : Nat) : Option AV :=
  match aggB P t, szOf P t with
  | some true, some n => if col + n ≤ wd then some (.agg (rngGet get row col n)) else none
  | some false, some _ => if col < wd then some (get row col) else none
  | _, _ => none

def partAV (P : Program) (t : TypeId) (cs : List AV) (off : Nat) : Option AV :=
  match aggB P t, szOf P t with
  | some true, some n => some (.agg ((cs.drop off).take n))
  | some false, some _ => cs[off]?
  | _, _ => none

def fieldPlaceAV (P : Program) (s : TypeId) (f : Nat) : Option Nat :=
  match P.underlying s with
  | some (.struct fields) => match fields[f]? with
    | some fd => match szOf P fd.type with
      | some 0 => none
      | some _ => some fd.offset
      | none => none
    | none => none
  | _ => none

def mapEv (p : Operand → Option AV) : List Operand → Option (List AV)
  | [] => some []
  | x :: xs => match p x with
    | some v => match mapEv p xs with
      | some vs => some (v :: vs)
      | none => none
    | none => none

def mapParts (p : Operand → Option AV) : List (Nat × Operand) → Option (List (Nat × AV))
  | [] => some []
  | (i, x) :: xs => match p x with
    | some v => match mapParts p xs with
      | some vs => some ((i, v) :: vs)
      | none => none
    | none => none

def structPlaces (P : Program) : List Field → Option (List (Nat × Nat))
  | [] => some []
  | f :: fs => match szOf P f.type with
    | some n => match structPlaces P fs with
      | some l => some ((f.offset, n) :: l)
      | none => none
    | none => none

def replC (zs : List AV) : Nat → List AV
  | 0 => []
  | n + 1 => zs ++ replC zs n

def nameOk (fn : Func) : Bool := fn.body.isSome && !(fn.name == "runtime.NumGoroutine")

/-- A function value called with arguments. -/
def callAV (P : Program) (f : AV) (args : List AV) : Option Res :=
  match f with
  | .fn (.func g) xs ys => match P.funcs[g]? with
    | some fn => if nameOk fn then some (.call g (xs ++ args ++ ys)) else none
    | none => none
  | _ => none

/-- A slice's length. -/
def lenAV : AV → Option Nat
  | .lsl _ _ _ _ n _ => some (clampL n)
  | .xsl _ _ _ _ n _ => some (clampL n)
  | .nilsl => some 0
  | _ => none

def sliceT (P : Program) (t : TypeId) : Option Nat :=
  match P.underlying t with
  | some (.slice e) => szOf P e
  | _ => none

/-- A bound of a slice expression: a literal or a number within 0 to n. -/
def boundAV (p : Operand → Option AV) (x : Option Operand) (dflt n : Nat) : Option (Bool × Nat) :=
  match x with
  | none => some (true, dflt)
  | some o => match p o with
    | some (.int _ i) => some (decide (0 ≤ i ∧ i ≤ n), i.toNat)
    | _ => none

/-- The operations that the evaluator carries out by its own rules. -/
def native (P : Program) (p : Operand → Option AV) (loc : Nat → Option Blk) (nx : Nat) (o : Oper) : Option (Bool × Res) :=
  match o.op with
  | .move x => (p x).map fun v => (true, .val v)
  | .assign x => (p x).map fun v => (true, .val v)
  | .pick c a b => match p c with
    | some (.bool t) => (match t with | true => p a | false => p b).map fun v => (true, .val v)
    | _ => none
  | .alloc t => (zeroAV P t).map fun cs => (true, .alloc (.flat t cs) (.lptr nx 0 0 0))
  | .box t x => match p x with
    | some v => (cellsAV v).map fun cs => (true, .alloc (.flat t cs) (.lptr nx 0 0 0))
    | none => none
  | .build t parts => match zeroAV P t, mapParts p parts.toList with
    | some zs, some ps => match P.underlying t with
      | some (.struct fields) => match structPlaces P fields.toList with
        | some pl => (fillAV (fun i => pl[i]?) zs ps).map fun cs => (true, .val (.agg cs))
        | none => none
      | some (.array _ e) => match szOf P e with
        | some n => (fillAV (fun i => some (i * n, n)) zs ps).map fun cs => (true, .val (.agg cs))
        | none => none
      | _ => none
    | _, _ => none
  | .buildSlice t len parts => match P.underlying t with
    | some (.slice e) => match szOf P e, zeroAV P e, mapParts p parts.toList with
      | some n, some zs, some ps =>
        if zs.length = n ∧ 0 < n ∧ len * n ≤ 65536 then (fillAV (fun i => some (i * n, n)) (replC zs len) ps).map fun cs => (true, .alloc (.flat e cs) (.lsl nx n 0 0 len (some len))) else none
      | _, _, _ => none
    | _ => none
  | .load t x => match p x with
    | some (.lptr j wd row col) => match loc j with
      | some (.flat _ cs) => (loadAV P t cs (row * wd + col)).map fun v => (true, .val v)
      | none => none
    | some (.xptr wd _ get row col) => (loadX P t wd get row col).map fun v => (true, .val v)
    | _ => none
  | .store t a x => match p a, p x with
    | some (.lptr j wd row col), some v => match loc j, cellsAV v, szOf P t with
      | some (.flat u cs), some xs, some n =>
        if xs.length = n ∧ (row * wd + col) + n ≤ cs.length ∧ xs.all isCell = true then some (true, .store j (.flat u (ovw cs (row * wd + col) xs))) else none
      | _, _, _ => none
    | _, _ => none
  | .nilCheck x => match p x with
    | some (.lptr j wd row col) => some (true, .val (.lptr j wd row col))
    | some (.xptr wd n get row col) => some (true, .val (.xptr wd n get row col))
    | _ => none
  | .fieldAddr s x f => match p x, fieldPlaceAV P s f with
    | some (.lptr j wd row col), some off => some (true, .val (.lptr j wd row (col + off)))
    | some (.xptr wd n get row col), some off => some (true, .val (.xptr wd n get row (col + off)))
    | _, _ => none
  | .field s x f => match p x, P.underlying s with
    | some (.agg cs), some (.struct fields) => match fields[f]? with
      | some fd => (partAV P fd.type cs fd.offset).map fun v => (true, .val v)
      | none => none
    | _, _ => none
  | .indexAddr t x ix => match p x, p ix, P.underlying t with
    | some (.lptr j wd row col), some (.int _ i), some (.array len e) => match szOf P e with
      | some n => some (decide (0 ≤ i ∧ i < len), .val (.lptr j wd row (col + i.toNat * n)))
      | none => none
    | some (.xptr wd m get row col), some (.int _ i), some (.array len e) => match szOf P e with
      | some n => some (decide (0 ≤ i ∧ i < len), .val (.xptr wd m get row (col + i.toNat * n)))
      | none => none
    | some (.lsl j wd row col len _), some (.int _ i), some (.slice e) => match szOf P e with
      | some n => if n = wd then some (decide (0 ≤ i ∧ i < len), .val (.lptr j wd (row + i.toNat) col)) else none
      | none => none
    | some (.xsl wd m get row len _), some (.int _ i), some (.slice e) => match szOf P e with
      | some n => if n = wd then some (decide (0 ≤ i ∧ i < len), .val (.xptr wd m get (row + i.toNat) 0)) else none
      | none => none
    | _, _, _ => none
  | .index t x ix => match p x, p ix, P.underlying t with
    | some (.agg cs), some (.int _ i), some (.array len e) => match szOf P e with
      | some n => (partAV P e cs (i.toNat * n)).map fun v => (decide (0 ≤ i ∧ i < len), .val v)
      | none => none
    | _, _, _ => none
  | .makeFunc f xs ys => match mapEv p xs.toList, mapEv p ys.toList with
    | some us, some vs => some (true, .val (.fn f us vs))
    | _, _ => none
  | .extract x i => match p x with
    | some (.tup vs) => (vs[i]?).map fun v => (true, .val v)
    | _ => none
  | .binOp b _ x y _ => match b, p x, p y with
    | .quo, some (.int k m), some (.int k' n) => match decide (k = k') with
      | true => some (!(decide (n = 0)), .val (.int k (k.wrap (m.tdiv n))))
      | false => none
    | .rem, some (.int k m), some (.int k' n) => match decide (k = k') with
      | true => some (!(decide (n = 0)), .val (.int k (m.tmod n)))
      | false => none
    | _, _, _ => none
  | .slice t x lo hi none => match p x, sliceT P t with
    | some (.xsl wd m get row len cap), some n => match boundAV p hi len len with
      | some (c1, h) => match boundAV p lo 0 h with
        | some (c2, l) => if n = wd then some (c1 && c2, .val (.xsl wd m get (row + l) (h - l) (cap.map (· - l)))) else none
        | none => none
      | none => none
    | _, _ => none
  | .slice t x lo (some hi) (some mx) => match p x, sliceT P t with
    | some (.xsl wd m get row len (some cap)), some n => match boundAV p (some mx) 0 cap with
      | some (c0, k) => match boundAV p (some hi) 0 k with
        | some (c1, h) => match boundAV p lo 0 h with
          | some (c2, l) => if n = wd then some (c0 && (c1 && (c2 && decide (h ≤ len))), .val (.xsl wd m get (row + l) (h - l) (some (k - l)))) else none
          | none => none
        | none => none
      | none => none
    | _, _ => none
  | .call c => match c.callee with
    | .builtin .len => match c.args.toList, c.argTypes.toList with
      | [x], [t] => match p x, sliceT P t with
        | some v, some _ => (lenAV v).map fun (n : Nat) => (true, Res.val (.int .i64 (n : Int)))
        | _, _ => none
      | _, _ => none
    | .value f => match p f, mapEv p c.args.toList with
      | some g, some vs => (callAV P g vs).map fun r => (true, r)
      | _, _ => none
    | _ => none
  | _ => none

def plainOf (p : Operand → Option AV) (x : Operand) : Option Value := match p x with
  | some v => plainV v
  | none => none
def rhoOf (p : Operand → Option AV) (x : Operand) : Value := match plainOf p x with
  | some v => v
  | none => undef

def notSelect : Op → Bool
  | .select _ _ => false
  | .defer _ => false
  | _ => true

def allPlain (p : Operand → Option AV) : List Operand → Bool
  | [] => true
  | x :: xs => match plainOf p x with
    | some _ => allPlain p xs
    | none => false

/-- Operations on values without pointers that leave memory alone: by the model's own text. -/
def byCalm (P : Program) (p : Operand → Option AV) (o : Oper) : Option (Bool × Res) :=
  match notSelect o.op && allPlain p o.op.operands.toList with
  | true => match calm P (execOp (rhoOf p) o) with
    | some (.value v) => (ofV v).map fun x => (true, .val x)
    | _ => none
  | false => none

def opRes (P : Program) (p : Operand → Option AV) (loc : Nat → Option Blk) (nx : Nat) (o : Oper) : Option (Bool × Res) :=
  match native P p loc nx o with
  | some r => some r
  | none => byCalm P p o

/-- Constants. -/
def ofConst (v : Value) : Option AV := ofV v

def evO (env : List AV) : Operand → Option AV
  | .tmp t => env[t]?
  | .const v => ofConst v
  | .func f => some (.fn (.func f) [] [])
  | .global _ => none

end Go.Proofs.Ytkajafmphemedaa.Ev

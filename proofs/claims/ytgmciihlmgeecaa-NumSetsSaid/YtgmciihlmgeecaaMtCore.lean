import Derived.Orders
import Derived.LoopN
import Derived.Below
import Derived.Laws.Cells
import Derived.Laws.AppendOwn
import Derived.Laws.OwnMore
import Derived.Laws.NewBlocks
import Derived.Laws.Rows
import Derived.Maps.AppendAt
/- A plain evaluator of the code's forms: values without addresses, local variables in tables, rows as lists. No conditions: definitions, and what the evaluator's values stand for in memory. -/
namespace Go.Proofs.Ytgmciihlmgeecaa.Mt
open Go Go.RowKit

/-- One cell: a plain value; a row of n elements, by its cells; a row of the call's own, by its number; one that is not known. -/
inductive Cell where
  | v (x : Value)
  | sl (n : Nat) (cs : List Cell)
  | own (d k : Nat)
  | dead
  deriving Inhabited

/-- A slot's value: one cell; a struct or an array; the address of a local variable, of an element of a row, of one of the call's own; several results; what a skipped operation leaves; what is not known. -/
inductive CV where
  | one (c : Cell)
  | agg (cs : List Cell)
  | box (d k off : Nat)
  | elm (cs : List Cell) (off : Nat)
  | elo (d k off : Nat)
  | tup (vs : List CV)
  | un
  | no
  deriving Inhabited

/-- A row of the call's own: its element type, an element's cells, how many elements, its cells, and whether it is still the newest. -/
structure Tok where
  e : Nat
  sz : Nat
  n : Nat
  cs : List Cell
  live : Bool
  deriving Inhabited

structure St where
  tm : List CV
  bx : List (List (List Cell))
  tk : List (List Tok)
  deriving Inhabited

inductive SX where
  | t (i : Nat)
  | c (x : Value)
  | f (g : Nat)
  deriving Inhabited

inductive SOp where
  | mv (x : SX)
  | pick (c a b : SX)
  | alloc (z : List Value)
  | box (x : SX)
  | load (el ag : Bool) (n : Nat) (ks : List (Option IntKind)) (p : SX)
  | store (el : Bool) (n : Nat) (p x : SX)
  | fld (off : Nat) (p : SX)
  | ixA (len esz : Nat) (p i : SX)
  | ixS (esz : Nat) (s i : SX)
  | ixV (ag : Bool) (len esz : Nat) (ks : List (Option IntKind)) (x i : SX)
  | fldV (ag : Bool) (off n : Nat) (ks : List (Option IntKind)) (x : SX)
  | build (z : List Value) (ps : List (Nat × Nat × SX))
  | buildS (e esz n : Nat) (z : List Value) (ps : List (Nat × SX))
  | bin (o : BinOp) (x y : SX)
  | binB (neq : Bool) (x y : SX)
  | eqA (neq : Bool) (ks : List (Option IntKind)) (x y : SX)
  | un (o : UnOp) (x : SX)
  | conv (k : IntKind) (x : SX)
  | ext (i : Nat) (x : SX)
  | len (x : SX)
  | mm (mx : Bool) (xs : List SX)
  | app (e esz bytes : Nat) (z : List Value) (s x : SX)
  | slc (esz : Nat) (s : SX) (lo hi : Option SX)
  | slp (esz : Nat) (s : SX) (lo hi : Option SX)
  | call (ow pt : Bool) (f : SX) (xs : List SX)
  | pcall (f : Nat) (p : SX) (xs : List SX)
  | nilc (x : SX)
  deriving Inhabited

structure SOper where
  dst : Option Nat
  op : SOp
  guard : Option (Nat × Bool)
  deriving Inhabited

inductive SC where
  | skip
  | reg (ops : List SOper)
  | seq (a b : SC)
  | cond (x : SX) (a b : SC)
  | blk (id : Nat) (c : SC)
  | loop (ls lb lt : List Nat) (c : SC)
  | exit (id : Nat)
  | ret
  deriving Inhabited

structure Ret where
  cv : CV
  toks : List Tok := []
  deriving Inhabited

structure Ctx where
  call : Nat → List CV → Option Ret
  pcall : Nat → List Cell → List CV → Option (List Cell)

/-! ### Tables -/

def tat {α : Type} (T : List (List α)) (d k : Nat) : Option α := (T.getD d [])[k]?
def tlen {α : Type} (T : List (List α)) (d : Nat) : Nat := (T.getD d []).length
def tpush {α : Type} (T : List (List α)) (d : Nat) (xs : List α) : List (List α) := T.set d (T.getD d [] ++ xs)
def upd {α : Type} (T : List (List α)) (w : Option (Nat × Nat × α)) (d : Nat) (p : List α) : List (List α) :=
  let b := match w with
    | some (i, k, x) => T.set i ((T.getD i []).set k x)
    | none => T
  match p with
    | [] => b
    | xs => tpush b d xs
def tset {α : Type} (T : List (List α)) (d k : Nat) (y : α) : List (List α) := T.set d ((T.getD d []).set k y)

/-! ### One operation -/

def getX (st : St) : SX → CV
  | .t i => st.tm.getD i .no
  | .c x => .one (.v x)
  | .f g => .one (.v (.func (.func g) #[] #[]))

def cellsOf : CV → Option (List Cell)
  | .one c => some [c]
  | .agg cs => some cs
  | _ => none

def sliceC (cs : List Cell) (off n : Nat) (ag : Bool) : Option CV :=
  if off + n ≤ cs.length then (bif ag then some (.agg ((cs.drop off).take n)) else (cs[off]?).map .one) else none

def putC : List Cell → Nat → List Cell → List Cell
  | cs, _, [] => cs
  | cs, off, u :: us => putC (cs.set off u) (off + 1) us

/-- What is there is overwritten; where all is, what comes is told as it is. -/
def overC (cs : List Cell) (off : Nat) (us : List Cell) : Option (List Cell) :=
  if off + us.length ≤ cs.length then some (if us.length = cs.length then us else putC cs off us) else none

def shift (o : Nat) : CV → Option CV
  | .box d k off => some (.box d k (off + o))
  | .elm cs off => some (.elm cs (off + o))
  | .elo d k off => some (.elo d k (off + o))
  | _ => none

def plainC : Cell → Bool
  | .own _ _ => false
  | _ => true
def flatC : Cell → Bool
  | .v _ => true
  | _ => false
/-- No row in it but one of the call's own. -/
def noSl : Cell → Bool
  | .sl _ _ => false
  | .dead => false
  | _ => true

def fillC (cs : List Cell) : List (Nat × Nat × List Cell) → Option (List Cell)
  | [] => some cs
  | (off, size, us) :: r => if us.length = size ∧ off + us.length ≤ cs.length then fillC (putC cs off us) r else none

def binV (o : BinOp) : Value → Value → Option Value
  | .int k a, .int k' b =>
    if k = k' then match o with
      | .add => some (.int k (k.wrap (a + b)))
      | .sub => some (.int k (k.wrap (a - b)))
      | .mul => some (.int k (k.wrap (a * b)))
      | .quo => if b = 0 then none else some (.int k (k.wrap (a.tdiv b)))
      | .rem => if b = 0 then none else some (.int k (a.tmod b))
      | .eql => some (.bool (a == b))
      | .neq => some (.bool (a != b))
      | .lss => some (.bool (decide (a < b)))
      | .leq => some (.bool (decide (a ≤ b)))
      | .gtr => some (.bool (decide (a > b)))
      | .geq => some (.bool (decide (a ≥ b)))
      | _ => none
    else none
  | _, _ => none

def unV (o : UnOp) : Value → Option Value
  | .int k a => match o with
    | .neg => some (.int k (k.wrap (0 - a)))
    | _ => none
  | .bool b => match o with
    | .not => some (.bool (!b))
    | _ => none
  | _ => none

/-- Are two rows of plain cells of these kinds (none: a bool) the same? -/
def eqCells : List (Option IntKind) → List Cell → List Cell → Option Bool
  | [], [], [] => some true
  | some k :: ks, .v (.int k1 a) :: xs, .v (.int k2 b) :: ys => if k1 = k ∧ k2 = k then (eqCells ks xs ys).map ((a == b) && ·) else none
  | none :: ks, .v (.bool a) :: xs, .v (.bool b) :: ys => (eqCells ks xs ys).map ((a == b) && ·)
  | _, _, _ => none

def mmV (mx : Bool) (k : IntKind) : Int → List CV → Option Int
  | x, [] => some x
  | x, .one (.v (.int k' y)) :: r => if k' = k then mmV mx k (bif mx then (if y > x then y else x) else (if y < x then y else x)) r else none
  | _, _ => none

def liveTok (st : St) (d k : Nat) : Option Tok := (tat st.tk d k).bind fun t => if t.live = true then some t else none

def shareC (st : St) : Cell → Option Cell
  | .own d k => (liveTok st d k).map fun t => .sl t.n t.cs
  | c => some c
def shareL (st : St) : List Cell → Option (List Cell)
  | [] => some []
  | c :: r => (shareC st c).bind fun c => (shareL st r).map (c :: ·)
def argOf (ow : Bool) (st : St) : CV → Option CV
  | .one c => bif ow then (shareC st c).map .one else bif plainC c then some (.one c) else none
  | .agg cs => bif ow then (shareL st cs).map .agg else bif cs.all plainC then some (.agg cs) else none
  | _ => none
def argsOf (ow : Bool) (st : St) : List SX → Option (List CV)
  | [] => some []
  | x :: r => (argOf ow st (getX st x)).bind fun c => (argsOf ow st r).map (c :: ·)

def renC (d b : Nat) : Cell → Cell
  | .own _ k => .own d (b + k)
  | c => c
def renV1 (d b : Nat) : CV → CV
  | .one c => .one (renC d b c)
  | .agg cs => .agg (cs.map (renC d b))
  | c => c
def renV (d b : Nat) : CV → CV
  | .tup vs => .tup (vs.map (renV1 d b))
  | c => renV1 d b c

/-- A result: cells, structs, several of them; rows of the call's own are numbered in their list. -/
def okC (n : Nat) : Cell → Bool
  | .own d k => d == 0 && decide (k < n)
  | _ => true
def okV1 (n : Nat) : CV → Bool
  | .one c => okC n c
  | .agg cs => cs.all (okC n)
  | _ => false
def okV (n : Nat) : CV → Bool
  | .tup vs => vs.all (okV1 n)
  | .un => true
  | c => okV1 n c
def noSlV1 : CV → Bool
  | .one c => noSl c
  | .agg cs => cs.all noSl
  | _ => false
def noSlV : CV → Bool
  | .tup vs => vs.all noSlV1
  | .un => true
  | c => noSlV1 c
def noSlR (r : Ret) : Bool := noSlV r.cv && r.toks.all fun t => t.cs.all flatC

/-- What an operation does: its value, new variables, new rows, a variable or a row overwritten. -/
structure Res where
  val : CV
  pb : List (List Cell) := []
  pt : List Tok := []
  wb : Option (Nat × Nat × List Cell) := none
  wt : Option (Nat × Nat × Tok) := none
  deriving Inhabited

def contents (st : St) : Cell → Option (Nat × List Cell)
  | .sl n cs => some (n, cs)
  | .own d k => (liveTok st d k).map fun t => (t.n, t.cs)
  | .v (.slice none 0 0) => some (0, [])
  | _ => none

def partsA (st : St) : List (Nat × Nat × SX) → Option (List (Nat × Nat × List Cell))
  | [] => some []
  | (off, size, x) :: r => (cellsOf (getX st x)).bind fun us => (partsA st r).map ((off, size, us) :: ·)
def partsS (esz : Nat) (st : St) : List (Nat × SX) → Option (List (Nat × Nat × List Cell))
  | [] => some []
  | (i, x) :: r => (cellsOf (getX st x)).bind fun us => bif us.all plainC then (partsS esz st r).map ((i * esz, esz, us) :: ·) else none

def boundOf (st : St) (d : Nat) : Option SX → Option Nat
  | none => some d
  | some x => match getX st x with
    | .one (.v (.int _ j)) => if 0 ≤ j then some j.toNat else none
    | _ => none

def doCall (C : Ctx) (d : Nat) (st : St) (ow pt : Bool) (g : Nat) (xs : List SX) : Option Res :=
  (argsOf ow st xs).bind fun vs => (C.call g vs).bind fun r =>
    if okV r.toks.length r.cv = true ∧ (pt = false → r.toks.length = 0) ∧ (ow = true → noSlR r = true) ∧ r.toks.all (fun t => t.live && t.cs.all plainC) = true then
      some { val := bif pt then renV d (tlen st.tk d) r.cv else r.cv, pt := r.toks } else none

def fnOf : CV → Option Nat
  | .one (.v (.func (.func g) fs cs)) => if fs.size = 0 ∧ cs.size = 0 then some g else none
  | _ => none

def evOp (C : Ctx) (d : Nat) (st : St) : SOp → Option Res
  | .mv x => some { val := getX st x }
  | .pick c a b => match getX st c with
    | .one (.v (.bool q)) => some { val := bif q then getX st a else getX st b }
    | _ => none
  | .alloc z => some { val := .box d (tlen st.bx d) 0, pb := [z.map .v] }
  | .box x => (cellsOf (getX st x)).map fun cs => { val := .box d (tlen st.bx d) 0, pb := [cs] }
  | .load el ag n _ p => match el, getX st p with
    | false, .box i k off => (tat st.bx i k).bind fun cs => (sliceC cs off n ag).map fun v => { val := v }
    | true, .elm cs off => (sliceC cs off n ag).map fun v => { val := v }
    | true, .elo i k off => (liveTok st i k).bind fun t => (sliceC t.cs off n ag).map fun v => { val := v }
    | _, _ => none
  | .store el n p x => (cellsOf (getX st x)).bind fun us => if us.length = n then match el, getX st p with
    | false, .box i k off => (tat st.bx i k).bind fun cs => (overC cs off us).map fun cs' => { val := .un, wb := some (i, k, cs') }
    | true, .elo i k off => bif us.all plainC then (liveTok st i k).bind fun t => (overC t.cs off us).map fun cs' => { val := .un, wt := some (i, k, { t with cs := cs' }) } else none
    | _, _ => none else none
  | .fld o p => (shift o (getX st p)).map fun v => { val := v }
  | .ixA len esz p i => match getX st i with
    | .one (.v (.int _ j)) => if 0 ≤ j ∧ j < (len : Int) then (shift (j.toNat * esz) (getX st p)).map fun v => { val := v } else none
    | _ => none
  | .ixS esz s i => match getX st s, getX st i with
    | .one (.sl n cs), .one (.v (.int _ j)) => if 0 ≤ j ∧ j < (n : Int) ∧ j.toNat * esz < cs.length then some { val := .elm cs (j.toNat * esz) } else none
    | .one (.own a b), .one (.v (.int _ j)) => (liveTok st a b).bind fun t => if 0 ≤ j ∧ j < (t.n : Int) then some { val := .elo a b (j.toNat * esz) } else none
    | _, _ => none
  | .ixV ag len esz _ x i => match getX st x, getX st i with
    | .agg cs, .one (.v (.int _ j)) => if 0 ≤ j ∧ j < (len : Int) then (sliceC cs (j.toNat * esz) esz ag).map fun v => { val := v } else none
    | _, _ => none
  | .fldV ag off n _ x => match getX st x with
    | .agg cs => (sliceC cs off n ag).map fun v => { val := v }
    | _ => none
  | .build z ps => (partsA st ps).bind fun ps => (fillC (z.map .v) ps).map fun cs => { val := .agg cs }
  | .buildS e esz n z ps => (partsS esz st ps).bind fun ps => (fillC (z.map .v) ps).map fun cs => { val := .one (.own d (tlen st.tk d)), pt := [⟨e, esz, n, cs, true⟩] }
  | .bin o x y => match getX st x, getX st y with
    | .one (.v a), .one (.v b) => (binV o a b).map fun v => { val := .one (.v v) }
    | _, _ => none
  | .binB ne x y => match getX st x, getX st y with
    | .one (.v (.bool a)), .one (.v (.bool b)) => some { val := .one (.v (.bool (bif ne then (a != b) else (a == b)))) }
    | _, _ => none
  | .eqA ne ks x y => match getX st x, getX st y with
    | .agg a, .agg b => (eqCells ks a b).map fun q => { val := .one (.v (.bool (bif ne then !q else q))) }
    | _, _ => none
  | .un o x => match getX st x with
    | .one (.v a) => (unV o a).map fun v => { val := .one (.v v) }
    | _ => none
  | .conv k x => match getX st x with
    | .one (.v (.int _ a)) => some { val := .one (.v (.int k (k.wrap a))) }
    | _ => none
  | .ext i x => match getX st x with
    | .tup vs => (vs[i]?).map fun v => { val := v }
    | _ => none
  | .len x => match getX st x with
    | .one c => (contents st c).map fun p => { val := .one (.v (.int .i64 p.1)) }
    | _ => none
  | .mm mx xs => match xs.map (getX st) with
    | .one (.v (.int k x)) :: r => (mmV mx k x r).map fun y => { val := .one (.v (.int k y)) }
    | _ => none
  | .app e esz bytes _ s x => match getX st s, getX st x with
    | .one (.own i k), .one c => (liveTok st i k).bind fun t => (contents st c).bind fun p =>
        if (t.n + p.1) * bytes ≤ 140737488355328 ∧ t.e = e ∧ t.sz = esz ∧ 0 < esz ∧ 0 < bytes ∧ p.2.length = p.1 * esz then
          some { val := .one (.own d (tlen (tset st.tk i k { t with live := false }) d)), pt := [⟨e, esz, t.n + p.1, t.cs ++ p.2, true⟩], wt := some (i, k, { t with live := false }) } else none
    | .one (.v (.slice none 0 0)), .one c => (contents st c).bind fun p =>
        if p.1 * bytes ≤ 140737488355328 ∧ 0 < esz ∧ 0 < bytes ∧ p.2.length = p.1 * esz then
          some { val := .one (.own d (tlen st.tk d)), pt := [⟨e, esz, p.1, p.2, true⟩] } else none
    | _, _ => none
  | .slp esz s lo hi => match getX st s with
    | .one (.sl n cs) => (boundOf st 0 lo).bind fun l => (boundOf st n hi).bind fun h => if l ≤ h ∧ h ≤ n ∧ cs.length = n * esz then some { val := .one (.sl (h - l) ((cs.take (h * esz)).drop (l * esz))) } else none
    | .one (.v (.slice none 0 0)) => (boundOf st 0 lo).bind fun l => (boundOf st 0 hi).bind fun h => if l = 0 ∧ h = 0 then some { val := .one (.v (.slice none 0 0)) } else none
    | _ => none
  | .slc esz s lo hi => match getX st s with
    | .one (.sl n cs) => (boundOf st 0 lo).bind fun l => (boundOf st n hi).bind fun h => if l ≤ h ∧ h ≤ n ∧ cs.length = n * esz then some { val := .one (.sl (h - l) ((cs.take (h * esz)).drop (l * esz))) } else none
    | .one (.own i k) => (liveTok st i k).bind fun t => (boundOf st 0 lo).bind fun l => (boundOf st t.n hi).bind fun h => if l ≤ h ∧ h ≤ t.n ∧ t.sz = esz then
        some { val := .one (.sl (h - l) ((t.cs.take (h * esz)).drop (l * esz))), wt := some (i, k, { t with live := false }) } else none
    | .one (.v (.slice none 0 0)) => (boundOf st 0 lo).bind fun l => (boundOf st 0 hi).bind fun h => if l = 0 ∧ h = 0 then some { val := .one (.v (.slice none 0 0)) } else none
    | _ => none
  | .call ow pt f xs => (fnOf (getX st f)).bind fun g => doCall C d st ow pt g xs
  | .pcall g p xs => match getX st p with
    | .box i k 0 => (tat st.bx i k).bind fun cs => (argsOf false st xs).bind fun vs => (C.pcall g cs vs).bind fun cs' =>
        if cs'.length = cs.length ∧ cs.all flatC = true ∧ cs'.all flatC = true then some { val := .no, wb := some (i, k, cs') } else none
    | _ => none
  | .nilc x => match getX st x with
    | .box i k o => some { val := .box i k o }
    | .elm cs o => some { val := .elm cs o }
    | .elo i k o => some { val := .elo i k o }
    | _ => none

def applyR (dst : Option Nat) (st : St) (r : Res) : St :=
  { tm := match dst with | some d => st.tm.set d r.val | none => st.tm
    bx := upd st.bx r.wb (dst.getD 0) r.pb
    tk := upd st.tk r.wt (dst.getD 0) r.pt }

/-- What makes variables or rows has a slot. -/
def makes : SOp → Bool
  | .alloc _ | .box _ | .buildS .. | .app .. | .call _ true _ _ => true
  | _ => false

def wantedC (st : St) : Option (Nat × Bool) → Option Bool
  | none => some true
  | some (j, want) => match st.tm.getD j .no with
    | .one (.v (.bool b)) => some (b == want)
    | .un => some false
    | _ => none

def stepC (C : Ctx) (o : SOper) (st : St) : Option St :=
  match wantedC st o.guard with
  | some true => if makes o.op = true ∧ o.dst.getD st.tm.length ≥ st.tm.length then none else (evOp C (o.dst.getD 0) st o.op).map (applyR o.dst st)
  | some false => some (match o.dst with | some d => { st with tm := st.tm.set d .un } | none => st)
  | none => none

def evOps (C : Ctx) : List SOper → St → Option St
  | [], st => some st
  | o :: r, st => (stepC C o st).bind (evOps C r)

/-! ### Code -/

inductive Ex where
  | norm
  | exit (id : Nat)
  | ret
  deriving Inhabited

def keepC (lt : List Nat) (st : St) : Cell → Cell
  | .own d k => if tlen st.tk d ≤ k + lt.count d then .own d (k - (tlen st.tk d - lt.count d)) else .dead
  | c => c
def keepV (ls lb lt : List Nat) (st : St) (i : Nat) (c : CV) : CV := if ls.contains i then (match c with
    | .one (.own d k) => if tlen st.tk d ≤ k + lt.count d then .one (.own d (k - (tlen st.tk d - lt.count d))) else .no
    | .one c => .one c
    | .box d k off => if lb.contains d ∧ k + 1 = tlen st.bx d then .box d 0 off else .no
    | .agg cs => .agg (cs.map (keepC lt st))
    | .un => .un
    | _ => .no) else .no
def lastOf {α : Type} : List α → List α
  | [] => []
  | [x] => [x]
  | _ :: r => lastOf r
def keepT {α : Type} (f : α → α) (l : List Nat) : Nat → List (List α) → List (List α)
  | _, [] => []
  | d, x :: r => (if l.contains d then (lastOf x).map f else []) :: keepT f l (d + 1) r
/-- Of each list as many of the last ones as it is named. -/
def keepK {α : Type} (l : List Nat) : Nat → List (List α) → List (List α)
  | _, [] => []
  | d, x :: r => x.drop (x.length - l.count d) :: keepK l (d + 1) r
def keepTm (ls lb lt : List Nat) (st : St) : Nat → List CV → List CV
  | _, [] => []
  | i, c :: r => keepV ls lb lt st i c :: keepTm ls lb lt st (i + 1) r
/-- At a loop's head: what is not named is forgotten; of variables the newest ones are kept, by number 0; of rows as many of the newest ones as they are named. -/
def headC (ls lb lt : List Nat) (st : St) : St :=
  { tm := keepTm ls lb lt st 0 st.tm
    bx := keepT (fun cs => cs.map (keepC lt st)) lb 0 st.bx
    tk := keepK lt 0 st.tk }

/-! ### Conditions: what must hold that all goes well, and so on; Bools and numbers that are not known stay as they are -/

/-- What is told of callees: under a condition. -/
structure CtxQ where
  calls : List (Nat × (List CV → Option (Bool × Ret))) := []
  pcalls : List (Nat × (List Cell → List CV → Option (Bool × List Cell))) := []

def lookF {α : Type} : List (Nat × α) → Nat → Option α
  | [], _ => none
  | (p, b) :: r, q => bif p == q then some b else lookF r q

def CtxQ.ctx (Q : CtxQ) : Ctx :=
  { call := fun g vs => (lookF Q.calls g).bind fun f => (f vs).bind fun q => bif q.1 then some q.2 else none
    pcall := fun g cs vs => (lookF Q.pcalls g).bind fun f => (f cs vs).bind fun q => bif q.1 then some q.2 else none }

def isInt (k : IntKind) : Cell → Bool
  | .v (.int k' _) => k' == k
  | _ => false
def isBool : Cell → Bool
  | .v (.bool _) => true
  | _ => false
def intC : Cell → Int
  | .v (.int _ x) => x
  | _ => 0
def boolC : Cell → Bool
  | .v (.bool b) => b
  | _ => false
def okK : Option IntKind → Cell → Bool
  | some k, c => isInt k c
  | none, c => isBool c
def asK : Option IntKind → Cell → Cell
  | some k, c => .v (.int k (intC c))
  | none, c => .v (.bool (boolC c))
def okKs (cs : List Cell) : Nat → List (Option IntKind) → Bool
  | _, [] => true
  | off, k :: ks => okK k (cs.getD off .dead) && okKs cs (off + 1) ks
def asKs (cs : List Cell) : Nat → List (Option IntKind) → List Cell
  | _, [] => []
  | off, k :: ks => asK k (cs.getD off .dead) :: asKs cs (off + 1) ks

def loadQ (cs : List Cell) (off n : Nat) (ag : Bool) (ks : List (Option IntKind)) : Bool × CV :=
  match ag with
  | false => match ks with
    | [k] => (decide (off + n ≤ cs.length) && okK k (cs.getD off .dead), .one (asK k (cs.getD off .dead)))
    | _ => (decide (off + n ≤ cs.length), .one (cs.getD off .dead))
  | true => match decide (0 < ks.length) && decide (ks.length ≤ 8) && (ks.length == n) with
    | true => (decide (off + n ≤ cs.length) && okKs cs off ks, .agg (asKs cs off ks))
    | false => match off with
      | 0 => (cs.length == n, .agg cs)
      | off + 1 => (decide (off + 1 + n ≤ cs.length), .agg ((cs.drop (off + 1)).take n))

def overL (cs : List Cell) (off n : Nat) (us : List Cell) : List Cell := bif n == cs.length then us else putC cs off us

def boundQ (st : St) (d : Nat) : Option SX → Option (Bool × Nat)
  | none => some (true, d)
  | some x => match getX st x with
    | .one (.v (.int _ j)) => some (decide (0 ≤ j), j.toNat)
    | _ => none

def evOpQ (C : CtxQ) (d : Nat) (st : St) : SOp → Option (Bool × Res)
  | .load el ag n ks p => match el, getX st p with
    | false, .box i k off => (tat st.bx i k).map fun cs => ((loadQ cs off n ag ks).1, { val := (loadQ cs off n ag ks).2 })
    | true, .elm cs off => some ((loadQ cs off n ag ks).1, { val := (loadQ cs off n ag ks).2 })
    | true, .elo i k off => (liveTok st i k).map fun t => ((loadQ t.cs off n ag ks).1, { val := (loadQ t.cs off n ag ks).2 })
    | _, _ => none
  | .store el n p x => (cellsOf (getX st x)).bind fun us => match el, getX st p with
    | false, .box i k off => (tat st.bx i k).map fun cs => ((us.length == n) && decide (off + n ≤ cs.length), { val := .un, wb := some (i, k, overL cs off n us) })
    | true, .elo i k off => (liveTok st i k).map fun t => ((us.length == n) && decide (off + n ≤ t.cs.length) && us.all plainC, { val := .un, wt := some (i, k, { t with cs := overL t.cs off n us }) })
    | _, _ => none
  | .ixA len esz p i => match getX st i with
    | .one (.v (.int _ j)) => (shift (j.toNat * esz) (getX st p)).map fun v => (decide (0 ≤ j) && decide (j < (len : Int)), { val := v })
    | _ => none
  | .ixS esz s i => match getX st s, getX st i with
    | .one (.sl n cs), .one (.v (.int _ j)) => some (decide (0 ≤ j) && decide (j < (n : Int)) && decide (j.toNat * esz < cs.length), { val := .elm cs (j.toNat * esz) })
    | .one (.own a b), .one (.v (.int _ j)) => (liveTok st a b).map fun t => (decide (0 ≤ j) && decide (j < (t.n : Int)), { val := .elo a b (j.toNat * esz) })
    | _, _ => none
  | .ixV ag len esz ks x i => match getX st x, getX st i with
    | .agg cs, .one (.v (.int _ j)) => some (decide (0 ≤ j) && decide (j < (len : Int)) && (loadQ cs (j.toNat * esz) esz ag ks).1, { val := (loadQ cs (j.toNat * esz) esz ag ks).2 })
    | _, _ => none
  | .fldV ag off n ks x => match getX st x with
    | .agg cs => some ((loadQ cs off n ag ks).1, { val := (loadQ cs off n ag ks).2 })
    | _ => none
  | .bin o x y => match getX st x, getX st y with
    | .one (.v (.int k a)), .one (.v (.int k' b)) => match o with
      | .quo => if k = k' then some (b != 0, { val := .one (.v (.int k (k.wrap (a.tdiv b)))) }) else none
      | .rem => if k = k' then some (b != 0, { val := .one (.v (.int k (a.tmod b))) }) else none
      | o => (binV o (.int k a) (.int k' b)).map fun v => (true, { val := .one (.v v) })
    | _, _ => none
  | .app e esz bytes _ s x => match getX st s, getX st x with
    | .one (.own i k), .one c => (liveTok st i k).bind fun t => (contents st c).map fun p =>
        (decide ((t.n + p.1) * bytes ≤ 140737488355328) && (t.e == e) && (t.sz == esz) && decide (0 < esz) && decide (0 < bytes) && (p.2.length == p.1 * esz),
          { val := .one (.own d (tlen (tset st.tk i k { t with live := false }) d)), pt := [⟨e, esz, t.n + p.1, t.cs ++ p.2, true⟩], wt := some (i, k, { t with live := false }) })
    | .one (.v (.slice none 0 0)), .one c => (contents st c).map fun p =>
        (decide (p.1 * bytes ≤ 140737488355328) && decide (0 < esz) && decide (0 < bytes) && (p.2.length == p.1 * esz),
          { val := .one (.own d (tlen st.tk d)), pt := [⟨e, esz, p.1, p.2, true⟩] })
    | _, _ => none
  | .slp esz s lo hi => match getX st s with
    | .one (.sl n cs) => (boundQ st 0 lo).bind fun l => (boundQ st n hi).map fun h => (l.1 && h.1 && decide (l.2 ≤ h.2) && decide (h.2 ≤ n) && (cs.length == n * esz), { val := .one (.sl (h.2 - l.2) ((cs.take (h.2 * esz)).drop (l.2 * esz))) })
    | .one (.v (.slice none 0 0)) => (boundQ st 0 lo).bind fun l => (boundQ st 0 hi).map fun h => (l.1 && h.1 && (l.2 == 0) && (h.2 == 0), { val := .one (.v (.slice none 0 0)) })
    | _ => none
  | .slc esz s lo hi => match getX st s with
    | .one (.sl n cs) => (boundQ st 0 lo).bind fun l => (boundQ st n hi).map fun h => (l.1 && h.1 && decide (l.2 ≤ h.2) && decide (h.2 ≤ n) && (cs.length == n * esz), { val := .one (.sl (h.2 - l.2) ((cs.take (h.2 * esz)).drop (l.2 * esz))) })
    | .one (.own i k) => (liveTok st i k).bind fun t => (boundQ st 0 lo).bind fun l => (boundQ st t.n hi).map fun h => (l.1 && h.1 && decide (l.2 ≤ h.2) && decide (h.2 ≤ t.n) && (t.sz == esz),
        { val := .one (.sl (h.2 - l.2) ((t.cs.take (h.2 * esz)).drop (l.2 * esz))), wt := some (i, k, { t with live := false }) })
    | .one (.v (.slice none 0 0)) => (boundQ st 0 lo).bind fun l => (boundQ st 0 hi).map fun h => (l.1 && h.1 && (l.2 == 0) && (h.2 == 0), { val := .one (.v (.slice none 0 0)) })
    | _ => none
  | .call ow pt f xs => (fnOf (getX st f)).bind fun g => (argsOf ow st xs).bind fun vs => (lookF C.calls g).bind fun f => (f vs).map fun r =>
      (r.1 && okV r.2.toks.length r.2.cv && (pt || (r.2.toks.length == 0)) && (!ow || noSlR r.2) && r.2.toks.all (fun t => t.live && t.cs.all plainC), { val := bif pt then renV d (tlen st.tk d) r.2.cv else r.2.cv, pt := r.2.toks })
  | .pcall g p xs => match getX st p with
    | .box i k 0 => (tat st.bx i k).bind fun cs => (argsOf false st xs).bind fun vs => (lookF C.pcalls g).bind fun f => (f cs vs).map fun r =>
        (r.1 && (r.2.length == cs.length) && cs.all flatC && r.2.all flatC, { val := .no, wb := some (i, k, r.2) })
    | _ => none
  | op => (evOp C.ctx d st op).map fun r => (true, r)

def skipR (dst : Option Nat) (st : St) : St := match dst with
  | some d => { st with tm := st.tm.set d .un }
  | none => st

def opQ (C : CtxQ) (o : SOper) (st : St) (k : St → Prop) : Prop :=
  bif !(makes o.op) || decide (o.dst.getD st.tm.length < st.tm.length) then
    match evOpQ C (o.dst.getD 0) st o.op with
    | some q => bif q.1 then k (applyR o.dst st q.2) else False
    | none => False
  else False

/-- A slot's truth value is known from now on. -/
def setB (st : St) (j : Nat) (b : Bool) : St := { st with tm := st.tm.set j (.one (.v (.bool b))) }

def opsQ (C : CtxQ) : List SOper → St → (St → Prop) → Prop
  | [], st, K => K st
  | o :: r, st, K => match o.guard with
    | none => opQ C o st fun s => opsQ C r s K
    | some (j, w) => match st.tm.getD j .no with
      | .one (.v (.bool q)) => bif q then (bif w then opQ C o (setB st j true) fun s => opsQ C r s K else opsQ C r (skipR o.dst (setB st j true)) K)
          else (bif w then opsQ C r (skipR o.dst (setB st j false)) K else opQ C o (setB st j false) fun s => opsQ C r s K)
      | .un => opsQ C r (skipR o.dst st) K
      | _ => False

def loopN (body : St → (Ex → St → Prop) → Prop) (hd : St → St) (K : Ex → St → Prop) : Nat → St → Prop
  | 0, _ => False
  | n + 1, st => body (hd st) fun e s => match e with
    | .norm => loopN body hd K n s
    | e => K e s

/-- A loop that ends. -/
inductive LoopW (body : St → (Ex → St → Prop) → Prop) (hd : St → St) (K : Ex → St → Prop) (st : St) : Prop
  | of (n : Nat) (h : loopN body hd K n st)

def wpQ (C : CtxQ) : SC → St → (Ex → St → Prop) → Prop
  | .skip, st, K => K .norm st
  | .reg ops, st, K => opsQ C ops st (K .norm)
  | .seq a b, st, K => wpQ C a st fun e s => match e with
    | .norm => wpQ C b s K
    | e => K e s
  | .cond x a b, st, K => match x with
    | .t j => match st.tm.getD j .no with
      | .one (.v (.bool q)) => bif q then wpQ C a (setB st j true) K else wpQ C b (setB st j false) K
      | _ => False
    | .c (.bool q) => bif q then wpQ C a st K else wpQ C b st K
    | _ => False
  | .blk id c, st, K => wpQ C c st fun e s => match e with
    | .exit i => bif i == id then K .norm s else K (.exit i) s
    | e => K e s
  | .loop ls lb lt c, st, K => LoopW (wpQ C c) (headC ls lb lt) K st
  | .exit id, st, K => K (.exit id) st
  | .ret, st, K => K .ret st

end Go.Proofs.Ytgmciihlmgeecaa.Mt

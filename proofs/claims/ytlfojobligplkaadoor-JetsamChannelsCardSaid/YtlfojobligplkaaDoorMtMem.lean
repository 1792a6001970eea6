import Derived.Orders
import Derived.LoopN
import Derived.Below
import Derived.Laws.Cells
import Derived.Laws.AppendOwn
import Derived.Laws.OwnMore
import Derived.Laws.NewBlocks
import Derived.Laws.Rows
import Derived.Maps.AppendAt
import Derived.Laws.CopyRow
/- A plain evaluator of the code's forms: values without addresses, local variables in tables, rows as lists. No conditions: definitions, and what the evaluator's values stand for in memory. -/
namespace Go.Proofs.YtlfojobligplkaaDoor.Mt
open Go Go.RowKit

/-- One cell: a plain value; a row of n elements, by its cells; a row of the call's own, by its number; one that is not known. -/
inductive Cell where
  | v (x : Value)
  | sl (n : Nat) (cs : List Cell)
  | own (d k : Nat)
  | dead
  deriving Inhabited

/-- A slot's value: one cell; a struct or an array; the address of a local variable, of an element of a row, of one of the call's own; several results; what a skipped operation leaves; what is not known. -/
inductive CV where
  | one (c : Cell)
  | agg (cs : List Cell)
  | box (d k off : Nat)
  | elm (cs : List Cell) (off : Nat)
  | elo (d k off : Nat)
  | tup (vs : List CV)
  | un
  | no
  deriving Inhabited

/-- A row of the call's own: its element type, an element's cells, how many elements, its cells, and whether it is still the newest. -/
structure Tok where
  e : Nat
  sz : Nat
  n : Nat
  cs : List Cell
  live : Bool
  deriving Inhabited

structure St where
  tm : List CV
  bx : List (List (List Cell))
  tk : List (List Tok)
  deriving Inhabited

inductive SX where
  | t (i : Nat)
  | c (x : Value)
  | f (g : Nat)
  deriving Inhabited

/-- An operation on plain values alone: a string's length, a byte of it, a part (from, to); are two strings the same; is an interface's value nil? numbers' bits. -/
inductive Pur where
  | slen
  | sidx
  | sslc (lo hi : Bool)
  | seq (ne : Bool)
  | isNil (ne : Bool)
  | bit (o : BinOp)
  deriving Inhabited

inductive SOp where
  | mv (x : SX)
  | pick (c a b : SX)
  | alloc (z : List Value)
  | box (x : SX)
  | load (el ag : Bool) (n : Nat) (ks : List (Option IntKind)) (p : SX)
  | store (el : Bool) (n : Nat) (p x : SX)
  | fld (off : Nat) (p : SX)
  | ixA (len esz : Nat) (p i : SX)
  | ixS (esz : Nat) (s i : SX)
  | ixV (ag : Bool) (len esz : Nat) (ks : List (Option IntKind)) (x i : SX)
  | fldV (ag : Bool) (off n : Nat) (ks : List (Option IntKind)) (x : SX)
  | build (z : List Value) (ps : List (Nat × Nat × SX))
  | buildS (e esz n : Nat) (z : List Value) (ps : List (Nat × SX))
  | buildF (esz n : Nat) (z : List Value) (ps : List (Nat × SX))
  | bin (o : BinOp) (x y : SX)
  | binB (neq : Bool) (x y : SX)
  | eqA (neq : Bool) (ks : List (Option IntKind)) (x y : SX)
  | un (o : UnOp) (x : SX)
  | conv (k : IntKind) (x : SX)
  | ext (i : Nat) (x : SX)
  | len (x : SX)
  | mm (mx : Bool) (xs : List SX)
  | app (e esz bytes : Nat) (z : List Value) (s x : SX)
  | slc (esz : Nat) (s : SX) (lo hi : Option SX)
  | slp (esz : Nat) (s : SX) (lo hi : Option SX)
  | ixp (esz : Nat) (s i : SX)
  | ldp (ag : Bool) (n : Nat) (ks : List (Option IntKind)) (p : SX)
  | call (ow pt : Bool) (f : SX) (xs : List SX)
  | pcall (f : Nat) (p : SX) (xs : List SX)
  | nilc (x : SX)
  | pur (f : Pur) (xs : List SX)
  deriving Inhabited

structure SOper where
  dst : Option Nat
  op : SOp
  guard : Option (Nat × Bool)
  deriving Inhabited

inductive SC where
  | skip
  | reg (ops : List SOper)
  | seq (a b : SC)
  | cond (x : SX) (a b : SC)
  | blk (id : Nat) (c : SC)
  | loop (ls lb lt : List Nat) (c : SC)
  | exit (id : Nat)
  | ret
  deriving Inhabited

structure Ret where
  cv : CV
  toks : List Tok := []
  deriving Inhabited

structure Ctx where
  call : Nat → List CV → Option Ret
  pcall : Nat → List Cell → List CV → Option (List Cell)

/-! ### Tables -/

def tat {α : Type} (T : List (List α)) (d k : Nat) : Option α := (T.getD d [])[k]?
def tlen {α : Type} (T : List (List α)) (d : Nat) : Nat := (T.getD d []).length
def tpush {α : Type} (T : List (List α)) (d : Nat) (xs : List α) : List (List α) := T.set d (T.getD d [] ++ xs)
def upd {α : Type} (T : List (List α)) (w : Option (Nat × Nat × α)) (d : Nat) (p : List α) : List (List α) :=
  let b := match w with
    | some (i, k, x) => T.set i ((T.getD i []).set k x)
    | none => T
  match p with
    | [] => b
    | xs => tpush b d xs
def tset {α : Type} (T : List (List α)) (d k : Nat) (y : α) : List (List α) := T.set d ((T.getD d []).set k y)

/-! ### One operation -/

def getX (st : St) : SX → CV
  | .t i => st.tm.getD i .no
  | .c x => .one (.v x)
  | .f g => .one (.v (.func (.func g) #[] #[]))

def cellsOf : CV → Option (List Cell)
  | .one c => some [c]
  | .agg cs => some cs
  | _ => none

def sliceC (cs : List Cell) (off n : Nat) (ag : Bool) : Option CV :=
  if off + n ≤ cs.length then (bif ag then some (.agg ((cs.drop off).take n)) else (cs[off]?).map .one) else none

def putC : List Cell → Nat → List Cell → List Cell
  | cs, _, [] => cs
  | cs, off, u :: us => putC (cs.set off u) (off + 1) us

/-- What is there is overwritten; where all is, what comes is told as it is. -/
def overC (cs : List Cell) (off : Nat) (us : List Cell) : Option (List Cell) :=
  if off + us.length ≤ cs.length then some (if us.length = cs.length then us else putC cs off us) else none

def shift (o : Nat) : CV → Option CV
  | .box d k off => some (.box d k (off + o))
  | .elm cs off => some (.elm cs (off + o))
  | .elo d k off => some (.elo d k (off + o))
  | _ => none

def plainC : Cell → Bool
  | .own _ _ => false
  | _ => true
def flatC : Cell → Bool
  | .v _ => true
  | _ => false
/-- A row of no cells is told as one that nobody writes. -/
def nzC : Cell → Cell
  | .v x => match x with
    | .slice none 0 0 => .sl 0 []
    | x => .v x
  | c => c
/-- No row in it but one of the call's own. -/
def noSl : Cell → Bool
  | .sl _ _ => false
  | .dead => false
  | _ => true

def fillC (cs : List Cell) : List (Nat × Nat × List Cell) → Option (List Cell)
  | [] => some cs
  | (off, size, us) :: r => if us.length = size ∧ off + us.length ≤ cs.length then fillC (putC cs off us) r else none

def binV (o : BinOp) : Value → Value → Option Value
  | .int k a, .int k' b =>
    if k = k' then match o with
      | .add => some (.int k (k.wrap (a + b)))
      | .sub => some (.int k (k.wrap (a - b)))
      | .mul => some (.int k (k.wrap (a * b)))
      | .quo => if b = 0 then none else some (.int k (k.wrap (a.tdiv b)))
      | .rem => if b = 0 then none else some (.int k (a.tmod b))
      | .eql => some (.bool (a == b))
      | .neq => some (.bool (a != b))
      | .lss => some (.bool (decide (a < b)))
      | .leq => some (.bool (decide (a ≤ b)))
      | .gtr => some (.bool (decide (a > b)))
      | .geq => some (.bool (decide (a ≥ b)))
      | _ => none
    else none
  | _, _ => none

def slenV : Value → Option Value
  | .string s => some (.int .i64 (s.data.size : Nat))
  | _ => none
def sidxV : Value → Value → Option Value
  | .string s, .int _ i => if 0 ≤ i then (s.data.toList[i.toNat]?).map fun b => .int .u8 (b.toNat : Nat) else none
  | _, _ => none
def sfromV : Value → Value → Option Value
  | .string s, .int _ i => if 0 ≤ i ∧ i ≤ (s.data.size : Nat) then some (.string ⟨(s.data.toList.drop i.toNat).toArray⟩) else none
  | _, _ => none
def stoV : Value → Value → Option Value
  | .string s, .int _ j => if 0 ≤ j ∧ j ≤ (s.data.size : Nat) then some (.string ⟨(s.data.toList.take j.toNat).toArray⟩) else none
  | _, _ => none
def scutV : Value → Value → Value → Option Value
  | .string s, .int _ i, .int _ j => if 0 ≤ i ∧ i ≤ j ∧ j ≤ (s.data.size : Nat) then some (.string ⟨((s.data.toList.drop i.toNat).take (j.toNat - i.toNat)).toArray⟩) else none
  | _, _, _ => none
def seqV (ne : Bool) : Value → Value → Option Value
  | .string a, .string b => some (.bool (bif ne then !(a.data.toList == b.data.toList) else a.data.toList == b.data.toList))
  | _, _ => none
def isNilV (ne : Bool) : Value → Option Value
  | .nilIface => some (.bool (!ne))
  | _ => none
def bitV (o : BinOp) : Value → Value → Option Value
  | .int k a, .int k' b => match o with
    | .and => if k = k' then some (.int k (bits .and k a b)) else none
    | .or => if k = k' then some (.int k (bits .or k a b)) else none
    | .xor => if k = k' then some (.int k (bits .xor k a b)) else none
    | .andNot => if k = k' then some (.int k (bits .andNot k a b)) else none
    | .shl => if 0 ≤ b then some (.int k (k.wrap (a * 2 ^ min b.toNat k.bits))) else none
    | .shr => if 0 ≤ b then some (.int k (a.fdiv (2 ^ min b.toNat k.bits))) else none
    | _ => none
  | _, _ => none
def purV : Pur → List Value → Option Value
  | .bit o, [x, y] => bitV o x y
  | .slen, [x] => slenV x
  | .sidx, [x, y] => sidxV x y
  | .sslc true false, [x, y] => sfromV x y
  | .sslc false true, [x, y] => stoV x y
  | .sslc true true, [x, y, z] => scutV x y z
  | .seq ne, [x, y] => seqV ne x y
  | .isNil ne, [x] => isNilV ne x
  | _, _ => none
def valsOf : List CV → Option (List Value)
  | [] => some []
  | .one (.v x) :: r => (valsOf r).map (x :: ·)
  | _ => none

def unV (o : UnOp) : Value → Option Value
  | .int k a => match o with
    | .neg => some (.int k (k.wrap (0 - a)))
    | _ => none
  | .bool b => match o with
    | .not => some (.bool (!b))
    | _ => none
  | _ => none

/-- Are two rows of plain cells of these kinds (none: a bool) the same? -/
def eqCells : List (Option IntKind) → List Cell → List Cell → Option Bool
  | [], [], [] => some true
  | some k :: ks, .v (.int k1 a) :: xs, .v (.int k2 b) :: ys => if k1 = k ∧ k2 = k then (eqCells ks xs ys).map ((a == b) && ·) else none
  | none :: ks, .v (.bool a) :: xs, .v (.bool b) :: ys => (eqCells ks xs ys).map ((a == b) && ·)
  | _, _, _ => none

def mmV (mx : Bool) (k : IntKind) : Int → List CV → Option Int
  | x, [] => some x
  | x, .one (.v (.int k' y)) :: r => if k' = k then mmV mx k (bif mx then (if y > x then y else x) else (if y < x then y else x)) r else none
  | _, _ => none

def liveTok (st : St) (d k : Nat) : Option Tok := (tat st.tk d k).bind fun t => if t.live = true then some t else none

def shareC (st : St) : Cell → Option Cell
  | .own d k => (liveTok st d k).map fun t => .sl t.n t.cs
  | c => some c
def shareL (st : St) : List Cell → Option (List Cell)
  | [] => some []
  | c :: r => (shareC st c).bind fun c => (shareL st r).map (c :: ·)
def argOf (ow : Bool) (st : St) : CV → Option CV
  | .one c => bif ow then (shareC st c).map .one else bif plainC c then some (.one c) else none
  | .agg cs => bif ow then (shareL st cs).map .agg else bif cs.all plainC then some (.agg cs) else none
  | _ => none
def argsOf (ow : Bool) (st : St) : List SX → Option (List CV)
  | [] => some []
  | x :: r => (argOf ow st (getX st x)).bind fun c => (argsOf ow st r).map (c :: ·)

def renC (d b : Nat) : Cell → Cell
  | .own _ k => .own d (b + k)
  | c => c
def renV1 (d b : Nat) : CV → CV
  | .one c => .one (renC d b c)
  | .agg cs => .agg (cs.map (renC d b))
  | c => c
def renV (d b : Nat) : CV → CV
  | .tup vs => .tup (vs.map (renV1 d b))
  | c => renV1 d b c

/-- A result: cells, structs, several of them; rows of the call's own are numbered in their list. -/
def okC (n : Nat) : Cell → Bool
  | .own d k => d == 0 && decide (k < n)
  | _ => true
def okV1 (n : Nat) : CV → Bool
  | .one c => okC n c
  | .agg cs => cs.all (okC n)
  | _ => false
def okV (n : Nat) : CV → Bool
  | .tup vs => vs.all (okV1 n)
  | .un => true
  | c => okV1 n c
def noSlV1 : CV → Bool
  | .one c => noSl c
  | .agg cs => cs.all noSl
  | _ => false
def noSlV : CV → Bool
  | .tup vs => vs.all noSlV1
  | .un => true
  | c => noSlV1 c
def noSlR (r : Ret) : Bool := noSlV r.cv && r.toks.all fun t => t.cs.all flatC

/-- What an operation does: its value, new variables, new rows, a variable or a row overwritten. -/
structure Res where
  val : CV
  pb : List (List Cell) := []
  pt : List Tok := []
  wb : Option (Nat × Nat × List Cell) := none
  wt : Option (Nat × Nat × Tok) := none
  deriving Inhabited

def contents (st : St) : Cell → Option (Nat × List Cell)
  | .sl n cs => some (n, cs)
  | .own d k => (liveTok st d k).map fun t => (t.n, t.cs)
  | .v (.slice none 0 0) => some (0, [])
  | _ => none

def partsA (st : St) : List (Nat × Nat × SX) → Option (List (Nat × Nat × List Cell))
  | [] => some []
  | (off, size, x) :: r => (cellsOf (getX st x)).bind fun us => (partsA st r).map ((off, size, us) :: ·)
def partsS (esz : Nat) (st : St) : List (Nat × SX) → Option (List (Nat × Nat × List Cell))
  | [] => some []
  | (i, x) :: r => (cellsOf (getX st x)).bind fun us => bif us.all plainC then (partsS esz st r).map ((i * esz, esz, us) :: ·) else none

def boundOf (st : St) (d : Nat) : Option SX → Option Nat
  | none => some d
  | some x => match getX st x with
    | .one (.v (.int _ j)) => if 0 ≤ j then some j.toNat else none
    | _ => none

def doCall (C : Ctx) (d : Nat) (st : St) (ow pt : Bool) (g : Nat) (xs : List SX) : Option Res :=
  (argsOf ow st xs).bind fun vs => (C.call g vs).bind fun r =>
    if okV r.toks.length r.cv = true ∧ (pt = false → r.toks.length = 0) ∧ (ow = true → noSlR r = true) ∧ r.toks.all (fun t => t.live && t.cs.all plainC) = true then
      some { val := bif pt then renV d (tlen st.tk d) r.cv else r.cv, pt := r.toks } else none

def fnOf : CV → Option Nat
  | .one (.v (.func (.func g) fs cs)) => if fs.size = 0 ∧ cs.size = 0 then some g else none
  | _ => none

def evOp (C : Ctx) (d : Nat) (st : St) : SOp → Option Res
  | .mv x => some { val := getX st x }
  | .pick c a b => match getX st c with
    | .one (.v (.bool q)) => some { val := bif q then getX st a else getX st b }
    | _ => none
  | .alloc z => some { val := .box d (tlen st.bx d) 0, pb := [z.map .v] }
  | .box x => (cellsOf (getX st x)).map fun cs => { val := .box d (tlen st.bx d) 0, pb := [cs] }
  | .load el ag n _ p => match el, getX st p with
    | false, .box i k off => (tat st.bx i k).bind fun cs => (sliceC cs off n ag).map fun v => { val := v }
    | true, .elm cs off => (sliceC cs off n ag).map fun v => { val := v }
    | true, .elo i k off => (liveTok st i k).bind fun t => (sliceC t.cs off n ag).map fun v => { val := v }
    | _, _ => none
  | .store el n p x => (cellsOf (getX st x)).bind fun us => if us.length = n then match el, getX st p with
    | false, .box i k off => (tat st.bx i k).bind fun cs => (overC cs off us).map fun cs' => { val := .un, wb := some (i, k, cs') }
    | true, .elo i k off => bif us.all plainC then (liveTok st i k).bind fun t => (overC t.cs off us).map fun cs' => { val := .un, wt := some (i, k, { t with cs := cs' }) } else none
    | _, _ => none else none
  | .fld o p => (shift o (getX st p)).map fun v => { val := v }
  | .ixA len esz p i => match getX st i with
    | .one (.v (.int _ j)) => if 0 ≤ j ∧ j < (len : Int) then (shift (j.toNat * esz) (getX st p)).map fun v => { val := v } else none
    | _ => none
  | .ixS esz s i => match getX st s, getX st i with
    | .one (.sl n cs), .one (.v (.int _ j)) => if 0 ≤ j ∧ j < (n : Int) ∧ j.toNat * esz < cs.length then some { val := .elm cs (j.toNat * esz) } else none
    | .one (.own a b), .one (.v (.int _ j)) => (liveTok st a b).bind fun t => if 0 ≤ j ∧ j < (t.n : Int) then some { val := .elo a b (j.toNat * esz) } else none
    | _, _ => none
  | .ixp esz s i => match getX st s, getX st i with
    | .one (.sl n cs), .one (.v (.int _ j)) => if 0 ≤ j ∧ j < (n : Int) ∧ j.toNat * esz < cs.length then some { val := .elm cs (j.toNat * esz) } else none
    | _, _ => none
  | .ldp ag n _ p => match getX st p with
    | .elm cs off => (sliceC cs off n ag).map fun v => { val := v }
    | _ => none
  | .ixV ag len esz _ x i => match getX st x, getX st i with
    | .agg cs, .one (.v (.int _ j)) => if 0 ≤ j ∧ j < (len : Int) then (sliceC cs (j.toNat * esz) esz ag).map fun v => { val := v } else none
    | _, _ => none
  | .fldV ag off n _ x => match getX st x with
    | .agg cs => (sliceC cs off n ag).map fun v => { val := v }
    | _ => none
  | .build z ps => (partsA st ps).bind fun ps => (fillC (z.map .v) ps).map fun cs => { val := .agg cs }
  | .buildS e esz n z ps => (partsS esz st ps).bind fun ps => (fillC (z.map .v) ps).map fun cs => { val := .one (.own d (tlen st.tk d)), pt := [⟨e, esz, n, cs, true⟩] }
  | .buildF esz n z ps => (partsS esz st ps).bind fun ps => (fillC (z.map .v) ps).map fun cs => { val := .one (.sl n (cs.map nzC)) }
  | .bin o x y => match getX st x, getX st y with
    | .one (.v a), .one (.v b) => (binV o a b).map fun v => { val := .one (.v v) }
    | _, _ => none
  | .binB ne x y => match getX st x, getX st y with
    | .one (.v (.bool a)), .one (.v (.bool b)) => some { val := .one (.v (.bool (bif ne then (a != b) else (a == b)))) }
    | _, _ => none
  | .eqA ne ks x y => match getX st x, getX st y with
    | .agg a, .agg b => (eqCells ks a b).map fun q => { val := .one (.v (.bool (bif ne then !q else q))) }
    | _, _ => none
  | .un o x => match getX st x with
    | .one (.v a) => (unV o a).map fun v => { val := .one (.v v) }
    | _ => none
  | .conv k x => match getX st x with
    | .one (.v (.int _ a)) => some { val := .one (.v (.int k (k.wrap a))) }
    | _ => none
  | .ext i x => match getX st x with
    | .tup vs => (vs[i]?).map fun v => { val := v }
    | _ => none
  | .len x => match getX st x with
    | .one c => (contents st c).map fun p => { val := .one (.v (.int .i64 p.1)) }
    | _ => none
  | .mm mx xs => match xs.map (getX st) with
    | .one (.v (.int k x)) :: r => (mmV mx k x r).map fun y => { val := .one (.v (.int k y)) }
    | _ => none
  | .app e esz bytes _ s x => match getX st s, getX st x with
    | .one (.own i k), .one c => (liveTok st i k).bind fun t => (contents st c).bind fun p =>
        if (t.n + p.1) * bytes ≤ 140737488355328 ∧ t.e = e ∧ t.sz = esz ∧ 0 < esz ∧ 0 < bytes ∧ p.2.length = p.1 * esz then
          some { val := .one (.own d (tlen (tset st.tk i k { t with live := false }) d)), pt := [⟨e, esz, t.n + p.1, t.cs ++ p.2, true⟩], wt := some (i, k, { t with live := false }) } else none
    | .one (.v (.slice none 0 0)), .one c => (contents st c).bind fun p =>
        if p.1 * bytes ≤ 140737488355328 ∧ 0 < esz ∧ 0 < bytes ∧ p.2.length = p.1 * esz then
          some { val := .one (.own d (tlen st.tk d)), pt := [⟨e, esz, p.1, p.2, true⟩] } else none
    | _, _ => none
  | .slp esz s lo hi => match getX st s with
    | .one (.sl n cs) => (boundOf st 0 lo).bind fun l => (boundOf st n hi).bind fun h => if l ≤ h ∧ h ≤ n ∧ cs.length = n * esz then some { val := .one (.sl (h - l) ((cs.take (h * esz)).drop (l * esz))) } else none
    | .one (.v (.slice none 0 0)) => (boundOf st 0 lo).bind fun l => (boundOf st 0 hi).bind fun h => if l = 0 ∧ h = 0 then some { val := .one (.v (.slice none 0 0)) } else none
    | _ => none
  | .slc esz s lo hi => match getX st s with
    | .one (.sl n cs) => (boundOf st 0 lo).bind fun l => (boundOf st n hi).bind fun h => if l ≤ h ∧ h ≤ n ∧ cs.length = n * esz then some { val := .one (.sl (h - l) ((cs.take (h * esz)).drop (l * esz))) } else none
    | .one (.own i k) => (liveTok st i k).bind fun t => (boundOf st 0 lo).bind fun l => (boundOf st t.n hi).bind fun h => if l ≤ h ∧ h ≤ t.n ∧ t.sz = esz then
        some { val := .one (.sl (h - l) ((t.cs.take (h * esz)).drop (l * esz))), wt := some (i, k, { t with live := false }) } else none
    | .one (.v (.slice none 0 0)) => (boundOf st 0 lo).bind fun l => (boundOf st 0 hi).bind fun h => if l = 0 ∧ h = 0 then some { val := .one (.v (.slice none 0 0)) } else none
    | _ => none
  | .call ow pt f xs => (fnOf (getX st f)).bind fun g => doCall C d st ow pt g xs
  | .pcall g p xs => match getX st p with
    | .box i k 0 => (tat st.bx i k).bind fun cs => (argsOf false st xs).bind fun vs => (C.pcall g cs vs).bind fun cs' =>
        if cs'.length = cs.length ∧ cs.all flatC = true ∧ cs'.all flatC = true then some { val := .no, wb := some (i, k, cs') } else none
    | _ => none
  | .nilc x => match getX st x with
    | .box i k o => some { val := .box i k o }
    | .elm cs o => some { val := .elm cs o }
    | .elo i k o => some { val := .elo i k o }
    | _ => none
  | .pur f xs => (valsOf (xs.map (getX st))).bind fun vs => (purV f vs).map fun v => { val := .one (.v v) }

def applyR (dst : Option Nat) (st : St) (r : Res) : St :=
  { tm := match dst with | some d => st.tm.set d r.val | none => st.tm
    bx := upd st.bx r.wb (dst.getD 0) r.pb
    tk := upd st.tk r.wt (dst.getD 0) r.pt }

/-- What makes variables or rows has a slot. -/
def makes : SOp → Bool
  | .alloc _ | .box _ | .buildS .. | .app .. | .call _ true _ _ => true
  | _ => false

def wantedC (st : St) : Option (Nat × Bool) → Option Bool
  | none => some true
  | some (j, want) => match st.tm.getD j .no with
    | .one (.v (.bool b)) => some (b == want)
    | .un => some false
    | _ => none

def stepC (C : Ctx) (o : SOper) (st : St) : Option St :=
  match wantedC st o.guard with
  | some true => if makes o.op = true ∧ o.dst.getD st.tm.length ≥ st.tm.length then none else (evOp C (o.dst.getD 0) st o.op).map (applyR o.dst st)
  | some false => some (match o.dst with | some d => { st with tm := st.tm.set d .un } | none => st)
  | none => none

def evOps (C : Ctx) : List SOper → St → Option St
  | [], st => some st
  | o :: r, st => (stepC C o st).bind (evOps C r)

/-! ### Code -/

inductive Ex where
  | norm
  | exit (id : Nat)
  | ret
  deriving Inhabited

def keepC (lt : List Nat) (st : St) : Cell → Cell
  | .own d k => if tlen st.tk d ≤ k + lt.count d then .own d (k - (tlen st.tk d - lt.count d)) else .dead
  | c => c
def keepV (ls lb lt : List Nat) (st : St) (i : Nat) (c : CV) : CV := if ls.contains i then (match c with
    | .one (.own d k) => if tlen st.tk d ≤ k + lt.count d then .one (.own d (k - (tlen st.tk d - lt.count d))) else .no
    | .one c => .one c
    | .box d k off => if lb.contains d ∧ k + 1 = tlen st.bx d then .box d 0 off else .no
    | .agg cs => .agg (cs.map (keepC lt st))
    | .un => .un
    | _ => .no) else .no
def lastOf {α : Type} : List α → List α
  | [] => []
  | [x] => [x]
  | _ :: r => lastOf r
def keepT {α : Type} (f : α → α) (l : List Nat) : Nat → List (List α) → List (List α)
  | _, [] => []
  | d, x :: r => (if l.contains d then (lastOf x).map f else []) :: keepT f l (d + 1) r
/-- Of each list as many of the last ones as it is named. -/
def keepK {α : Type} (l : List Nat) : Nat → List (List α) → List (List α)
  | _, [] => []
  | d, x :: r => x.drop (x.length - l.count d) :: keepK l (d + 1) r
def keepTm (ls lb lt : List Nat) (st : St) : Nat → List CV → List CV
  | _, [] => []
  | i, c :: r => keepV ls lb lt st i c :: keepTm ls lb lt st (i + 1) r
/-- At a loop's head: what is not named is forgotten; of variables the newest ones are kept, by number 0; of rows as many of the newest ones as they are named. -/
def headC (ls lb lt : List Nat) (st : St) : St :=
  { tm := keepTm ls lb lt st 0 st.tm
    bx := keepT (fun cs => cs.map (keepC lt st)) lb 0 st.bx
    tk := keepK lt 0 st.tk }

/-! ### Conditions: what must hold that all goes well, and so on; Bools and numbers that are not known stay as they are -/

/-- What is told of callees: under a condition. -/
structure CtxQ where
  calls : List (Nat × (List CV → Option (Bool × Ret))) := []
  pcalls : List (Nat × (List Cell → List CV → Option (Bool × List Cell))) := []

def lookF {α : Type} : List (Nat × α) → Nat → Option α
  | [], _ => none
  | (p, b) :: r, q => bif p == q then some b else lookF r q

def CtxQ.ctx (Q : CtxQ) : Ctx :=
  { call := fun g vs => (lookF Q.calls g).bind fun f => (f vs).bind fun q => bif q.1 then some q.2 else none
    pcall := fun g cs vs => (lookF Q.pcalls g).bind fun f => (f cs vs).bind fun q => bif q.1 then some q.2 else none }

def isInt (k : IntKind) : Cell → Bool
  | .v (.int k' _) => k' == k
  | _ => false
def isBool : Cell → Bool
  | .v (.bool _) => true
  | _ => false
def intC : Cell → Int
  | .v (.int _ x) => x
  | _ => 0
def boolC : Cell → Bool
  | .v (.bool b) => b
  | _ => false
def okK : Option IntKind → Cell → Bool
  | some k, c => isInt k c
  | none, c => isBool c
def asK : Option IntKind → Cell → Cell
  | some k, c => .v (.int k (intC c))
  | none, c => .v (.bool (boolC c))
def okKs (cs : List Cell) : Nat → List (Option IntKind) → Bool
  | _, [] => true
  | off, k :: ks => okK k (cs.getD off .dead) && okKs cs (off + 1) ks
def asKs (cs : List Cell) : Nat → List (Option IntKind) → List Cell
  | _, [] => []
  | off, k :: ks => asK k (cs.getD off .dead) :: asKs cs (off + 1) ks

def loadQ (cs : List Cell) (off n : Nat) (ag : Bool) (ks : List (Option IntKind)) : Bool × CV :=
  match ag with
  | false => match ks with
    | [k] => (decide (off + n ≤ cs.length) && okK k (cs.getD off .dead), .one (asK k (cs.getD off .dead)))
    | _ => (decide (off + n ≤ cs.length), .one (cs.getD off .dead))
  | true => match decide (0 < ks.length) && decide (ks.length ≤ 8) && (ks.length == n) with
    | true => (decide (off + n ≤ cs.length) && okKs cs off ks, .agg (asKs cs off ks))
    | false => match off with
      | 0 => (cs.length == n, .agg cs)
      | off + 1 => (decide (off + 1 + n ≤ cs.length), .agg ((cs.drop (off + 1)).take n))

/-- A row, as an element of a row. -/
def isRw : Cell → Bool
  | .sl _ _ => true
  | _ => false
def rwN : Cell → Nat
  | .sl n _ => n
  | _ => 0
def rwL : Cell → List Cell
  | .sl _ cs => cs
  | _ => []
theorem rw_eta {c : Cell} (h : isRw c = true) : c = .sl (rwN c) (rwL c) := by cases c <;> first | rfl | (cases h; done)
def loadE (cs : List Cell) (off n : Nat) (ag : Bool) (ks : List (Option IntKind)) : Bool × CV := match ag, ks with
  | false, [] => (decide (off + n ≤ cs.length) && isRw (cs.getD off .dead), .one (.sl (rwN (cs.getD off .dead)) (rwL (cs.getD off .dead))))
  | ag, ks => loadQ cs off n ag ks

def overL (cs : List Cell) (off n : Nat) (us : List Cell) : List Cell := bif n == cs.length then us else putC cs off us

def boundQ (st : St) (d : Nat) : Option SX → Option (Bool × Nat)
  | none => some (true, d)
  | some x => match getX st x with
    | .one (.v (.int _ j)) => some (decide (0 ≤ j), j.toNat)
    | _ => none

def evOpQ (C : CtxQ) (d : Nat) (st : St) : SOp → Option (Bool × Res)
  | .load el ag n ks p => match el, getX st p with
    | false, .box i k off => (tat st.bx i k).map fun cs => ((loadQ cs off n ag ks).1, { val := (loadQ cs off n ag ks).2 })
    | true, .elm cs off => some ((loadE cs off n ag ks).1, { val := (loadE cs off n ag ks).2 })
    | true, .elo i k off => (liveTok st i k).map fun t => ((loadQ t.cs off n ag ks).1, { val := (loadQ t.cs off n ag ks).2 })
    | _, _ => none
  | .store el n p x => (cellsOf (getX st x)).bind fun us => match el, getX st p with
    | false, .box i k off => (tat st.bx i k).map fun cs => ((us.length == n) && decide (off + n ≤ cs.length), { val := .un, wb := some (i, k, overL cs off n us) })
    | true, .elo i k off => (liveTok st i k).map fun t => ((us.length == n) && decide (off + n ≤ t.cs.length) && us.all plainC, { val := .un, wt := some (i, k, { t with cs := overL t.cs off n us }) })
    | _, _ => none
  | .ixA len esz p i => match getX st i with
    | .one (.v (.int _ j)) => (shift (j.toNat * esz) (getX st p)).map fun v => (decide (0 ≤ j) && decide (j < (len : Int)), { val := v })
    | _ => none
  | .ixS esz s i => match getX st s, getX st i with
    | .one (.sl n cs), .one (.v (.int _ j)) => some (decide (0 ≤ j) && decide (j < (n : Int)) && decide (j.toNat * esz < cs.length), { val := .elm cs (j.toNat * esz) })
    | .one (.own a b), .one (.v (.int _ j)) => (liveTok st a b).map fun t => (decide (0 ≤ j) && decide (j < (t.n : Int)), { val := .elo a b (j.toNat * esz) })
    | _, _ => none
  | .ixp esz s i => match getX st s, getX st i with
    | .one (.sl n cs), .one (.v (.int _ j)) => some (decide (0 ≤ j) && decide (j < (n : Int)) && decide (j.toNat * esz < cs.length), { val := .elm cs (j.toNat * esz) })
    | _, _ => none
  | .ldp ag n ks p => match getX st p with
    | .elm cs off => some ((loadE cs off n ag ks).1, { val := (loadE cs off n ag ks).2 })
    | _ => none
  | .ixV ag len esz ks x i => match getX st x, getX st i with
    | .agg cs, .one (.v (.int _ j)) => some (decide (0 ≤ j) && decide (j < (len : Int)) && (loadQ cs (j.toNat * esz) esz ag ks).1, { val := (loadQ cs (j.toNat * esz) esz ag ks).2 })
    | _, _ => none
  | .fldV ag off n ks x => match getX st x with
    | .agg cs => some ((loadQ cs off n ag ks).1, { val := (loadQ cs off n ag ks).2 })
    | _ => none
  | .bin o x y => match getX st x, getX st y with
    | .one (.v (.int k a)), .one (.v (.int k' b)) => match o with
      | .quo => if k = k' then some (b != 0, { val := .one (.v (.int k (k.wrap (a.tdiv b)))) }) else none
      | .rem => if k = k' then some (b != 0, { val := .one (.v (.int k (a.tmod b))) }) else none
      | o => (binV o (.int k a) (.int k' b)).map fun v => (true, { val := .one (.v v) })
    | _, _ => none
  | .app e esz bytes _ s x => match getX st s, getX st x with
    | .one (.own i k), .one c => (liveTok st i k).bind fun t => (contents st c).map fun p =>
        (decide ((t.n + p.1) * bytes ≤ 140737488355328) && (t.e == e) && (t.sz == esz) && decide (0 < esz) && decide (0 < bytes) && (p.2.length == p.1 * esz),
          { val := .one (.own d (tlen (tset st.tk i k { t with live := false }) d)), pt := [⟨e, esz, t.n + p.1, t.cs ++ p.2, true⟩], wt := some (i, k, { t with live := false }) })
    | .one (.v (.slice none 0 0)), .one c => (contents st c).map fun p =>
        (decide (p.1 * bytes ≤ 140737488355328) && decide (0 < esz) && decide (0 < bytes) && (p.2.length == p.1 * esz),
          { val := .one (.own d (tlen st.tk d)), pt := [⟨e, esz, p.1, p.2, true⟩] })
    | _, _ => none
  | .slp esz s lo hi => match getX st s with
    | .one (.sl n cs) => (boundQ st 0 lo).bind fun l => (boundQ st n hi).map fun h => (l.1 && h.1 && decide (l.2 ≤ h.2) && decide (h.2 ≤ n) && (cs.length == n * esz), { val := .one (.sl (h.2 - l.2) ((cs.take (h.2 * esz)).drop (l.2 * esz))) })
    | .one (.v (.slice none 0 0)) => (boundQ st 0 lo).bind fun l => (boundQ st 0 hi).map fun h => (l.1 && h.1 && (l.2 == 0) && (h.2 == 0), { val := .one (.v (.slice none 0 0)) })
    | _ => none
  | .slc esz s lo hi => match getX st s with
    | .one (.sl n cs) => (boundQ st 0 lo).bind fun l => (boundQ st n hi).map fun h => (l.1 && h.1 && decide (l.2 ≤ h.2) && decide (h.2 ≤ n) && (cs.length == n * esz), { val := .one (.sl (h.2 - l.2) ((cs.take (h.2 * esz)).drop (l.2 * esz))) })
    | .one (.own i k) => (liveTok st i k).bind fun t => (boundQ st 0 lo).bind fun l => (boundQ st t.n hi).map fun h => (l.1 && h.1 && decide (l.2 ≤ h.2) && decide (h.2 ≤ t.n) && (t.sz == esz),
        { val := .one (.sl (h.2 - l.2) ((t.cs.take (h.2 * esz)).drop (l.2 * esz))), wt := some (i, k, { t with live := false }) })
    | .one (.v (.slice none 0 0)) => (boundQ st 0 lo).bind fun l => (boundQ st 0 hi).map fun h => (l.1 && h.1 && (l.2 == 0) && (h.2 == 0), { val := .one (.v (.slice none 0 0)) })
    | _ => none
  | .call ow pt f xs => (fnOf (getX st f)).bind fun g => (argsOf ow st xs).bind fun vs => (lookF C.calls g).bind fun f => (f vs).map fun r =>
      (r.1 && okV r.2.toks.length r.2.cv && (pt || (r.2.toks.length == 0)) && (!ow || noSlR r.2) && r.2.toks.all (fun t => t.live && t.cs.all plainC), { val := bif pt then renV d (tlen st.tk d) r.2.cv else r.2.cv, pt := r.2.toks })
  | .pcall g p xs => match getX st p with
    | .box i k 0 => (tat st.bx i k).bind fun cs => (argsOf false st xs).bind fun vs => (lookF C.pcalls g).bind fun f => (f cs vs).map fun r =>
        (r.1 && (r.2.length == cs.length) && cs.all flatC && r.2.all flatC, { val := .no, wb := some (i, k, r.2) })
    | _ => none
  | op => (evOp C.ctx d st op).map fun r => (true, r)

def skipR (dst : Option Nat) (st : St) : St := match dst with
  | some d => { st with tm := st.tm.set d .un }
  | none => st

/-- A slot's truth value is known from now on. -/
def setB (st : St) (j : Nat) (b : Bool) : St := { st with tm := st.tm.set j (.one (.v (.bool b))) }

end Go.Proofs.YtlfojobligplkaaDoor.Mt

/-! What the evaluator's values stand for in memory, and that it lasts while memory only grows. Conditions: those that each lemma names. -/
namespace Go.Proofs.YtlfojobligplkaaDoor.Mt
open Go Go.RowKit

structure Env where
  F : Nat → Prop
  φ : Nat → Nat → Nat
  γ : Nat → Nat → Value
  B : Nat → Nat → Prop
  T : Nat → Nat → Prop

/-- A plain cell's value: a row lies in blocks that nobody writes any more. -/
inductive RelC (w : World) (F : Nat → Prop) : Cell → Value → Prop
  | v {x : Value} (h : x.oneCell' = true) : RelC w F (.v x) x
  | sl {n : Nat} {cs : List Cell} {A : Option Addr} {cap : Nat} (xs : List Value) (hn : n ≤ cap) (hl : xs.length = cs.length)
      (hx : cs ≠ [] → ∃ a, A = some a ∧ F a.block ∧ ∀ j x, xs[j]? = some x → w.cell? (a.add j) = some x)
      (hr : ∀ (j : Nat) (c : Cell) (x : Value), cs[j]? = some c → xs[j]? = some x → RelC w F c x) : RelC w F (.sl n cs) (.slice A n cap)
  | dead {u : Value} (h : u.oneCell' = true) : RelC w F .dead u

theorem RelC.one {w : World} {F : Nat → Prop} {c : Cell} {u : Value} (h : RelC w F c u) : u.oneCell' = true := by
  cases h <;> first | assumption | rfl

theorem RelC.mono {w w' : World} {F F' : Nat → Prop} (hF : ∀ b, F b → F' b ∧ w'.heap[b]? = w.heap[b]?) {c : Cell} {u : Value} (h : RelC w F c u) : RelC w' F' c u := by
  induction h with
  | v h => exact .v h
  | sl xs hn hl hx hr ih =>
    refine .sl xs hn hl (fun hne => ?_) ih
    obtain ⟨a, rfl, hf, hc⟩ := hx hne
    refine ⟨a, rfl, (hF _ hf).1, fun j x hj => ?_⟩
    have hb : (a.add j).block = a.block := by unfold Addr.add; split <;> rfl
    have := hc j x hj
    rw [World.cell?_of_block (w := w) (by rw [hb]; exact (hF _ hf).2)]
    exact this
  | dead h => exact .dead h

def RelC1 (w : World) (E : Env) : Cell → Value → Prop
  | .own d k, u => E.T d k ∧ u = E.γ d k ∧ u.oneCell' = true
  | c, u => RelC w E.F c u

theorem RelC1.one {w : World} {E : Env} {c : Cell} {u : Value} (h : RelC1 w E c u) : u.oneCell' = true := by
  cases c <;> first | exact h.2.2 | exact RelC.one h

theorem RelC1.of_plain {w : World} {E : Env} {c : Cell} {u : Value} (h : RelC1 w E c u) (hp : plainC c = true) : RelC w E.F c u := by
  cases c <;> first | exact h | simp [plainC] at hp

theorem RelC.to1 {w : World} {E : Env} {c : Cell} {u : Value} (h : RelC w E.F c u) : RelC1 w E c u := by
  cases h <;> first | exact RelC.v ‹_› | exact RelC.dead ‹_› | exact RelC.sl _ ‹_› ‹_› ‹_› ‹_›

structure Le (w : World) (E : Env) (w' : World) (E' : Env) : Prop where
  f : ∀ b, E.F b → E'.F b ∧ w'.heap[b]? = w.heap[b]?
  b : ∀ d k, E.B d k → E'.B d k ∧ E'.φ d k = E.φ d k
  t : ∀ d k, E.T d k → E'.T d k ∧ E'.γ d k = E.γ d k

theorem RelC1.mono {w w' : World} {E E' : Env} (hE : Le w E w' E') {c : Cell} {u : Value} (h : RelC1 w E c u) : RelC1 w' E' c u := by
  cases c with
  | own d k =>
    obtain ⟨ht, rfl, ho⟩ := h
    exact ⟨(hE.t d k ht).1, (hE.t d k ht).2.symm, ho⟩
  | _ => exact RelC.mono hE.f h

def RelL (w : World) (E : Env) (cs : List Cell) (us : List Value) : Prop :=
  cs.length = us.length ∧ ∀ (j : Nat) (c : Cell) (u : Value), cs[j]? = some c → us[j]? = some u → RelC1 w E c u

/-- The same, with no row of the call's own. -/
def RelP (w : World) (F : Nat → Prop) (cs : List Cell) (us : List Value) : Prop :=
  cs.length = us.length ∧ ∀ (j : Nat) (c : Cell) (u : Value), cs[j]? = some c → us[j]? = some u → RelC w F c u

theorem RelL.mono {w w' : World} {E E' : Env} (hE : Le w E w' E') {cs : List Cell} {us : List Value} (h : RelL w E cs us) : RelL w' E' cs us :=
  ⟨h.1, fun j c u hc hu => (h.2 j c u hc hu).mono hE⟩
theorem RelP.mono {w w' : World} {F F' : Nat → Prop} (hF : ∀ b, F b → F' b ∧ w'.heap[b]? = w.heap[b]?) {cs : List Cell} {us : List Value} (h : RelP w F cs us) : RelP w' F' cs us :=
  ⟨h.1, fun j c u hc hu => (h.2 j c u hc hu).mono hF⟩
theorem RelP.toL {w : World} {E : Env} {cs : List Cell} {us : List Value} (h : RelP w E.F cs us) : RelL w E cs us :=
  ⟨h.1, fun j c u hc hu => (h.2 j c u hc hu).to1⟩
theorem RelL.toP {w : World} {E : Env} {cs : List Cell} {us : List Value} (h : RelL w E cs us) (hp : cs.all plainC = true) : RelP w E.F cs us :=
  ⟨h.1, fun j c u hc hu => (h.2 j c u hc hu).of_plain (List.all_eq_true.1 hp c (List.mem_of_getElem? hc))⟩

def RelV1 (w : World) (E : Env) : CV → Value → Prop
  | .one c, u => RelC1 w E c u
  | .agg cs, u => ∃ us : List Value, u = .agg us.toArray ∧ RelL w E cs us
  | _, _ => False

def RelE (w : World) (F : Nat → Prop) (cs : List Cell) (a : Addr) : Prop :=
  ∃ xs : List Value, F a.block ∧ xs.length = cs.length ∧ (∀ j x, xs[j]? = some x → w.cell? (a.add j) = some x) ∧ ∀ (j : Nat) (c : Cell) (x : Value), cs[j]? = some c → xs[j]? = some x → RelC w F c x

def RelV (w : World) (E : Env) : CV → Value → Prop
  | .box d k off, u => E.B d k ∧ u = .pointer (some ⟨E.φ d k, off, none⟩)
  | .elm cs off, u => ∃ a, u = .pointer (some (a.add off)) ∧ RelE w E.F cs a
  | .elo d k off, u => E.T d k ∧ ∃ g n cap, E.γ d k = .slice (some ⟨g, 0, none⟩) n cap ∧ u = .pointer (some ⟨g, off, none⟩)
  | .tup vs, u => ∃ us : List Value, u = .tuple us.toArray ∧ vs.length = us.length ∧ ∀ (j : Nat) (v : CV) (x : Value), vs[j]? = some v → us[j]? = some x → RelV1 w E v x
  | .un, u => u = undef
  | .no, _ => True
  | c, u => RelV1 w E c u

theorem RelV1.mono {w w' : World} {E E' : Env} (hE : Le w E w' E') {c : CV} {u : Value} (h : RelV1 w E c u) : RelV1 w' E' c u := by
  cases c with
  | one c => exact RelC1.mono hE h
  | agg cs => obtain ⟨us, rfl, hl⟩ := h; exact ⟨us, rfl, hl.mono hE⟩
  | _ => exact h.elim

theorem RelE.mono {w w' : World} {F F' : Nat → Prop} (hF : ∀ b, F b → F' b ∧ w'.heap[b]? = w.heap[b]?) {cs : List Cell} {a : Addr} (h : RelE w F cs a) : RelE w' F' cs a := by
  obtain ⟨xs, hf, hl, hc, hr⟩ := h
  refine ⟨xs, (hF _ hf).1, hl, fun j x hj => ?_, fun j c x h1 h2 => (hr j c x h1 h2).mono hF⟩
  have hb : (a.add j).block = a.block := by unfold Addr.add; split <;> rfl
  rw [World.cell?_of_block (w := w) (by rw [hb]; exact (hF _ hf).2)]
  exact hc j x hj

theorem RelV.of1 {w : World} {E : Env} {c : CV} {u : Value} (h : RelV1 w E c u) : RelV w E c u := by
  cases c <;> first | exact h | exact h.elim

theorem RelV.mono {w w' : World} {E E' : Env} (hE : Le w E w' E') {c : CV} {u : Value} (h : RelV w E c u) : RelV w' E' c u := by
  cases c with
  | one c => exact RelV1.mono (c := .one c) hE h
  | agg cs => exact RelV1.mono (c := .agg cs) hE h
  | box d k off => exact ⟨(hE.b d k h.1).1, by rw [(hE.b d k h.1).2]; exact h.2⟩
  | elm cs off => obtain ⟨a, hu, he⟩ := h; exact ⟨a, hu, he.mono hE.f⟩
  | elo d k off => obtain ⟨ht, g, n, cap, hg, hu⟩ := h; exact ⟨(hE.t d k ht).1, g, n, cap, by rw [(hE.t d k ht).2]; exact hg, hu⟩
  | tup vs => obtain ⟨us, hu, hl, hr⟩ := h; exact ⟨us, hu, hl, fun j v x h1 h2 => (hr j v x h1 h2).mono hE⟩
  | un => exact h
  | no => trivial

theorem RelV.cells {w : World} {E : Env} {c : CV} {u : Value} (h : RelV w E c u) {cs : List Cell} (hc : cellsOf c = some cs) : RelL w E cs u.cells.toList := by
  cases c with
  | one c =>
    simp only [cellsOf, Option.some.injEq] at hc
    subst hc
    have ho := RelC1.one (w := w) (E := E) (c := c) (u := u) h
    have hu : u.cells = #[u] := by cases u <;> first | rfl | simp [Value.oneCell'] at ho
    rw [hu]
    refine ⟨rfl, fun j c' u' h1 h2 => ?_⟩
    cases j with
    | zero => simp at h1 h2; subst h1; subst h2; exact h
    | succ j => simp at h1
  | agg cs' =>
    simp only [cellsOf, Option.some.injEq] at hc
    subst hc
    obtain ⟨us, rfl, hl⟩ := h
    simpa [Value.cells] using hl
  | _ => simp [cellsOf] at hc

/-! ### The evaluator's state and the machine's -/

/-- Where a call begins: the world; and the blocks there before it that it may write (none, but for a variable that is handed in by its address). -/
structure Base where
  w : World
  X : Nat → Prop

structure BelX (W0 : Base) (w : World) : Prop where
  os : w.os = W0.w.os
  tape : w.tape = W0.w.tape
  output : w.output = W0.w.output
  size : W0.w.heap.size ≤ w.heap.size
  block : ∀ k, k < W0.w.heap.size → ¬ W0.X k → w.heap[k]? = W0.w.heap[k]?

theorem BelX.trans {W0 : Base} {w w' : World} (h : BelX W0 w) (ho : w'.os = w.os) (ht : w'.tape = w.tape) (hu : w'.output = w.output) (hs : w.heap.size ≤ w'.heap.size) (hb : ∀ k, k < W0.w.heap.size → ¬ W0.X k → w'.heap[k]? = w.heap[k]?) : BelX W0 w' :=
  ⟨ho.trans h.os, ht.trans h.tape, hu.trans h.output, Nat.le_trans h.size hs, fun k hk hx => (hb k hk hx).trans (h.block k hk hx)⟩
theorem BelX.below {W0 : Base} {w w' : World} (h : BelX W0 w) (hb : Below w.heap.size w w') : BelX W0 w' :=
  h.trans hb.os hb.tape hb.output hb.size fun k hk _ => hb.block k (Nat.lt_of_lt_of_le hk h.size)


def Fx (W0 : Base) (S0 : Nat → Prop) (φ : Nat → Nat → Nat) (γ : Nat → Nat → Value) (st : St) (w : World) (b : Nat) : Prop :=
  b < w.heap.size ∧ (b < W0.w.heap.size → S0 b) ∧ (∀ d k cs, tat st.bx d k = some cs → φ d k ≠ b) ∧ ∀ d k t, tat st.tk d k = some t → t.live = true → (γ d k).ownBlock ≠ some b

def envOf (W0 : Base) (S0 : Nat → Prop) (φ : Nat → Nat → Nat) (γ : Nat → Nat → Value) (st : St) (w : World) : Env :=
  { F := Fx W0 S0 φ γ st w, φ := φ, γ := γ, B := fun d k => ∃ cs, tat st.bx d k = some cs, T := fun d k => ∃ t, tat st.tk d k = some t }

/-- The tables' part. -/
structure Mem (W0 : Base) (S0 : Nat → Prop) (φ : Nat → Nat → Nat) (γ : Nat → Nat → Value) (st : St) (w : World) : Prop where
  bel : BelX W0 w
  bxs : ∀ d k cs, tat st.bx d k = some cs → (W0.w.heap.size ≤ φ d k ∨ W0.X (φ d k)) ∧ ∃ us T, w.heap[φ d k]? = some (.cells us T (0, 0)) ∧ RelL w (envOf W0 S0 φ γ st w) cs us.toList
  bxi : ∀ d k cs d' k' cs', tat st.bx d k = some cs → tat st.bx d' k' = some cs' → φ d k = φ d' k' → d = d' ∧ k = k'
  tks : ∀ d k t, tat st.tk d k = some t → t.live = true → ∃ xs, w.ownsRow W0.w.heap.size t.e t.sz (γ d k) t.n xs ∧ RelP w (Fx W0 S0 φ γ st w) t.cs xs
  tki : ∀ d k t d' k' t' b, tat st.tk d k = some t → t.live = true → tat st.tk d' k' = some t' → t'.live = true → (γ d k).ownBlock = some b → (γ d' k').ownBlock = some b → d = d' ∧ k = k'
  tkb : ∀ d k t d' k' cs, tat st.tk d k = some t → t.live = true → tat st.bx d' k' = some cs → (γ d k).ownBlock ≠ some (φ d' k')

structure Rep (W0 : Base) (S0 : Nat → Prop) (φ : Nat → Nat → Nat) (γ : Nat → Nat → Value) (st : St) (a : Act) (w : World) : Prop where
  mem : Mem W0 S0 φ γ st w
  dfr : a.defers = []
  siz : a.tmps.size = st.tm.length
  tms : ∀ (i : Nat) (c : CV) (u : Value), st.tm[i]? = some c → a.tmps[i]? = some u → RelV w (envOf W0 S0 φ γ st w) c u

theorem Rep.getT {W0 : Base} {S0 : Nat → Prop} {φ : Nat → Nat → Nat} {γ : Nat → Nat → Value} {st : St} {a : Act} {w : World} (h : Rep W0 S0 φ γ st a w) (i : Nat) :
    RelV w (envOf W0 S0 φ γ st w) (st.tm.getD i .no) (a.tmps.getD i undef) := by
  by_cases hi : i < st.tm.length
  · have hi' : i < a.tmps.size := by rw [h.siz]; exact hi
    have := h.tms i _ _ (List.getElem?_eq_getElem hi) (Array.getElem?_eq_getElem hi')
    rw [List.getD_eq_getElem?_getD, List.getElem?_eq_getElem hi, Option.getD_some, Array.getD_eq_getD_getElem?, Array.getElem?_eq_getElem hi', Option.getD_some]
    exact this
  · rw [List.getD_eq_getElem?_getD, List.getElem?_eq_none (by omega), Option.getD_none]
    trivial

/-- A slot is written, the tables being as they are told. -/
theorem Rep.put {W0 : Base} {S0 : Nat → Prop} {φ φ' : Nat → Nat → Nat} {γ γ' : Nat → Nat → Value} {st : St} {a : Act} {w w' : World} (h : Rep W0 S0 φ γ st a w) (dst : Option Nat) (r : Res) (u : Value)
    (hmem : Mem W0 S0 φ' γ' (applyR dst st r) w') (hle : Le w (envOf W0 S0 φ γ st w) w' (envOf W0 S0 φ' γ' (applyR dst st r) w'))
    (hv : ∀ d, dst = some d → RelV w' (envOf W0 S0 φ' γ' (applyR dst st r) w') r.val u) : Rep W0 S0 φ' γ' (applyR dst st r) (a.put dst u) w' := by
  refine ⟨hmem, ?_, ?_, ?_⟩
  · cases dst <;> exact h.dfr
  · cases dst with
    | none => exact h.siz
    | some d => simp [Act.put, applyR, h.siz]
  · intro i c x hc hx
    cases dst with
    | none => exact (h.tms i c x hc hx).mono hle
    | some d =>
      simp only [applyR] at hc
      simp only [Act.put] at hx
      by_cases e : d = i
      · subst e
        rw [List.getElem?_set_self'] at hc
        rw [Array.getElem?_setIfInBounds_self] at hx
        split at hx
        · rename_i hlt
          rw [h.siz] at hlt
          rw [List.getElem?_eq_getElem hlt] at hc
          simp at hc hx
          subst hc; subst hx
          exact hv d rfl
        · simp at hx
      · rw [List.getElem?_set_ne e] at hc
        rw [Array.getElem?_setIfInBounds_ne e] at hx
        exact (h.tms i c x hc hx).mono hle

end Go.Proofs.YtlfojobligplkaaDoor.Mt

/-! The tables while memory turns: a new variable, one overwritten, a new row of the call's own, one overwritten, one that is another one from now on. Conditions: those that each lemma names. -/
namespace Go.Proofs.YtlfojobligplkaaDoor.Mt
open Go Go.RowKit

/-! ### Tables -/
section
variable {α : Type} {T : List (List α)} {d k : Nat}

theorem getD_set {T : List (List α)} {d : Nat} (hd : d < T.length) (x : List α) (d' : Nat) : (T.set d x).getD d' [] = if d' = d then x else T.getD d' [] := by
  simp only [List.getD_eq_getElem?_getD]
  by_cases e : d' = d
  · subst e; rw [List.getElem?_set_self hd, if_pos rfl]; rfl
  · rw [List.getElem?_set_ne (by omega), if_neg e]

theorem tat_lt {x : α} (h : tat T d k = some x) : d < T.length ∧ k < tlen T d := by
  unfold tat tlen at *
  have hk := (List.getElem?_eq_some_iff.1 h).1
  refine ⟨?_, hk⟩
  apply Classical.byContradiction
  intro hn
  rw [List.getD_eq_getElem?_getD, List.getElem?_eq_none (by omega)] at hk
  simp at hk

theorem tat_push (hd : d < T.length) (xs : List α) (d' k' : Nat) :
    tat (tpush T d xs) d' k' = if d' = d ∧ tlen T d ≤ k' then xs[k' - tlen T d]? else tat T d' k' := by
  unfold tat tpush tlen
  rw [getD_set hd]
  by_cases e : d' = d
  · subst e
    rw [if_pos rfl]
    by_cases h : (T.getD d' []).length ≤ k'
    · rw [if_pos ⟨rfl, h⟩, List.getElem?_append_right h]
    · rw [if_neg (fun x => h x.2), List.getElem?_append_left (by omega)]
  · rw [if_neg e, if_neg (fun x => e x.1)]

theorem tat_set {x : α} (h : tat T d k = some x) (y : α) (d' k' : Nat) : tat (tset T d k y) d' k' = if d' = d ∧ k' = k then some y else tat T d' k' := by
  have hd := (tat_lt h).1
  have hk := (tat_lt h).2
  unfold tat tset
  rw [getD_set hd]
  by_cases e : d' = d
  · subst e
    rw [if_pos rfl]
    by_cases e2 : k' = k
    · subst e2
      rw [if_pos ⟨rfl, rfl⟩, List.getElem?_set_self hk]
    · rw [if_neg (fun x => e2 x.2), List.getElem?_set_ne (by omega)]
  · rw [if_neg e, if_neg (fun x => e x.1)]

theorem tlen_set (d k : Nat) (y : α) (d' : Nat) : tlen (tset T d k y) d' = tlen T d' := by
  unfold tlen tset
  by_cases hd : d < T.length
  · rw [getD_set hd]
    split
    · rename_i e; subst e; simp
    · rfl
  · rw [List.set_eq_of_length_le (by omega)]

theorem tset_length (d k : Nat) (y : α) : (tset T d k y).length = T.length := by simp [tset]
theorem tpush_length (d : Nat) (xs : List α) : (tpush T d xs).length = T.length := by simp [tpush]

/-- Behind a write or a push the tables have what they had, or more. -/
theorem tat_push_old {x : α} (xs : List α) (d' : Nat) (h : tat T d k = some x) : tat (tpush T d' xs) d k = some x := by
  by_cases hd : d' < T.length
  · rw [tat_push hd, if_neg]
    · exact h
    · intro ⟨e, h2⟩
      subst e
      have := (tat_lt h).2
      omega
  · unfold tpush
    rw [List.set_eq_of_length_le (by omega)]
    exact h
end

/-! ### A part overwritten -/

theorem putC_length : ∀ (us cs : List Cell) (off : Nat), (putC cs off us).length = cs.length
  | [], cs, off => rfl
  | u :: us, cs, off => by rw [putC, putC_length us]; simp

theorem putC_get : ∀ (us cs : List Cell) (off : Nat), off + us.length ≤ cs.length → ∀ j, (putC cs off us)[j]? = if off ≤ j ∧ j < off + us.length then us[j - off]? else cs[j]?
  | [], cs, off, _, j => by rw [putC, if_neg (by first | (simp; done) | (simp; omega))]
  | u :: us, cs, off, h, j => by
    simp only [List.length_cons] at h ⊢
    rw [putC, putC_get us _ _ (by first | (simp; done) | (simp; omega))]
    by_cases h1 : off + 1 ≤ j ∧ j < off + 1 + us.length
    · rw [if_pos h1, if_pos (by omega)]
      have e : j - off = (j - (off + 1)) + 1 := by omega
      rw [e, List.getElem?_cons_succ]
    · rw [if_neg h1, List.getElem?_set]
      by_cases h2 : off = j
      · subst h2
        rw [if_pos rfl, if_pos (by omega), if_pos (by omega)]
        simp
      · rw [if_neg h2, if_neg (by omega)]

theorem splice_get {α : Type} (us cs : List α) (off : Nat) (h : off + us.length ≤ cs.length) (j : Nat) :
    (cs.take off ++ us ++ cs.drop (off + us.length))[j]? = if off ≤ j ∧ j < off + us.length then us[j - off]? else cs[j]? := by
  by_cases h1 : j < off
  · rw [if_neg (by omega), List.append_assoc, List.getElem?_append_left (by simp; omega), List.getElem?_take, if_pos h1]
  · by_cases h2 : j < off + us.length
    · rw [if_pos ⟨by omega, h2⟩, List.append_assoc, List.getElem?_append_right (by simp; omega), List.getElem?_append_left (by simp; omega)]
      simp
      congr 1
      omega
    · rw [if_neg (by omega), List.getElem?_append_right (by simp; omega), List.getElem?_drop]
      congr 1
      simp
      omega

theorem splice_length {α : Type} (us cs : List α) (off : Nat) (h : off + us.length ≤ cs.length) : (cs.take off ++ us ++ cs.drop (off + us.length)).length = cs.length := by
  simp; omega

theorem overC_spec {cs us cs' : List Cell} {off : Nat} (h : overC cs off us = some cs') :
    off + us.length ≤ cs.length ∧ cs'.length = cs.length ∧ ∀ j, cs'[j]? = if off ≤ j ∧ j < off + us.length then us[j - off]? else cs[j]? := by
  unfold overC at h
  split at h
  · rename_i hl
    simp only [Option.some.injEq] at h
    split at h
    · rename_i he
      subst h
      have : off = 0 := by omega
      subst this
      refine ⟨hl, he, fun j => ?_⟩
      by_cases hj : j < us.length
      · rw [if_pos (by omega)]; rfl
      · rw [if_neg (by omega), List.getElem?_eq_none (by omega), List.getElem?_eq_none (by omega)]
    · subst h
      exact ⟨hl, putC_length .., putC_get _ _ _ hl⟩
  · exact absurd h (by simp)

theorem RelL.over {w : World} {E : Env} {cs us cs' : List Cell} {vs ws : List Value} {off : Nat} (h : RelL w E cs vs) (hu : RelL w E us ws) (ho : overC cs off us = some cs') :
    RelL w E cs' (vs.take off ++ ws ++ vs.drop (off + ws.length)) := by
  obtain ⟨h1, h2, h3⟩ := overC_spec ho
  have hl : off + ws.length ≤ vs.length := by rw [← hu.1, ← h.1]; exact h1
  refine ⟨by rw [splice_length _ _ _ hl, h2, h.1], fun j c u hc hx => ?_⟩
  rw [h3] at hc
  rw [splice_get _ _ _ hl] at hx
  rw [hu.1] at hc
  split at hc
  · rename_i hj
    rw [if_pos hj] at hx
    exact hu.2 _ _ _ hc hx
  · rename_i hj
    rw [if_neg hj] at hx
    exact h.2 _ _ _ hc hx

theorem RelP.over {w : World} {F : Nat → Prop} {cs us cs' : List Cell} {vs ws : List Value} {off : Nat} (h : RelP w F cs vs) (hu : RelP w F us ws) (ho : overC cs off us = some cs') :
    RelP w F cs' (vs.take off ++ ws ++ vs.drop (off + ws.length)) := by
  obtain ⟨h1, h2, h3⟩ := overC_spec ho
  have hl : off + ws.length ≤ vs.length := by rw [← hu.1, ← h.1]; exact h1
  refine ⟨by rw [splice_length _ _ _ hl, h2, h.1], fun j c u hc hx => ?_⟩
  rw [h3] at hc
  rw [splice_get _ _ _ hl] at hx
  rw [hu.1] at hc
  split at hc
  · rename_i hj
    rw [if_pos hj] at hx
    exact hu.2 _ _ _ hc hx
  · rename_i hj
    rw [if_neg hj] at hx
    exact h.2 _ _ _ hc hx

theorem RelP.append {w : World} {F : Nat → Prop} {cs us : List Cell} {vs ws : List Value} (h : RelP w F cs vs) (hu : RelP w F us ws) : RelP w F (cs ++ us) (vs ++ ws) := by
  refine ⟨by simp [h.1, hu.1], fun j c u hc hx => ?_⟩
  by_cases hj : j < cs.length
  · rw [List.getElem?_append_left hj] at hc
    rw [List.getElem?_append_left (by rw [← h.1]; exact hj)] at hx
    exact h.2 _ _ _ hc hx
  · rw [List.getElem?_append_right (by omega)] at hc
    rw [List.getElem?_append_right (by rw [← h.1]; omega), ← h.1] at hx
    exact hu.2 _ _ _ hc hx

theorem RelL.one {w : World} {E : Env} {cs : List Cell} {us : List Value} (h : RelL w E cs us) : ∀ v ∈ us, v.oneCell' = true := by
  intro v hv
  obtain ⟨j, hj⟩ := List.getElem?_of_mem hv
  have hlt := (List.getElem?_eq_some_iff.1 hj).1
  exact (h.2 j _ v (List.getElem?_eq_getElem (by rw [h.1]; exact hlt)) hj).one
theorem RelP.one {w : World} {F : Nat → Prop} {cs : List Cell} {us : List Value} (h : RelP w F cs us) : ∀ v ∈ us, v.oneCell' = true := by
  intro v hv
  obtain ⟨j, hj⟩ := List.getElem?_of_mem hv
  have hlt := (List.getElem?_eq_some_iff.1 hj).1
  exact (h.2 j _ v (List.getElem?_eq_getElem (by rw [h.1]; exact hlt)) hj).one

/-! ### The tables while memory turns -/
section
variable {W0 : Base} {S0 : Nat → Prop} {φ : Nat → Nat → Nat} {γ : Nat → Nat → Value} {st st' : St} {w w' : World}

/-- A row of its own lies below the heap's end. -/
theorem Mem.tlt (h : Mem W0 S0 φ γ st w) {d k : Nat} {t : Tok} (ht : tat st.tk d k = some t) (hl : t.live = true) {b : Nat} (hb : (γ d k).ownBlock = some b) : W0.w.heap.size ≤ b ∧ b < w.heap.size := by
  obtain ⟨xs, ho, _⟩ := h.tks d k t ht hl
  exact ho.lt b hb

theorem Mem.blt (h : Mem W0 S0 φ γ st w) {d k : Nat} {cs : List Cell} (hc : tat st.bx d k = some cs) : φ d k < w.heap.size := by
  obtain ⟨_, us, T, hg, _⟩ := h.bxs d k cs hc
  exact (Array.getElem?_eq_some_iff.1 hg).1

/-- Memory grows, no variable and no row of one's own being touched; new rows of one's own may come: they lie beyond the heap's old end. -/
theorem Mem.grow (h : Mem W0 S0 φ γ st w) (hb : Below w.heap.size w w') : Mem W0 S0 φ γ st w' ∧ Le w (envOf W0 S0 φ γ st w) w' (envOf W0 S0 φ γ st w') := by
  have hsz : W0.w.heap.size ≤ w.heap.size := h.bel.size
  have hle : Le w (envOf W0 S0 φ γ st w) w' (envOf W0 S0 φ γ st w') :=
    ⟨fun b hF => ⟨⟨Nat.lt_of_lt_of_le hF.1 hb.size, hF.2.1, hF.2.2.1, hF.2.2.2⟩, hb.block b hF.1⟩, fun d k hB => ⟨hB, rfl⟩, fun d k hT => ⟨hT, rfl⟩⟩
  refine ⟨⟨h.bel.below hb, fun d k cs hc => ?_, h.bxi, fun d k t ht hl => ?_, h.tki, h.tkb⟩, hle⟩
  · obtain ⟨h1, us, T, hg, hr⟩ := h.bxs d k cs hc
    exact ⟨h1, us, T, by rw [hb.block _ (Array.getElem?_eq_some_iff.1 hg).1]; exact hg, hr.mono hle⟩
  · obtain ⟨xs, ho, hr⟩ := h.tks d k t ht hl
    refine ⟨xs, ho.kept (row := none) ⟨hb.os, hb.tape, hb.output, hb.size, fun k hk _ => hb.block k hk⟩ (by cases (γ d k).ownBlock <;> simp), hr.mono hle.f⟩

/-- A new variable. -/
theorem Mem.newBox (h : Mem W0 S0 φ γ st w) {d : Nat} (hd : d < st.bx.length) {cs : List Cell} {us : List Value} (T : Nat) (hr : RelL w (envOf W0 S0 φ γ st w) cs us) (tm : List CV) :
    let st' : St := { tm := tm, bx := tpush st.bx d [cs], tk := st.tk }
    let φ' := fun d' k' => if d' = d ∧ k' = tlen st.bx d then w.heap.size else φ d' k'
    let w' := w.alloc (.cells us.toArray T)
    Mem W0 S0 φ' γ st' w' ∧ Le w (envOf W0 S0 φ γ st w) w' (envOf W0 S0 φ' γ st' w') := by
  intro st' φ' w'
  have hsz : W0.w.heap.size ≤ w.heap.size := h.bel.size
  have hb : Below w.heap.size w w' := (Below.refl _ _).alloc (Nat.le_refl _) _
  have hold : ∀ d' k' cs', tat st.bx d' k' = some cs' → φ' d' k' = φ d' k' ∧ ¬ (d' = d ∧ tlen st.bx d ≤ k') := by
    intro d' k' cs' hc
    have hlt := (tat_lt hc).2
    refine ⟨if_neg ?_, ?_⟩
    · rintro ⟨rfl, rfl⟩; omega
    · rintro ⟨rfl, h2⟩; omega
  have hcase : ∀ d' k' cs', tat st'.bx d' k' = some cs' → (tat st.bx d' k' = some cs' ∧ φ' d' k' = φ d' k') ∨ (d' = d ∧ k' = tlen st.bx d ∧ cs' = cs ∧ φ' d' k' = w.heap.size) := by
    intro d' k' cs' hc
    rw [show st'.bx = tpush st.bx d [cs] from rfl, tat_push hd] at hc
    split at hc
    · rename_i he
      have hk : k' - tlen st.bx d = 0 := by
        apply Classical.byContradiction
        intro hn
        rw [List.getElem?_eq_none (by simp; omega)] at hc
        simp at hc
      rw [hk] at hc
      simp at hc
      have hk2 : k' = tlen st.bx d := by omega
      exact .inr ⟨he.1, hk2, hc.symm, if_pos ⟨he.1, hk2⟩⟩
    · exact .inl ⟨hc, (hold d' k' cs' hc).1⟩
  have hle : Le w (envOf W0 S0 φ γ st w) w' (envOf W0 S0 φ' γ st' w') := by
    refine ⟨fun b hF => ⟨⟨Nat.lt_of_lt_of_le hF.1 hb.size, hF.2.1, fun d' k' cs' hc => ?_, hF.2.2.2⟩, hb.block b hF.1⟩, fun d' k' hB => ?_, fun d' k' hT => ⟨hT, rfl⟩⟩
    · rcases hcase d' k' cs' hc with ⟨h1, h2⟩ | ⟨_, _, _, h4⟩
      · rw [h2]; exact hF.2.2.1 d' k' cs' h1
      · rw [h4]; exact Nat.ne_of_gt hF.1
    · obtain ⟨cs', hc⟩ := hB
      exact ⟨⟨cs', tat_push_old _ _ hc⟩, (hold d' k' cs' hc).1⟩
  refine ⟨⟨h.bel.below hb, fun d' k' cs' hc => ?_, fun d1 k1 cs1 d2 k2 cs2 h1 h2 he => ?_, fun d' k' t ht hl => ?_, h.tki, fun d1 k1 t d2 k2 cs2 h1 hl h2 => ?_⟩, hle⟩
  · rcases hcase d' k' cs' hc with ⟨h1, h2⟩ | ⟨rfl, rfl, rfl, h4⟩
    · obtain ⟨g1, us', T', hg, hr'⟩ := h.bxs d' k' cs' h1
      rw [h2]
      exact ⟨g1, us', T', by rw [hb.block _ (Array.getElem?_eq_some_iff.1 hg).1]; exact hg, hr'.mono hle⟩
    · rw [h4]
      refine ⟨.inl hsz, us.toArray, T, heap_alloc_new w _, ?_⟩
      simpa using hr.mono hle
  · rcases hcase d1 k1 cs1 h1 with ⟨a1, a2⟩ | ⟨rfl, rfl, rfl, a4⟩ <;> rcases hcase d2 k2 cs2 h2 with ⟨b1, b2⟩ | ⟨rfl, rfl, rfl, b4⟩
    · rw [a2, b2] at he; exact h.bxi _ _ _ _ _ _ a1 b1 he
    · rw [a2, b4] at he; have := h.blt a1; omega
    · rw [a4, b2] at he; have := h.blt b1; omega
    · exact ⟨rfl, rfl⟩
  · obtain ⟨xs, ho, hr'⟩ := h.tks d' k' t ht hl
    exact ⟨xs, ho.alloc _, hr'.mono hle.f⟩
  · intro hb'
    rcases hcase d2 k2 cs2 h2 with ⟨b1, b2⟩ | ⟨rfl, rfl, rfl, b4⟩
    · rw [b2] at hb'; exact h.tkb _ _ _ _ _ _ h1 hl b1 hb'
    · rw [b4] at hb'; have := (h.tlt h1 hl hb').2; omega

/-- A variable is overwritten, and nothing else that there was. -/
theorem Mem.writeAny (h : Mem W0 S0 φ γ st w) {i k : Nat} {old cs : List Cell} (ho : tat st.bx i k = some old) {us : List Value} (hr : RelL w (envOf W0 S0 φ γ st w) cs us) (tm : List CV) {w' : World} {T0 : TypeId}
    (ha : w'.heap[φ i k]? = some (.cells us.toArray T0 (0, 0))) (h1 : w'.os = w.os) (h2 : w'.tape = w.tape) (h3 : w'.output = w.output) (h4 : w.heap.size ≤ w'.heap.size) (h5 : ∀ b, b < w.heap.size → b ≠ φ i k → w'.heap[b]? = w.heap[b]?) :
    let st' : St := { tm := tm, bx := tset st.bx i k cs, tk := st.tk }
    Mem W0 S0 φ γ st' w' ∧ Le w (envOf W0 S0 φ γ st w) w' (envOf W0 S0 φ γ st' w') := by
  intro st'
  have hsz : W0.w.heap.size ≤ w.heap.size := h.bel.size
  obtain ⟨g1, _⟩ := h.bxs i k old ho
  have hcase : ∀ d' k' cs', tat st'.bx d' k' = some cs' → (d' = i ∧ k' = k ∧ cs' = cs) ∨ (¬ (d' = i ∧ k' = k) ∧ tat st.bx d' k' = some cs') := by
    intro d' k' cs' hc
    rw [show st'.bx = tset st.bx i k cs from rfl, tat_set ho] at hc
    split at hc
    · rename_i he; simp at hc; exact .inl ⟨he.1, he.2, hc.symm⟩
    · rename_i he; exact .inr ⟨he, hc⟩
  have hnew : ∀ d' k' cs', tat st.bx d' k' = some cs' → ∃ cs'', tat st'.bx d' k' = some cs'' := by
    intro d' k' cs' hc
    rw [show st'.bx = tset st.bx i k cs from rfl, tat_set ho]
    split
    · exact ⟨_, rfl⟩
    · exact ⟨_, hc⟩
  have hback : ∀ d' k' cs', tat st'.bx d' k' = some cs' → ∃ cs'', tat st.bx d' k' = some cs'' := by
    intro d' k' cs' hc
    rcases hcase d' k' cs' hc with ⟨rfl, rfl, rfl⟩ | ⟨_, h2⟩
    · exact ⟨_, ho⟩
    · exact ⟨_, h2⟩
  have hle : Le w (envOf W0 S0 φ γ st w) w' (envOf W0 S0 φ γ st' w') := by
    refine ⟨fun b hF => ⟨⟨Nat.lt_of_lt_of_le hF.1 h4, hF.2.1, fun d' k' cs' hc => ?_, hF.2.2.2⟩, h5 b hF.1 (fun e => hF.2.2.1 i k old ho e.symm)⟩, fun d' k' hB => ?_, fun d' k' hT => ⟨hT, rfl⟩⟩
    · obtain ⟨cs'', h2⟩ := hback d' k' cs' hc
      exact hF.2.2.1 d' k' cs'' h2
    · obtain ⟨cs', hc⟩ := hB
      exact ⟨hnew d' k' cs' hc, rfl⟩
  refine ⟨⟨h.bel.trans h1 h2 h3 h4 (fun b hb hx => h5 b (Nat.lt_of_lt_of_le hb hsz) (fun e => by subst e; rcases g1 with g1 | g1 <;> first | omega | exact hx g1)), fun d' k' cs' hc => ?_, fun d1 k1 cs1 d2 k2 cs2 h1 h2 he => ?_, fun d' k' t ht hl => ?_, h.tki, fun d1 k1 t d2 k2 cs2 h1 hl h2 => ?_⟩, hle⟩
  · rcases hcase d' k' cs' hc with ⟨rfl, rfl, rfl⟩ | ⟨hne, h2⟩
    · refine ⟨g1, us.toArray, T0, ha, ?_⟩
      simpa using hr.mono hle
    · obtain ⟨b1, us', T', hg', hr'⟩ := h.bxs d' k' cs' h2
      refine ⟨b1, us', T', ?_, hr'.mono hle⟩
      rw [h5 _ (Array.getElem?_eq_some_iff.1 hg').1 (fun e => hne (h.bxi _ _ _ _ _ _ h2 ho e))]
      exact hg'
  · obtain ⟨c1, e1⟩ := hback _ _ _ h1
    obtain ⟨c2, e2⟩ := hback _ _ _ h2
    exact h.bxi _ _ _ _ _ _ e1 e2 he
  · obtain ⟨xs, hown, hr'⟩ := h.tks d' k' t ht hl
    refine ⟨xs, hown.kept (row := some (φ i k)) ⟨h1, h2, h3, h4, fun b hlt hb => h5 b hlt (fun e => hb (by rw [e]))⟩ ?_, hr'.mono hle.f⟩
    cases hq : (γ d' k').ownBlock with
    | none => exact .inl rfl
    | some b => exact .inr (by rw [← hq]; exact h.tkb _ _ _ _ _ _ ht hl ho)
  · obtain ⟨c2, e2⟩ := hback _ _ _ h2
    exact h.tkb _ _ _ _ _ _ h1 hl e2

/-- A variable is overwritten. -/
theorem Mem.writeBox (h : Mem W0 S0 φ γ st w) {i k : Nat} {old cs : List Cell} (ho : tat st.bx i k = some old) {us : List Value} (hr : RelL w (envOf W0 S0 φ γ st w) cs us) (tm : List CV) :
    let st' : St := { tm := tm, bx := tset st.bx i k cs, tk := st.tk }
    let w' := w.setRow (φ i k) us.toArray
    Mem W0 S0 φ γ st' w' ∧ Le w (envOf W0 S0 φ γ st w) w' (envOf W0 S0 φ γ st' w') := by
  obtain ⟨_, us0, T0, hg, _⟩ := h.bxs i k old ho
  exact h.writeAny ho hr tm (setRow_heap w _ _ _ _ _ hg) rfl rfl rfl (by simp) fun b _ hb => setRow_other w _ _ _ hb

/-- New rows of one's own: each lies beyond what the other ones lie in. -/
theorem Mem.newToks (h : Mem W0 S0 φ γ st w) (hb : Below w.heap.size w w') {d : Nat} (hd : d < st.tk.length) {ts : List Tok} (γn : Nat → Value) (tm : List CV)
    (hnew : ∀ (j : Nat) (t : Tok), ts[j]? = some t → ∃ xs, w'.ownsRow w.heap.size t.e t.sz (γn j) t.n xs ∧ RelP w' (fun b => b < w'.heap.size ∧ (b < w.heap.size → Fx W0 S0 φ γ st w b) ∧ ∀ (j' : Nat) (t' : Tok), ts[j']? = some t' → (γn j').ownBlock ≠ some b) t.cs xs)
    (hdis : ∀ (j : Nat) (t : Tok) (j' : Nat) (t' : Tok) b, ts[j]? = some t → ts[j']? = some t' → (γn j).ownBlock = some b → (γn j').ownBlock = some b → j = j') :
    let st' : St := { tm := tm, bx := st.bx, tk := tpush st.tk d ts }
    let γ' := fun d' k' => if d' = d ∧ tlen st.tk d ≤ k' then γn (k' - tlen st.tk d) else γ d' k'
    Mem W0 S0 φ γ' st' w' ∧ Le w (envOf W0 S0 φ γ st w) w' (envOf W0 S0 φ γ' st' w') ∧
      ∀ b, b < w'.heap.size → (b < w.heap.size → Fx W0 S0 φ γ st w b) → (∀ (j' : Nat) (t' : Tok), ts[j']? = some t' → (γn j').ownBlock ≠ some b) → Fx W0 S0 φ γ' st' w' b := by
  intro st' γ'
  have hsz : W0.w.heap.size ≤ w.heap.size := h.bel.size
  have hold : ∀ d' k' t', tat st.tk d' k' = some t' → γ' d' k' = γ d' k' := by
    intro d' k' t' hc
    have hlt := (tat_lt hc).2
    refine if_neg ?_
    rintro ⟨rfl, h2⟩; omega
  have hcase : ∀ d' k' t', tat st'.tk d' k' = some t' → (tat st.tk d' k' = some t' ∧ γ' d' k' = γ d' k') ∨ (∃ j, d' = d ∧ k' = tlen st.tk d + j ∧ ts[j]? = some t' ∧ γ' d' k' = γn j) := by
    intro d' k' t' hc
    rw [show st'.tk = tpush st.tk d ts from rfl, tat_push hd] at hc
    split at hc
    · rename_i he
      refine .inr ⟨k' - tlen st.tk d, he.1, by omega, hc, if_pos he⟩
    · exact .inl ⟨hc, hold _ _ _ hc⟩
  have hfar : ∀ (j : Nat) (t : Tok), ts[j]? = some t → ∀ b, (γn j).ownBlock = some b → w.heap.size ≤ b ∧ b < w'.heap.size := by
    intro j t hj b hb'
    obtain ⟨xs, ho, _⟩ := hnew j t hj
    exact ho.lt b hb'
  have hF : ∀ b, b < w'.heap.size → (b < w.heap.size → Fx W0 S0 φ γ st w b) → (∀ (j' : Nat) (t' : Tok), ts[j']? = some t' → (γn j').ownBlock ≠ some b) → Fx W0 S0 φ γ' st' w' b := by
    intro b h1 h2 h3
    refine ⟨h1, fun hlt => (h2 (by omega)).2.1 hlt, fun d' k' cs hc => ?_, fun d' k' t ht hl => ?_⟩
    · have := h.blt hc
      intro e
      exact (h2 (by omega)).2.2.1 d' k' cs hc e
    · rcases hcase d' k' t ht with ⟨a1, a2⟩ | ⟨j, rfl, rfl, a3, a4⟩
      · rw [a2]
        intro e
        have := (h.tlt a1 hl e).2
        exact (h2 this).2.2.2 d' k' t a1 hl e
      · rw [a4]; exact h3 j t a3
  have hle : Le w (envOf W0 S0 φ γ st w) w' (envOf W0 S0 φ γ' st' w') := by
    refine ⟨fun b hFb => ⟨hF b (Nat.lt_of_lt_of_le hFb.1 hb.size) (fun _ => hFb) (fun j' t' hj e => ?_), hb.block b hFb.1⟩, fun d' k' hB => ⟨hB, rfl⟩, fun d' k' hT => ?_⟩
    · have := (hfar j' t' hj b e).1
      have := hFb.1
      omega
    · obtain ⟨t, ht⟩ := hT
      exact ⟨⟨t, tat_push_old _ _ ht⟩, hold _ _ _ ht⟩
  refine ⟨⟨h.bel.below hb, fun d' k' cs hc => ?_, h.bxi, fun d' k' t ht hl => ?_, fun d1 k1 t1 d2 k2 t2 b h1 l1 h2 l2 e1 e2 => ?_, fun d1 k1 t d2 k2 cs2 h1 hl h2 e => ?_⟩, hle, hF⟩
  · obtain ⟨g1, us', T', hg, hr'⟩ := h.bxs d' k' cs hc
    exact ⟨g1, us', T', by rw [hb.block _ (Array.getElem?_eq_some_iff.1 hg).1]; exact hg, hr'.mono hle⟩
  · rcases hcase d' k' t ht with ⟨a1, a2⟩ | ⟨j, rfl, rfl, a3, a4⟩
    · obtain ⟨xs, ho, hr'⟩ := h.tks d' k' t a1 hl
      rw [a2]
      exact ⟨xs, ho.kept (row := none) ⟨hb.os, hb.tape, hb.output, hb.size, fun k hk _ => hb.block k hk⟩ (by cases (γ d' k').ownBlock <;> simp), hr'.mono hle.f⟩
    · obtain ⟨xs, ho, hr'⟩ := hnew j t a3
      rw [a4]
      refine ⟨xs, ?_, hr'.mono fun b hb' => ⟨hF b hb'.1 hb'.2.1 hb'.2.2, rfl⟩⟩
      obtain ⟨o1, o2⟩ := ho
      refine ⟨o1, o2.imp id ?_⟩
      rintro ⟨g, cap, cur, p1, p2, p3⟩
      exact ⟨g, cap, cur, p1, by omega, p3⟩
  · rcases hcase d1 k1 t1 h1 with ⟨a1, a2⟩ | ⟨j1, rfl, rfl, a3, a4⟩ <;> rcases hcase d2 k2 t2 h2 with ⟨b1, b2⟩ | ⟨j2, rfl, rfl, b3, b4⟩
    · rw [a2] at e1; rw [b2] at e2; exact h.tki _ _ _ _ _ _ _ a1 l1 b1 l2 e1 e2
    · rw [a2] at e1; rw [b4] at e2; have := (h.tlt a1 l1 e1).2; have := (hfar _ _ b3 _ e2).1; omega
    · rw [a4] at e1; rw [b2] at e2; have := (h.tlt b1 l2 e2).2; have := (hfar _ _ a3 _ e1).1; omega
    · rw [a4] at e1; rw [b4] at e2; have := hdis _ _ _ _ _ a3 b3 e1 e2; exact ⟨rfl, by omega⟩
  · rcases hcase d1 k1 t h1 with ⟨a1, a2⟩ | ⟨j1, rfl, rfl, a3, a4⟩
    · rw [a2] at e; exact h.tkb _ _ _ _ _ _ a1 hl h2 e
    · rw [a4] at e; have := (hfar _ _ a3 _ e).1; have := h.blt h2; omega

/-- A row is no longer the newest of its kind: what lies in it stays. -/
theorem Mem.kill (h : Mem W0 S0 φ γ st w) {i k : Nat} {t t' : Tok} (ht : tat st.tk i k = some t) (hl : t'.live = false) (tm : List CV) :
    let st' : St := { tm := tm, bx := st.bx, tk := tset st.tk i k t' }
    Mem W0 S0 φ γ st' w ∧ Le w (envOf W0 S0 φ γ st w) w (envOf W0 S0 φ γ st' w) ∧
      ∀ b, (b < w.heap.size ∧ (b < W0.w.heap.size → S0 b) ∧ (∀ d k cs, tat st.bx d k = some cs → φ d k ≠ b) ∧ ∀ d' k' t, tat st.tk d' k' = some t → t.live = true → ¬ (d' = i ∧ k' = k) → (γ d' k').ownBlock ≠ some b) → Fx W0 S0 φ γ st' w b := by
  intro st'
  have hcase : ∀ d' k' u, tat st'.tk d' k' = some u → (d' = i ∧ k' = k ∧ u = t') ∨ (¬ (d' = i ∧ k' = k) ∧ tat st.tk d' k' = some u) := by
    intro d' k' u hc
    rw [show st'.tk = tset st.tk i k t' from rfl, tat_set ht] at hc
    split at hc
    · rename_i he; simp at hc; exact .inl ⟨he.1, he.2, hc.symm⟩
    · rename_i he; exact .inr ⟨he, hc⟩
  have hF : ∀ b, (b < w.heap.size ∧ (b < W0.w.heap.size → S0 b) ∧ (∀ d k cs, tat st.bx d k = some cs → φ d k ≠ b) ∧ ∀ d' k' t, tat st.tk d' k' = some t → t.live = true → ¬ (d' = i ∧ k' = k) → (γ d' k').ownBlock ≠ some b) → Fx W0 S0 φ γ st' w b := by
    intro b hb
    refine ⟨hb.1, hb.2.1, hb.2.2.1, fun d' k' u hu hul => ?_⟩
    rcases hcase d' k' u hu with ⟨rfl, rfl, rfl⟩ | ⟨hne, h2⟩
    · rw [hl] at hul; cases hul
    · exact hb.2.2.2 d' k' u h2 hul hne
  have hle : Le w (envOf W0 S0 φ γ st w) w (envOf W0 S0 φ γ st' w) := by
    refine ⟨fun b hFb => ⟨hF b ⟨hFb.1, hFb.2.1, hFb.2.2.1, fun d' k' u hu hul _ => hFb.2.2.2 d' k' u hu hul⟩, rfl⟩, fun d' k' hB => ⟨hB, rfl⟩, fun d' k' hT => ⟨?_, rfl⟩⟩
    obtain ⟨u, hu⟩ := hT
    show ∃ t, tat (tset st.tk i k t') d' k' = some t
    rw [tat_set ht]
    split
    · exact ⟨_, rfl⟩
    · exact ⟨_, hu⟩
  refine ⟨⟨h.bel, fun d' k' cs hc => ?_, h.bxi, fun d' k' u hu hul => ?_, fun d1 k1 t1 d2 k2 t2 b h1 l1 h2 l2 e1 e2 => ?_, fun d1 k1 u d2 k2 cs2 h1 hul h2 => ?_⟩, hle, hF⟩
  · obtain ⟨g1, us', T', hg, hr'⟩ := h.bxs d' k' cs hc
    exact ⟨g1, us', T', hg, hr'.mono hle⟩
  · rcases hcase d' k' u hu with ⟨rfl, rfl, rfl⟩ | ⟨hne, h2⟩
    · rw [hl] at hul; cases hul
    · obtain ⟨xs, ho, hr'⟩ := h.tks d' k' u h2 hul
      exact ⟨xs, ho, hr'.mono hle.f⟩
  · rcases hcase d1 k1 t1 h1 with ⟨rfl, rfl, rfl⟩ | ⟨_, a2⟩
    · rw [hl] at l1; cases l1
    · rcases hcase d2 k2 t2 h2 with ⟨rfl, rfl, rfl⟩ | ⟨_, b2⟩
      · rw [hl] at l2; cases l2
      · exact h.tki _ _ _ _ _ _ _ a2 l1 b2 l2 e1 e2
  · rcases hcase d1 k1 u h1 with ⟨rfl, rfl, rfl⟩ | ⟨_, a2⟩
    · rw [hl] at hul; cases hul
    · exact h.tkb _ _ _ _ _ _ a2 hul h2

/-- A row of one's own has other cells, in its own block. -/
theorem Mem.writeTok (h : Mem W0 S0 φ γ st w) {i k : Nat} {t : Tok} (ht : tat st.tk i k = some t) (htl : t.live = true) {g : Nat} (hg : (γ i k).ownBlock = some g) {cs' : List Cell} {xs' : List Value}
    (hw : w.grownBy w' (some g)) (hsize : w'.heap.size = w.heap.size) (ho : w'.ownsRow W0.w.heap.size t.e t.sz (γ i k) t.n xs') (hr : RelP w (Fx W0 S0 φ γ st w) cs' xs') (tm : List CV) :
    let st' : St := { tm := tm, bx := st.bx, tk := tset st.tk i k { t with cs := cs' } }
    Mem W0 S0 φ γ st' w' ∧ Le w (envOf W0 S0 φ γ st w) w' (envOf W0 S0 φ γ st' w') := by
  intro st'
  have hsz : W0.w.heap.size ≤ w.heap.size := h.bel.size
  have hgl := h.tlt ht htl hg
  have hsame : ∀ b, b < w.heap.size → b ≠ g → w'.heap[b]? = w.heap[b]? := fun b hb hne => hw.block b hb (fun e => hne (Option.some.inj e))
  have hcase : ∀ d' k' u, tat st'.tk d' k' = some u → (d' = i ∧ k' = k ∧ u = { t with cs := cs' }) ∨ (¬ (d' = i ∧ k' = k) ∧ tat st.tk d' k' = some u) := by
    intro d' k' u hc
    rw [show st'.tk = tset st.tk i k { t with cs := cs' } from rfl, tat_set ht] at hc
    split at hc
    · rename_i he; simp at hc; exact .inl ⟨he.1, he.2, hc.symm⟩
    · rename_i he; exact .inr ⟨he, hc⟩
  have hback : ∀ d' k' u, tat st'.tk d' k' = some u → u.live = true → ∃ u', tat st.tk d' k' = some u' ∧ u'.live = true := by
    intro d' k' u hu hul
    rcases hcase d' k' u hu with ⟨rfl, rfl, rfl⟩ | ⟨_, h2⟩
    · exact ⟨t, ht, htl⟩
    · exact ⟨u, h2, hul⟩
  have hle : Le w (envOf W0 S0 φ γ st w) w' (envOf W0 S0 φ γ st' w') := by
    refine ⟨fun b hFb => ⟨⟨by rw [hsize]; exact hFb.1, hFb.2.1, hFb.2.2.1, fun d' k' u hu hul => ?_⟩, hsame b hFb.1 (fun e => hFb.2.2.2 i k t ht htl (by rw [hg, e]))⟩, fun d' k' hB => ⟨hB, rfl⟩, fun d' k' hT => ⟨?_, rfl⟩⟩
    · obtain ⟨u', h1, h2⟩ := hback d' k' u hu hul
      exact hFb.2.2.2 d' k' u' h1 h2
    · obtain ⟨u, hu⟩ := hT
      show ∃ t, tat (tset st.tk i k _) d' k' = some t
      rw [tat_set ht]
      split
      · exact ⟨_, rfl⟩
      · exact ⟨_, hu⟩
  refine ⟨⟨h.bel.trans hw.os hw.tape hw.output hw.size (fun b hb _ => hsame b (by omega) (by omega)), fun d' k' cs hc => ?_, h.bxi, fun d' k' u hu hul => ?_, fun d1 k1 t1 d2 k2 t2 b h1 l1 h2 l2 e1 e2 => ?_, fun d1 k1 u d2 k2 cs2 h1 hul h2 => ?_⟩, hle⟩
  · obtain ⟨g1, us', T', hg', hr'⟩ := h.bxs d' k' cs hc
    refine ⟨g1, us', T', ?_, hr'.mono hle⟩
    rw [hsame _ (Array.getElem?_eq_some_iff.1 hg').1 (fun e => h.tkb _ _ _ _ _ _ ht htl hc (by rw [hg, e]))]
    exact hg'
  · rcases hcase d' k' u hu with ⟨rfl, rfl, rfl⟩ | ⟨hne, h2⟩
    · exact ⟨xs', ho, hr.mono hle.f⟩
    · obtain ⟨xs, ho', hr'⟩ := h.tks d' k' u h2 hul
      refine ⟨xs, ho'.kept (row := some g) hw ?_, hr'.mono hle.f⟩
      cases hq : (γ d' k').ownBlock with
      | none => exact .inl rfl
      | some b =>
        refine .inr fun e => hne ?_
        rw [Option.some.inj e] at hq
        exact h.tki _ _ _ _ _ _ _ h2 hul ht htl hq hg
  · obtain ⟨u1, a1, a2⟩ := hback _ _ _ h1 l1
    obtain ⟨u2, b1, b2⟩ := hback _ _ _ h2 l2
    exact h.tki _ _ _ _ _ _ _ a1 a2 b1 b2 e1 e2
  · obtain ⟨u1, a1, a2⟩ := hback _ _ _ h1 hul
    exact h.tkb _ _ _ _ _ _ a1 a2 h2
end

end Go.Proofs.YtlfojobligplkaaDoor.Mt

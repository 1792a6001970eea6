import Derived.Test.YtgmciihlmgeecaaMtMem
/- From the machine's code to the evaluator's. Definitions alone; no conditions. -/
namespace Go.Proofs.Ytgmciihlmgeecaa.Mt
open Go Go.RowKit

/-- What the text doesn't tell of a call: who is handed rows of the caller's own; who hands such back; who writes a variable by its address. -/
structure Hints where
  ow : List Nat := []
  pt : List Nat := []
  pc : List Nat := []
  sp : List Nat := []

def isSp (H : Hints) : SX → Bool
  | .t i => H.sp.contains i
  | _ => false
def ccX : Operand → Option SX
  | .tmp t => some (.t t)
  | .const v => if v.oneCell' = true then some (.c v) else none
  | .func f => some (.f f)
  | .global _ => none
def ccXs : List Operand → Option (List SX)
  | [] => some []
  | x :: r => (ccX x).bind fun x => (ccXs r).map (x :: ·)

def aggT (P : Program) (t : TypeId) : Bool := match P.underlying t with
  | some (.struct _) | some (.array _ _) => true
  | _ => false
def sizeT (P : Program) (t : TypeId) : Option Nat := (P.info? t).map (·.size)
/-- Is it an aggregate, and how many cells has it? (Of another type: one.) -/
def shapeT (P : Program) (t : TypeId) : Option (Bool × Nat) := (sizeT P t).bind fun n => match P.underlying t with
  | some (.struct _) | some (.array _ _) => some (true, n)
  | some (.int _) | some .bool | some .string | some (.slice _) | some (.func ..) | some (.pointer _) => if n = 1 then some (false, 1) else none
  | _ => none
def zeroT (P : Program) (t : TypeId) : Option (List Value) := (P.info? t).bind fun i => i.zero.bind fun z => if z.cells.toList.all (·.oneCell') = true then some z.cells.toList else none

def flatK (P : Program) : Nat → TypeId → Option (List (Option IntKind))
  | 0, _ => none
  | d + 1, t => match P.underlying t with
    | some (.int k) => if sizeT P t = some 1 then some [some k] else none
    | some .bool => if sizeT P t = some 1 then some [none] else none
    | some (.struct fs) => if P.stoodInHeld t = true then none else
        fs.toList.foldl (fun acc f => acc.bind fun ks => if f.name ≠ "_" ∧ f.offset = ks.length then (flatK P d f.type).bind fun k2 => if sizeT P f.type = some k2.length then some (ks ++ k2) else none else none) (some [])
    | some (.array n e) => (flatK P d e).bind fun ks => if sizeT P e = some ks.length then some (List.replicate n ks).flatten else none
    | _ => none

def intBin : BinOp → Bool
  | .add | .sub | .mul | .quo | .rem | .eql | .neq | .lss | .leq | .gtr | .geq => true
  | _ => false

def isEl (el : List Tmp) : Operand → Bool
  | .tmp t => el.contains t
  | _ => false

def ccParts : List (Nat × Operand) → Option (List (Nat × SX))
  | [] => some []
  | (i, x) :: r => (ccX x).bind fun x => (ccParts r).map ((i, x) :: ·)
def ccPartsA (P : Program) (fs : Array Field) : List (Nat × Operand) → Option (List (Nat × Nat × SX))
  | [] => some []
  | (i, x) :: r => (fs[i]?).bind fun f => (sizeT P f.type).bind fun n => (ccX x).bind fun x => (ccPartsA P fs r).map ((f.offset, n, x) :: ·)
def ccPartsR (n : Nat) : List (Nat × Operand) → Option (List (Nat × Nat × SX))
  | [] => some []
  | (i, x) :: r => (ccX x).bind fun x => (ccPartsR n r).map ((i * n, n, x) :: ·)
def ccO : Option Operand → Option (Option SX)
  | none => some none
  | some x => (ccX x).map some

def okF (P : Program) (f : FuncId) : Bool := match P.funcs[f]? with
  | some fn => fn.name != "runtime.NumGoroutine" && fn.body.isSome
  | none => false

def ccCall (P : Program) (H : Hints) (c : Call) : Option SOp := match c.callee with
  | .builtin b => match b, c.args.toList, c.argTypes.toList with
    | .len, [x], [t] => match P.underlying t with
      | some (.slice _) => (ccX x).map .len
      | _ => none
    | .min, x :: xs, _ => (ccXs (x :: xs)).map (.mm false)
    | .max, x :: xs, _ => (ccXs (x :: xs)).map (.mm true)
    | .append, [s, x], [t, t'] => if t = t' then match P.underlying t with
        | some (.slice e) => (P.info? e).bind fun i => (zeroT P e).bind fun z => (ccX s).bind fun s => (ccX x).bind fun x => if 0 < i.size ∧ z.length = i.size ∧ 0 < i.bytes then some (.app e i.size i.bytes z s x) else none
        | _ => none
      else none
    | _, _, _ => none
  | .value (.func f) => if H.pc.contains f then match c.args.toList with
      | p :: xs => (ccX p).bind fun p => (ccXs xs).map fun xs => .pcall f p xs
      | [] => none
    else (ccXs c.args.toList).map fun xs => .call (H.ow.contains f) (H.pt.contains f) (.f f) xs
  | .value (.tmp t) => (ccXs c.args.toList).map fun xs => .call false false (.t t) xs
  | _ => none

def ccOp (P : Program) (H : Hints) (el : List Tmp) (o : Oper) : Option SOp := match o.op with
  | .move x | .assign x => (ccX x).map .mv
  | .pick c a b => (ccX c).bind fun c => (ccX a).bind fun a => (ccX b).map fun b => .pick c a b
  | .alloc t => (zeroT P t).map .alloc
  | .box _ x => (ccX x).map .box
  | .load t p => (shapeT P t).bind fun s => (ccX p).map fun q => .load (isEl el p) s.1 s.2 ((flatK P 20 t).getD []) q
  | .store t p x => (shapeT P t).bind fun s => (ccX p).bind fun q => (ccX x).map fun y => .store (isEl el p) s.2 q y
  | .fieldAddr t x f => match P.underlying t with
    | some (.struct fs) => (fs[f]?).bind fun g => (sizeT P g.type).bind fun n => if n = 0 then none else (ccX x).map fun x => .fld g.offset x
    | _ => none
  | .indexAddr t x i => match P.underlying t with
    | some (.array n e) => (sizeT P e).bind fun m => if m = 0 then none else (ccX x).bind fun x => (ccX i).map fun i => .ixA n m x i
    | some (.slice e) => (sizeT P e).bind fun m => if m = 0 then none else (ccX x).bind fun x => (ccX i).map fun i => .ixS m x i
    | _ => none
  | .index t x i => match P.underlying t with
    | some (.array n e) => (shapeT P e).bind fun s => if sizeT P e = some s.2 then (ccX x).bind fun x => (ccX i).map fun i => .ixV s.1 n s.2 ((flatK P 20 e).getD []) x i else none
    | _ => none
  | .field t x f => match P.underlying t with
    | some (.struct fs) => (fs[f]?).bind fun g => (shapeT P g.type).bind fun s => (ccX x).map fun x => .fldV s.1 g.offset s.2 ((flatK P 20 g.type).getD []) x
    | _ => none
  | .build t parts => match P.underlying t with
    | some (.struct fs) => (zeroT P t).bind fun z => (ccPartsA P fs parts.toList).bind fun ps => if fs.toList.all (fun f => (sizeT P f.type).isSome) = true then some (.build z ps) else none
    | some (.array _ e) => (zeroT P t).bind fun z => (sizeT P e).bind fun n => (ccPartsR n parts.toList).map fun ps => .build z ps
    | _ => none
  | .buildSlice t n parts => match P.underlying t with
    | some (.slice e) => (sizeT P e).bind fun m => (zeroT P e).bind fun z => (ccParts parts.toList).bind fun ps =>
        if n * m ≤ 16777216 ∧ 0 < m ∧ z.length = m then some (.buildS e m n ((List.range (n * m)).map fun j => z.getD (j % m) undef) ps) else none
    | _ => none
  | .binOp b t x y _ => (ccX x).bind fun x => (ccX y).bind fun y => match P.underlying t with
    | some (.int _) => if intBin b = true then some (.bin b x y) else none
    | some .bool => match b with
      | .eql => some (.binB false x y)
      | .neq => some (.binB true x y)
      | _ => none
    | some (.struct _) | some (.array _ _) => (flatK P 20 t).bind fun ks => if P.eqGuardType P.depth t = false then match b with
        | .eql => some (.eqA false ks x y)
        | .neq => some (.eqA true ks x y)
        | _ => none
      else none
    | _ => none
  | .unOp u _ x => (ccX x).map fun x => .un u x
  | .convert s d x => match P.underlying s, P.underlying d with
    | some (.int _), some (.int k) => (ccX x).map fun x => .conv k x
    | _, _ => none
  | .extract x i => (ccX x).map fun x => .ext i x
  | .slice t x lo hi none => match P.underlying t with
    | some (.slice e) => (sizeT P e).bind fun m => (ccX x).bind fun x => (ccO lo).bind fun lo => (ccO hi).map fun hi => bif isSp H x then .slp m x lo hi else .slc m x lo hi
    | _ => none
  | .call c => ccCall P H c
  | .nilCheck x => (ccX x).map .nilc
  | _ => none

/-- Which slots bear an element's address, behind this operation? -/
def elNext (P : Program) (el : List Tmp) (o : Oper) : List Tmp :=
  match o.dst with
  | none => el
  | some d =>
    let is := match o.op with
      | .indexAddr t x _ => match P.underlying t with
        | some (.slice _) => true
        | _ => isEl el x
      | .fieldAddr _ x _ | .move x | .assign x | .nilCheck x => isEl el x
      | _ => false
    bif is then d :: el else el.filter (· != d)

def ccGuard (ops : Array Oper) : Option (Nat × Bool) → Option (Option (Nat × Bool))
  | none => some none
  | some (j, b) => ((ops[j]?).bind (·.dst)).map fun d => some (d, b)

def ccOpers (P : Program) (H : Hints) (ops : Array Oper) : List Tmp → List Oper → Option (List SOper)
  | _, [] => some []
  | el, o :: r => (ccOp P H el o).bind fun s => (ccGuard ops o.guard).bind fun g => (ccOpers P H ops (elNext P el o) r).map (⟨o.dst, s, g⟩ :: ·)

/-! ### May two operations come in either order? -/

/-- What it reads and writes of what is there: variables (read, written), rows (read, written). -/
structure Foot where
  rb : Bool := false
  wb : Bool := false
  rt : Bool := false
  wt : Bool := false

def footOf : SOp → Foot
  | .load el _ _ _ _ => if el then { rt := true } else { rb := true }
  | .store el _ _ _ => if el then { rt := true, wt := true } else { rb := true, wb := true }
  | .ixS .. | .len _ => { rt := true }
  | .app .. => { rt := true, wt := true }
  | .slc .. => { rt := true, wt := true }
  | .call ow _ _ _ => { rt := ow }
  | .pcall .. => { rb := true, wb := true }
  | _ => {}

/-- The slot that bears the variable's address. -/
def ptrOf : SOp → Option Nat
  | .load false _ _ _ (.t p) | .store false _ (.t p) _ | .pcall _ (.t p) _ => some p
  | _ => none

/-- Which variable (by the slot that it was made in) a slot's address is of, where that is known. -/
abbrev Alias := List (Nat × Nat)
def lookA : Alias → Nat → Option Nat
  | [], _ => none
  | (p, b) :: r, q => bif p == q then some b else lookA r q
def baseOf (A : Alias) (o : SOp) : Option Nat := (ptrOf o).bind (lookA A)
def otherB (A : Alias) (x y : SOp) : Bool := match baseOf A x, baseOf A y with
  | some a, some b => a != b
  | _, _ => false

def clash (A : Alias) (x y : SOp) : Bool :=
  let a := footOf x
  let b := footOf y
  (((a.wb && (b.rb || b.wb)) || (b.wb && a.rb)) && !otherB A x y) || (a.wt && (b.rt || b.wt)) || (b.wt && a.rt)

/-- Which operations are not what the list of addresses tells of their slots? -/
def aliasOp (A : Alias) (o : SOper) : Bool := match o.dst with
  | none => true
  | some d => match lookA A d with
    | none => true
    | some b => match o.op with
      | .alloc _ | .box _ => b == d
      | .fld _ (.t p) | .ixA _ _ (.t p) _ | .mv (.t p) | .nilc (.t p) => lookA A p == some b
      | _ => false
def aliasStep (A : Alias) (o : SOper) : Alias := match o.dst with
  | none => A
  | some d => match o.op with
    | .alloc _ | .box _ => (d, d) :: A
    | .fld _ (.t p) | .ixA _ _ (.t p) _ | .mv (.t p) | .nilc (.t p) => match lookA A p with
      | some b => (d, b) :: A
      | none => A
    | _ => A

def sxT : SX → List Nat
  | .t i => [i]
  | _ => []
def slotsOf : SOp → List Nat
  | .mv x | .box x | .fld _ x | .un _ x | .conv _ x | .ext _ x | .len x | .nilc x | .load _ _ _ _ x | .fldV _ _ _ _ x => sxT x
  | .pick a b c => sxT a ++ sxT b ++ sxT c
  | .alloc _ => []
  | .store _ _ x y | .ixA _ _ x y | .ixS _ x y | .ixV _ _ _ _ x y | .bin _ x y | .binB _ x y | .eqA _ _ x y | .app _ _ _ _ x y => sxT x ++ sxT y
  | .build _ ps => ps.flatMap fun p => sxT p.2.2
  | .buildS _ _ _ _ ps => ps.flatMap fun p => sxT p.2
  | .mm _ xs => xs.flatMap sxT
  | .slc _ x lo hi | .slp _ x lo hi => sxT x ++ (lo.map sxT).getD [] ++ (hi.map sxT).getD []
  | .call _ _ f xs => sxT f ++ xs.flatMap sxT
  | .pcall _ p xs => sxT p ++ xs.flatMap sxT
def looks (o : SOper) : List Nat := slotsOf o.op ++ (match o.guard with | some (j, _) => [j] | none => [])

def apartS (x y : SOper) : Bool :=
  (match x.dst with | some d => !(looks y).contains d && !(y.dst == some d) | none => true) && (match y.dst with | some d => !(looks x).contains d | none => true)

def freeS (A : Alias) (x y : SOper) : Bool := apartS x y && !clash A x.op y.op

/-- What an operation waits for, directly. -/
def depsOf (o : Oper) : List Nat := (o.after.toList.filter fun e => Region.binds .any e).map (·.on)
/-- All that it waits for, as bits; told ahead (B), checked here: each bit is a need, or a need's bit. -/
def upB (B : List Nat) : List Nat → Nat
  | [] => 0
  | n :: r => (2 ^ n ||| B.getD n 0) ||| upB B r
def waits (ops : List Oper) : List Nat → List Nat
  | acc => (ops.foldl (fun (acc : List Nat) o => acc ++ [upB acc (depsOf o)]) acc)

/-- Of each two the earlier one is waited for, or they may come in either order. -/
def orderOk (A : Alias) (ops : List Oper) (sops : List SOper) : Bool :=
  let B := waits ops []
  ops.zipIdx.all (fun p => (depsOf p.1).all (· < p.2)) &&
  sops.zipIdx.all fun y => (sops.take y.2).zipIdx.all fun x => (B.getD y.2 0).testBit x.2 || freeS A x.1 y.1

abbrev Heads := List (List Nat × List Nat × List Nat)

def noSel (o : Oper) : Bool := match o.op with
  | .select .. => false
  | _ => true

def cc (P : Program) (H : Hints) (A : Alias) : Code → Heads → Option (SC × Heads)
  | .skip, h => some (.skip, h)
  | .region _ ops draw, h => (ccOpers P H ops [] ops.toList).bind fun s => if (draw = true → orderOk A ops.toList s = true) ∧ ops.toList.all noSel = true ∧ s.all (aliasOp A) = true then some (.reg s, h) else none
  | .seq a b, h => (cc P H A a h).bind fun x => (cc P H A b x.2).map fun y => (.seq x.1 y.1, y.2)
  | .cond c a b, h => (ccX c).bind fun s => (cc P H A a h).bind fun x => (cc P H A b x.2).map fun y => (.cond s x.1 y.1, y.2)
  | .block id c, h => (cc P H A c h).map fun x => (.blk id x.1, x.2)
  | .loop c, h => match h with
    | (ls, lb, lt) :: r => (cc P H A c r).map fun x => (.loop ls lb lt x.1, x.2)
    | [] => none
  | .exit id, h => some (.exit id, h)
  | .ret, h => some (.ret, h)
  | _, _ => none

/-- The addresses that a code's slots bear. -/
def aliases (P : Program) (H : Hints) : Code → Alias → Alias
  | .region _ ops _, A => match ccOpers P H ops [] ops.toList with
    | some s => s.foldl aliasStep A
    | none => A
  | .seq a b, A | .cond _ a b, A => aliases P H b (aliases P H a A)
  | .block _ a, A | .loop a, A => aliases P H a A
  | _, A => A

end Go.Proofs.Ytgmciihlmgeecaa.Mt

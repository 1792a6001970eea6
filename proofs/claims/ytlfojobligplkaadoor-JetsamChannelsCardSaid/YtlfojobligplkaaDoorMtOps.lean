import Derived.Test.YtlfojobligplkaaDoorMtMem
import Derived.Laws.StructEq
import Derived.ChangeKeysEq
/- From the machine's code to the evaluator's. Definitions alone; no conditions. -/
namespace Go.Proofs.YtlfojobligplkaaDoor.Mt
open Go Go.RowKit

/-- What the text doesn't tell of a call: who is handed rows of the caller's own; who hands such back; who writes a variable by its address. -/
structure Hints where
  ow : List Nat := []
  pt : List Nat := []
  pc : List Nat := []
  sp : List Nat := []
  fz : List Nat := []

def isSp (H : Hints) : SX → Bool
  | .t i => H.sp.contains i
  | _ => false
def isFz (H : Hints) : Option Nat → Bool
  | some d => H.fz.contains d
  | none => false
def ccX : Operand → Option SX
  | .tmp t => some (.t t)
  | .const v => if v.oneCell' = true then some (.c v) else none
  | .func f => some (.f f)
  | .global _ => none
def ccXs : List Operand → Option (List SX)
  | [] => some []
  | x :: r => (ccX x).bind fun x => (ccXs r).map (x :: ·)

def aggT (P : Program) (t : TypeId) : Bool := match P.underlying t with
  | some (.struct _) | some (.array _ _) => true
  | _ => false
def sizeT (P : Program) (t : TypeId) : Option Nat := (P.info? t).map (·.size)
/-- Is it an aggregate, and how many cells has it? (Of another type: one.) -/
def shapeT (P : Program) (t : TypeId) : Option (Bool × Nat) := (sizeT P t).bind fun n => match P.underlying t with
  | some (.struct _) | some (.array _ _) => some (true, n)
  | some (.int _) | some .bool | some .string | some (.slice _) | some (.func ..) | some (.pointer _) => if n = 1 then some (false, 1) else none
  | _ => none
def zeroT (P : Program) (t : TypeId) : Option (List Value) := (P.info? t).bind fun i => i.zero.bind fun z => if z.cells.toList.all (·.oneCell') = true then some z.cells.toList else none

def flatK (P : Program) : Nat → TypeId → Option (List (Option IntKind))
  | 0, _ => none
  | d + 1, t => match P.underlying t with
    | some (.int k) => if sizeT P t = some 1 then some [some k] else none
    | some .bool => if sizeT P t = some 1 then some [none] else none
    | some (.struct fs) => if P.stoodInHeld t = true then none else
        fs.toList.foldl (fun acc f => acc.bind fun ks => if f.name ≠ "_" ∧ f.offset = ks.length then (flatK P d f.type).bind fun k2 => if sizeT P f.type = some k2.length then some (ks ++ k2) else none else none) (some [])
    | some (.array n e) => (flatK P d e).bind fun ks => if sizeT P e = some ks.length then some (List.replicate n ks).flatten else none
    | _ => none

def intBin : BinOp → Bool
  | .add | .sub | .mul | .quo | .rem | .eql | .neq | .lss | .leq | .gtr | .geq => true
  | _ => false

def isEl (el : List Tmp) : Operand → Bool
  | .tmp t => el.contains t
  | _ => false

def ccParts : List (Nat × Operand) → Option (List (Nat × SX))
  | [] => some []
  | (i, x) :: r => (ccX x).bind fun x => (ccParts r).map ((i, x) :: ·)
def ccPartsA (P : Program) (fs : Array Field) : List (Nat × Operand) → Option (List (Nat × Nat × SX))
  | [] => some []
  | (i, x) :: r => (fs[i]?).bind fun f => (sizeT P f.type).bind fun n => (ccX x).bind fun x => (ccPartsA P fs r).map ((f.offset, n, x) :: ·)
def ccPartsR (n : Nat) : List (Nat × Operand) → Option (List (Nat × Nat × SX))
  | [] => some []
  | (i, x) :: r => (ccX x).bind fun x => (ccPartsR n r).map ((i * n, n, x) :: ·)
def ccO : Option Operand → Option (Option SX)
  | none => some none
  | some x => (ccX x).map some

def okF (P : Program) (f : FuncId) : Bool := match P.funcs[f]? with
  | some fn => fn.name != "runtime.NumGoroutine" && fn.body.isSome
  | none => false

def ccCall (P : Program) (H : Hints) (c : Call) : Option SOp := match c.callee with
  | .builtin b => match b, c.args.toList, c.argTypes.toList with
    | .len, [x], [t] => match P.underlying t with
      | some (.slice _) => (ccX x).map .len
      | _ => none
    | .min, x :: xs, _ => (ccXs (x :: xs)).map (.mm false)
    | .max, x :: xs, _ => (ccXs (x :: xs)).map (.mm true)
    | .append, [s, x], [t, t'] => if t = t' then match P.underlying t with
        | some (.slice e) => (P.info? e).bind fun i => (zeroT P e).bind fun z => (ccX s).bind fun s => (ccX x).bind fun x => if 0 < i.size ∧ z.length = i.size ∧ 0 < i.bytes then some (.app e i.size i.bytes z s x) else none
        | _ => none
      else none
    | _, _, _ => none
  | .value (.func f) => if H.pc.contains f then match c.args.toList with
      | p :: xs => (ccX p).bind fun p => (ccXs xs).map fun xs => .pcall f p xs
      | [] => none
    else (ccXs c.args.toList).map fun xs => .call (H.ow.contains f) (H.pt.contains f) (.f f) xs
  | .value (.tmp t) => (ccXs c.args.toList).map fun xs => .call false false (.t t) xs
  | _ => none

def ccOp0 (P : Program) (H : Hints) (el : List Tmp) (o : Oper) : Option SOp := match o.op with
  | .move x | .assign x => (ccX x).map .mv
  | .pick c a b => (ccX c).bind fun c => (ccX a).bind fun a => (ccX b).map fun b => .pick c a b
  | .alloc t => (zeroT P t).map .alloc
  | .box _ x => (ccX x).map .box
  | .load t p => (shapeT P t).bind fun s => (ccX p).map fun q => .load (isEl el p) s.1 s.2 ((flatK P 20 t).getD []) q
  | .store t p x => (shapeT P t).bind fun s => (ccX p).bind fun q => (ccX x).map fun y => .store (isEl el p) s.2 q y
  | .fieldAddr t x f => match P.underlying t with
    | some (.struct fs) => (fs[f]?).bind fun g => (sizeT P g.type).bind fun n => if n = 0 then none else (ccX x).map fun x => .fld g.offset x
    | _ => none
  | .indexAddr t x i => match P.underlying t with
    | some (.array n e) => (sizeT P e).bind fun m => if m = 0 then none else (ccX x).bind fun x => (ccX i).map fun i => .ixA n m x i
    | some (.slice e) => (sizeT P e).bind fun m => if m = 0 then none else (ccX x).bind fun x => (ccX i).map fun i => .ixS m x i
    | _ => none
  | .index t x i => match P.underlying t with
    | some (.array n e) => (shapeT P e).bind fun s => if sizeT P e = some s.2 then (ccX x).bind fun x => (ccX i).map fun i => .ixV s.1 n s.2 ((flatK P 20 e).getD []) x i else none
    | _ => none
  | .field t x f => match P.underlying t with
    | some (.struct fs) => (fs[f]?).bind fun g => (shapeT P g.type).bind fun s => (ccX x).map fun x => .fldV s.1 g.offset s.2 ((flatK P 20 g.type).getD []) x
    | _ => none
  | .build t parts => match P.underlying t with
    | some (.struct fs) => (zeroT P t).bind fun z => (ccPartsA P fs parts.toList).bind fun ps => if fs.toList.all (fun f => (sizeT P f.type).isSome) = true then some (.build z ps) else none
    | some (.array _ e) => (zeroT P t).bind fun z => (sizeT P e).bind fun n => (ccPartsR n parts.toList).map fun ps => .build z ps
    | _ => none
  | .buildSlice t n parts => match P.underlying t with
    | some (.slice e) => (sizeT P e).bind fun m => (zeroT P e).bind fun z => (ccParts parts.toList).bind fun ps =>
        if n * m ≤ 16777216 ∧ 0 < m ∧ z.length = m then some (bif isFz H o.dst then .buildF m n ((List.range (n * m)).map fun j => z.getD (j % m) undef) ps else .buildS e m n ((List.range (n * m)).map fun j => z.getD (j % m) undef) ps) else none
    | _ => none
  | .binOp b t x y _ => (ccX x).bind fun x => (ccX y).bind fun y => match P.underlying t with
    | some (.int _) => if intBin b = true then some (.bin b x y) else none
    | some .bool => match b with
      | .eql => some (.binB false x y)
      | .neq => some (.binB true x y)
      | _ => none
    | some (.struct _) | some (.array _ _) => (flatK P 20 t).bind fun ks => if P.eqGuardType P.depth t = false then match b with
        | .eql => some (.eqA false ks x y)
        | .neq => some (.eqA true ks x y)
        | _ => none
      else none
    | _ => none
  | .unOp u _ x => (ccX x).map fun x => .un u x
  | .convert s d x => match P.underlying s, P.underlying d with
    | some (.int _), some (.int k) => (ccX x).map fun x => .conv k x
    | _, _ => none
  | .extract x i => (ccX x).map fun x => .ext i x
  | .slice t x lo hi none => match P.underlying t with
    | some (.slice e) => (sizeT P e).bind fun m => (ccX x).bind fun x => (ccO lo).bind fun lo => (ccO hi).map fun hi => bif isSp H x then .slp m x lo hi else .slc m x lo hi
    | _ => none
  | .call c => ccCall P H c
  | .nilCheck x => (ccX x).map .nilc
  | _ => none

/-- Operations on plain values alone. -/
def ccPur (P : Program) (o : Oper) : Option SOp := match o.op with
  | .index t x i => match P.underlying t with
    | some .string => (ccX x).bind fun x => (ccX i).map fun i => .pur .sidx [x, i]
    | _ => none
  | .slice t x lo hi none => match P.underlying t with
    | some .string => (ccX x).bind fun x => match lo, hi with
      | some lo, none => (ccX lo).map fun lo => .pur (.sslc true false) [x, lo]
      | none, some hi => (ccX hi).map fun hi => .pur (.sslc false true) [x, hi]
      | some lo, some hi => (ccX lo).bind fun lo => (ccX hi).map fun hi => .pur (.sslc true true) [x, lo, hi]
      | none, none => none
    | _ => none
  | .binOp b t x y _ => match P.underlying t with
    | some .string => (ccX x).bind fun x => (ccX y).bind fun y => match b with
      | .eql => some (.pur (.seq false) [x, y])
      | .neq => some (.pur (.seq true) [x, y])
      | _ => none
    | some (.interface _) => match y with
      | .const .nilIface => (ccX x).bind fun x => match b with
        | .eql => some (.pur (.isNil false) [x])
        | .neq => some (.pur (.isNil true) [x])
        | _ => none
      | _ => none
    | some (.int _) => (ccX x).bind fun x => (ccX y).map fun y => .pur (.bit b) [x, y]
    | _ => none
  | .call c => match c.callee, c.args.toList, c.argTypes.toList with
    | .builtin .len, [x], [t] => match P.underlying t with
      | some .string => (ccX x).map fun x => .pur .slen [x]
      | _ => none
    | _, _, _ => none
  | _ => none
/-- Reads of rows that are handed in, where the hints tell so. -/
def plainOf (H : Hints) (s : SOp) : SOp := match s with
  | .ixS m x i => bif isSp H x then .ixp m x i else .ixS m x i
  | .load true ag n ks p => bif isSp H p then .ldp ag n ks p else .load true ag n ks p
  | s => s
theorem plain_ev {H : Hints} {s : SOp} {C : Ctx} {d : Nat} {st : St} {r : Res} (h : evOp C d st (plainOf H s) = some r) : evOp C d st s = some r := by
  cases s with
  | ixS m x i =>
    cases hb : isSp H x with
    | false => simp only [plainOf, hb, cond_false] at h; exact h
    | true =>
      simp only [plainOf, hb, cond_true, evOp] at h
      simp only [evOp]
      split at h
      · rename_i e1 e2; simp only [e1, e2]; exact h
      · cases h
  | load el ag n ks p =>
    cases el with
    | false => exact h
    | true =>
      cases hb : isSp H p with
      | false => simp only [plainOf, hb, cond_false] at h; exact h
      | true =>
        simp only [plainOf, hb, cond_true, evOp] at h
        simp only [evOp]
        split at h
        · rename_i e1; simp only [e1]; exact h
        · cases h
  | _ => exact h
def ccOp (P : Program) (H : Hints) (el : List Tmp) (o : Oper) : Option SOp := match ccOp0 P H el o with
  | some s => some (plainOf H s)
  | none => ccPur P o

/-- Which slots bear an element's address, behind this operation? -/
def elNext (P : Program) (el : List Tmp) (o : Oper) : List Tmp :=
  match o.dst with
  | none => el
  | some d =>
    let is := match o.op with
      | .indexAddr t x _ => match P.underlying t with
        | some (.slice _) => true
        | _ => isEl el x
      | .fieldAddr _ x _ | .move x | .assign x | .nilCheck x => isEl el x
      | _ => false
    bif is then d :: el else el.filter (· != d)

def ccGuard (ops : Array Oper) : Option (Nat × Bool) → Option (Option (Nat × Bool))
  | none => some none
  | some (j, b) => ((ops[j]?).bind (·.dst)).map fun d => some (d, b)

def ccOpers (P : Program) (H : Hints) (ops : Array Oper) : List Tmp → List Oper → Option (List SOper)
  | _, [] => some []
  | el, o :: r => (ccOp P H el o).bind fun s => (ccGuard ops o.guard).bind fun g => (ccOpers P H ops (elNext P el o) r).map (⟨o.dst, s, g⟩ :: ·)

/-! ### May two operations come in either order? -/

/-- What it reads and writes of what is there: variables (read, written), rows (read, written). -/
structure Foot where
  rb : Bool := false
  wb : Bool := false
  rt : Bool := false
  wt : Bool := false

def footOf : SOp → Foot
  | .load el _ _ _ _ => if el then { rt := true } else { rb := true }
  | .store el _ _ _ => if el then { rt := true, wt := true } else { rb := true, wb := true }
  | .ixS .. | .len _ => { rt := true }
  | .app .. => { rt := true, wt := true }
  | .slc .. => { rt := true, wt := true }
  | .call ow _ _ _ => { rt := ow }
  | .pcall .. => { rb := true, wb := true }
  | _ => {}

/-- The slot that bears the variable's address. -/
def ptrOf : SOp → Option Nat
  | .load false _ _ _ (.t p) | .store false _ (.t p) _ | .pcall _ (.t p) _ => some p
  | _ => none

/-- Which variable (by the slot that it was made in) a slot's address is of, where that is known. -/
abbrev Alias := List (Nat × Nat)
def lookA : Alias → Nat → Option Nat
  | [], _ => none
  | (p, b) :: r, q => bif p == q then some b else lookA r q
def baseOf (A : Alias) (o : SOp) : Option Nat := (ptrOf o).bind (lookA A)
def otherB (A : Alias) (x y : SOp) : Bool := match baseOf A x, baseOf A y with
  | some a, some b => a != b
  | _, _ => false

def clash (A : Alias) (x y : SOp) : Bool :=
  let a := footOf x
  let b := footOf y
  (((a.wb && (b.rb || b.wb)) || (b.wb && a.rb)) && !otherB A x y) || (a.wt && (b.rt || b.wt)) || (b.wt && a.rt)

/-- Which operations are not what the list of addresses tells of their slots? -/
def aliasOp (A : Alias) (o : SOper) : Bool := match o.dst with
  | none => true
  | some d => match lookA A d with
    | none => true
    | some b => match o.op with
      | .alloc _ | .box _ => b == d
      | .fld _ (.t p) | .ixA _ _ (.t p) _ | .mv (.t p) | .nilc (.t p) => lookA A p == some b
      | _ => false
def aliasStep (A : Alias) (o : SOper) : Alias := match o.dst with
  | none => A
  | some d => match o.op with
    | .alloc _ | .box _ => (d, d) :: A
    | .fld _ (.t p) | .ixA _ _ (.t p) _ | .mv (.t p) | .nilc (.t p) => match lookA A p with
      | some b => (d, b) :: A
      | none => A
    | _ => A

def sxT : SX → List Nat
  | .t i => [i]
  | _ => []
def slotsOf : SOp → List Nat
  | .mv x | .box x | .fld _ x | .un _ x | .conv _ x | .ext _ x | .len x | .nilc x | .load _ _ _ _ x | .fldV _ _ _ _ x => sxT x
  | .pick a b c => sxT a ++ sxT b ++ sxT c
  | .alloc _ => []
  | .ldp _ _ _ x => sxT x
  | .ixp _ x y | .store _ _ x y | .ixA _ _ x y | .ixS _ x y | .ixV _ _ _ _ x y | .bin _ x y | .binB _ x y | .eqA _ _ x y | .app _ _ _ _ x y => sxT x ++ sxT y
  | .build _ ps => ps.flatMap fun p => sxT p.2.2
  | .buildS _ _ _ _ ps => ps.flatMap fun p => sxT p.2
  | .buildF _ _ _ ps => ps.flatMap fun p => sxT p.2
  | .mm _ xs => xs.flatMap sxT
  | .pur _ xs => xs.flatMap sxT
  | .slc _ x lo hi | .slp _ x lo hi => sxT x ++ (lo.map sxT).getD [] ++ (hi.map sxT).getD []
  | .call _ _ f xs => sxT f ++ xs.flatMap sxT
  | .pcall _ p xs => sxT p ++ xs.flatMap sxT
def looks (o : SOper) : List Nat := slotsOf o.op ++ (match o.guard with | some (j, _) => [j] | none => [])

def apartS (x y : SOper) : Bool :=
  (match x.dst with | some d => !(looks y).contains d && !(y.dst == some d) | none => true) && (match y.dst with | some d => !(looks x).contains d | none => true)

def freeS (A : Alias) (x y : SOper) : Bool := apartS x y && !clash A x.op y.op

/-- What an operation waits for, directly. -/
def depsOf (o : Oper) : List Nat := (o.after.toList.filter fun e => Region.binds .any e).map (·.on)
/-- All that it waits for, as bits; told ahead (B), checked here: each bit is a need, or a need's bit. -/
def upB (B : List Nat) : List Nat → Nat
  | [] => 0
  | n :: r => (2 ^ n ||| B.getD n 0) ||| upB B r
def waits (ops : List Oper) : List Nat → List Nat
  | acc => (ops.foldl (fun (acc : List Nat) o => acc ++ [upB acc (depsOf o)]) acc)

/-- Of each two the earlier one is waited for, or they may come in either order. -/
def orderOk (A : Alias) (ops : List Oper) (sops : List SOper) : Bool :=
  let B := waits ops []
  ops.zipIdx.all (fun p => (depsOf p.1).all (· < p.2)) &&
  sops.zipIdx.all fun y => (sops.take y.2).zipIdx.all fun x => (B.getD y.2 0).testBit x.2 || freeS A x.1 y.1

abbrev Heads := List (List Nat × List Nat × List Nat)

def noSel (o : Oper) : Bool := match o.op with
  | .select .. => false
  | _ => true

def cc (P : Program) (H : Hints) (A : Alias) : Code → Heads → Option (SC × Heads)
  | .skip, h => some (.skip, h)
  | .region _ ops draw, h => (ccOpers P H ops [] ops.toList).bind fun s => if (draw = true → orderOk A ops.toList s = true) ∧ ops.toList.all noSel = true ∧ s.all (aliasOp A) = true then some (.reg s, h) else none
  | .seq a b, h => (cc P H A a h).bind fun x => (cc P H A b x.2).map fun y => (.seq x.1 y.1, y.2)
  | .cond c a b, h => (ccX c).bind fun s => (cc P H A a h).bind fun x => (cc P H A b x.2).map fun y => (.cond s x.1 y.1, y.2)
  | .block id c, h => (cc P H A c h).map fun x => (.blk id x.1, x.2)
  | .loop c, h => match h with
    | (ls, lb, lt) :: r => (cc P H A c r).map fun x => (.loop ls lb lt x.1, x.2)
    | [] => none
  | .exit id, h => some (.exit id, h)
  | .ret, h => some (.ret, h)
  | _, _ => none

/-- The addresses that a code's slots bear. -/
def aliases (P : Program) (H : Hints) : Code → Alias → Alias
  | .region _ ops _, A => match ccOpers P H ops [] ops.toList with
    | some s => s.foldl aliasStep A
    | none => A
  | .seq a b, A | .cond _ a b, A => aliases P H b (aliases P H a A)
  | .block _ a, A | .loop a, A => aliases P H a A
  | _, A => A

end Go.Proofs.YtlfojobligplkaaDoor.Mt

/-! Each operation does what the evaluator says (but calls, and what makes or writes memory: the next text). Conditions: those that each lemma names. -/
namespace Go.Proofs.YtlfojobligplkaaDoor.Mt
open Go Go.RowKit
section
variable {P : Program} {W0 : Base} {S0 : Nat → Prop} {φ : Nat → Nat → Nat} {γ : Nat → Nat → Value} {st st' : St} {a : Act} {w w' : World}

theorem envOf_congr (hb : st'.bx = st.bx) (ht : st'.tk = st.tk) : envOf W0 S0 φ γ st' w = envOf W0 S0 φ γ st w := by
  unfold envOf Fx
  rw [hb, ht]
theorem Mem.congr (h : Mem W0 S0 φ γ st w) (hb : st'.bx = st.bx) (ht : st'.tk = st.tk) : Mem W0 S0 φ γ st' w := by
  obtain ⟨h1, h2, h3, h4, h5, h6⟩ := h
  have e : Fx W0 S0 φ γ st' w = Fx W0 S0 φ γ st w := by unfold Fx; rw [hb, ht]
  refine ⟨h1, ?_, ?_, ?_, ?_, ?_⟩
  · rw [hb, envOf_congr hb ht]; exact h2
  · rw [hb]; exact h3
  · rw [ht, e]; exact h4
  · rw [ht]; exact h5
  · rw [ht, hb]; exact h6

/-- A value alone. -/
theorem Rep.pure (h : Rep W0 S0 φ γ st a w) (dst : Option Nat) {v : CV} {u : Value} (hv : RelV w (envOf W0 S0 φ γ st w) v u) : Rep W0 S0 φ γ (applyR dst st { val := v }) (a.put dst u) w := by
  have e := envOf_congr (W0 := W0) (S0 := S0) (φ := φ) (γ := γ) (st := st) (st' := applyR dst st { val := v }) (w := w) rfl rfl
  refine h.put dst { val := v } u (h.mem.congr rfl rfl) ?_ fun d _ => ?_
  · rw [e]; exact ⟨fun b hb => ⟨hb, rfl⟩, fun d k hb => ⟨hb, rfl⟩, fun d k hb => ⟨hb, rfl⟩⟩
  · rw [e]; exact hv

def Does (P : Program) (o : Oper) (a : Act) (w : World) (u : Value) (w' : World) : Prop :=
  (execOp a.eval o).run P w = .ok (.value u) w' ∨ ((execOp a.eval o).run P w = .ok .skip w' ∧ u = undef)

theorem ccX_rel {x : Operand} {s : SX} (hx : ccX x = some s) (h : Rep W0 S0 φ γ st a w) : RelV w (envOf W0 S0 φ γ st w) (getX st s) (a.eval x) := by
  cases x with
  | tmp t => simp only [ccX, Option.some.injEq] at hx; subst hx; exact h.getT t
  | const v =>
    simp only [ccX] at hx
    split at hx
    · rename_i ho; simp only [Option.some.injEq] at hx; subst hx; exact RelC.v ho
    · (cases hx; done)
  | func f => simp only [ccX, Option.some.injEq] at hx; subst hx; exact RelC.v rfl
  | global g => simp [ccX] at hx

/-! ### Numbers -/

theorem rel_v {E : Env} {x u : Value} (h : RelV w E (.one (.v x)) u) : u = x := by
  have h' : RelC w E.F (.v x) u := h
  cases h'; rfl

theorem rel_vv {E : Env} {x : Value} (h : x.oneCell' = true) : RelV w E (.one (.v x)) x := RelC.v h

theorem binV_one {b : BinOp} {x y v : Value} (h : binV b x y = some v) : v.oneCell' = true := by
  cases x <;> cases y <;> simp only [binV] at h <;> first | (cases h; done) | skip
  split at h
  · cases b <;> simp only at h <;> first
      | (simp only [Option.some.injEq] at h; subst h; rfl)
      | (split at h <;> first | (cases h; done) | (simp only [Option.some.injEq] at h; subst h; rfl))
      | (cases h; done)
  · (cases h; done)

theorem binV_run {b : BinOp} {t : TypeId} {x y v : Value} (ox oy : Operand) (h : binV b x y = some v) :
    (do eqGuard b t ox oy x y; binOp b t x y : Sem Value).run P w = .ok v w := by
  cases x with
  | int k n => cases y with
    | int k' m =>
      simp only [binV] at h
      split at h
      · rename_i hk
        subst hk
        have hg : (eqGuard b t ox oy (.int k n) (.int k m)).run P w = .ok () w := by cases b <;> simp [eqGuard]
        rw [Sem.run_bind, hg]
        simp only [Result.andThen_ok]
        cases b <;> simp only [Option.some.injEq] at h <;> first
          | (cases h; done)
          | (subst h; simp [binOp, Op.intArith, Op.intCmp]; done)
          | (split at h
             · (cases h; done)
             · rename_i hz
               simp only [Option.some.injEq] at h
               subst h
               simp [binOp, Op.intDiv, hz])
      · (cases h; done)
    | _ => simp [binV] at h
  | _ => simp [binV] at h

theorem bit_run {b : BinOp} {t : TypeId} {x y v : Value} (ox oy : Operand) (h : bitV b x y = some v) :
    v.oneCell' = true ∧ (do eqGuard b t ox oy x y; binOp b t x y : Sem Value).run P w = .ok v w := by
  cases x with
  | int k n => cases y with
    | int k' m =>
      have hg : (eqGuard b t ox oy (.int k n) (.int k' m)).run P w = .ok () w := by cases b <;> simp [eqGuard]
      rw [Sem.run_bind, hg]
      simp only [Result.andThen_ok]
      cases b <;> simp only [bitV] at h <;> first
        | (cases h; done)
        | (split at h
           · rename_i hk
             simp only [Option.some.injEq] at h
             subst h
             first
               | (subst hk; refine ⟨rfl, ?_⟩; first | (rw [binOp_and, intBits_and]; rfl) | (rw [binOp_or, intBits_or]; rfl) | (rw [binOp_xor, intBits_xor]; rfl) | (rw [binOp_andNot, intBits_andNot]; rfl))
               | (refine ⟨rfl, ?_⟩; have hn : ¬ m < 0 := by omega
                  first | (rw [binOp_shl]; unfold Op.shift; rw [if_neg hn]; rfl) | (rw [binOp_shr]; unfold Op.shift; rw [if_neg hn]; rfl))
           · cases h)
    | _ => simp [bitV] at h
  | _ => simp [bitV] at h

theorem unV_one {u : UnOp} {x v : Value} (h : unV u x = some v) : v.oneCell' = true := by
  cases x <;> cases u <;> simp only [unV] at h <;> first | (cases h; done) | (simp only [Option.some.injEq] at h; subst h; rfl)

theorem unV_run {u : UnOp} {x v : Value} (h : unV u x = some v) : (Op.unary u x).run P w = .ok v w := by
  cases x <;> cases u <;> simp only [unV] at h <;> first | (cases h; done) | (simp only [Option.some.injEq] at h; subst h; simp [Op.unary, Op.intArith]; done)

/-! ### '==' of structs and arrays -/

def kindOk : Option IntKind → Value → Bool
  | some k, .int k' _ => k' == k
  | none, .bool _ => true
  | _, _ => false
def eqV : Value → Value → Bool
  | .int _ a, .int _ b => a == b
  | .bool a, .bool b => a == b
  | _, _ => false
def eqL : List Value → List Value → Bool
  | x :: xs, y :: ys => eqV x y && eqL xs ys
  | _, _ => true
def KindsOk (ks : List (Option IntKind)) (xs : List Value) : Prop := xs.length = ks.length ∧ ∀ (j : Nat) (k : Option IntKind) (x : Value), ks[j]? = some k → xs[j]? = some x → kindOk k x = true

theorem eqL_append : ∀ (a b c d : List Value), a.length = b.length → eqL (a ++ c) (b ++ d) = (eqL a b && eqL c d)
  | [], [], c, d, _ => by simp [eqL]
  | x :: a, y :: b, c, d, h => by simp [eqL, eqL_append a b c d (by simpa using h), Bool.and_assoc]
  | [], _ :: _, _, _, h => by simp at h
  | _ :: _, [], _, _, h => by simp at h

theorem KindsOk.sub {ks k2 rest : List (Option IntKind)} {xs : List Value} (h : KindsOk (ks ++ k2 ++ rest) xs) : KindsOk k2 ((xs.drop ks.length).take k2.length) := by
  have hl := h.1
  simp only [List.length_append] at hl
  refine ⟨by simp; omega, fun j k x hk hx => ?_⟩
  have hj := (List.getElem?_eq_some_iff.1 hk).1
  rw [List.getElem?_take, if_pos hj, List.getElem?_drop] at hx
  refine h.2 (ks.length + j) k x ?_ hx
  rw [List.append_assoc, List.getElem?_append_right (by omega), List.getElem?_append_left (by omega), Nat.add_sub_cancel_left]
  exact hk

/-- The whole value out of its cells. -/
def valOf (ag : Bool) (xs : List Value) : Value := bif ag then .agg xs.toArray else xs.getD 0 undef

theorem run_part {t : TypeId} {n : Nat} (hs : sizeT P t = some n) (hn : aggT P t = false → n = 1 ∧ (P.underlying t).isSome = true) (xs : List Value) (off : Nat) (hl : off + n ≤ xs.length) :
    (part t xs.toArray off).run P w = .ok (valOf (aggT P t) ((xs.drop off).take n)) w := by
  unfold part isAgg
  cases hu : P.underlying t with
  | none =>
    have : aggT P t = false := by simp [aggT, hu]
    have := (hn this).2
    simp [hu] at this
  | some d =>
    have hi : ∃ i, P.info? t = some i ∧ i.size = n := by
      unfold sizeT at hs
      cases hq : P.info? t with
      | none => simp [hq] at hs
      | some i => simp [hq] at hs; exact ⟨i, rfl, hs⟩
    obtain ⟨i, hq, hsz⟩ := hi
    have one : aggT P t = false → (xs[off]?) = some (((xs.drop off).take n).getD 0 undef) := by
      intro ha
      have hn1 := (hn ha).1
      subst hn1
      rw [List.getElem?_eq_getElem (by omega)]
      simp [List.getD_eq_getElem?_getD, List.getElem?_drop, List.getElem?_eq_getElem (show off < xs.length by omega)]
    cases d <;> simp only [Sem.run_bind, run_underlying hu, Result.andThen_ok] <;> first
      | (have ha : aggT P t = true := by simp [aggT, hu]
         simp [ha, valOf, sizeOf, typeInfo, hq, hsz])
      | (have ha : aggT P t = false := by simp [aggT, hu]
         have o1 := one ha
         simp [ha, valOf, o1])

theorem flatK_shape : ∀ {D : Nat} {t : TypeId} {ks : List (Option IntKind)}, flatK P D t = some ks → (P.underlying t).isSome = true ∧ (aggT P t = false → ks.length = 1)
  | 0, _, _, h => by simp [flatK] at h
  | D + 1, t, ks, h => by
    unfold flatK at h
    unfold aggT
    cases hu : P.underlying t with
    | none => simp [hu] at h
    | some d =>
      refine ⟨rfl, fun ha => ?_⟩
      rw [hu] at h
      cases d <;> simp only at h ha <;> first
        | (cases h; done)
        | (cases ha; done)
        | (split at h
           · simp only [Option.some.injEq] at h; subst h; rfl
           · (cases h; done))

/-- A struct's fields, one behind the other. -/
def foldK (P : Program) (D : Nat) (acc : Option (List (Option IntKind))) (f : Field) : Option (List (Option IntKind)) :=
  acc.bind fun ks => if f.name ≠ "_" ∧ f.offset = ks.length then (flatK P D f.type).bind fun k2 => if sizeT P f.type = some k2.length then some (ks ++ k2) else none else none

theorem foldK_none (D : Nat) : ∀ fs : List Field, fs.foldl (foldK P D) none = none
  | [] => rfl
  | f :: fs => by rw [List.foldl_cons]; exact foldK_none D fs

theorem kinds_part {D : Nat} {t : TypeId} {k2 : List (Option IntKind)} (hk : flatK P D t = some k2) (hs : sizeT P t = some k2.length) {ks rest : List (Option IntKind)} {xs : List Value} (hx : KindsOk (ks ++ k2 ++ rest) xs) :
    (part t xs.toArray ks.length).run P w = .ok (valOf (aggT P t) ((xs.drop ks.length).take k2.length)) w := by
  have hl := hx.1
  simp only [List.length_append] at hl
  exact run_part hs (fun ha => ⟨(flatK_shape hk).2 ha, (flatK_shape hk).1⟩) xs ks.length (by omega)

theorem eqFields_flat {D d : Nat} (ih : ∀ (t : TypeId) (ks : List (Option IntKind)), flatK P D t = some ks → ∀ xs ys, KindsOk ks xs → KindsOk ks ys → (Op.equalIn d t (valOf (aggT P t) xs) (valOf (aggT P t) ys)).run P w = .ok (eqL xs ys) w)
    {xs ys : List Value} : ∀ (fs : List Field) (ks0 ks : List (Option IntKind)), fs.foldl (foldK P D) (some ks0) = some ks → KindsOk ks xs → KindsOk ks ys →
    (∃ rest, ks = ks0 ++ rest) ∧ (Op.eqFields d xs.toArray ys.toArray fs).run P w = .ok (eqL (xs.drop ks0.length) (ys.drop ks0.length)) w
  | [], ks0, ks, h, hx, hy => by
    simp only [List.foldl_nil, Option.some.injEq] at h
    subst h
    refine ⟨⟨[], by simp⟩, ?_⟩
    rw [List.drop_of_length_le (by rw [hx.1]; exact Nat.le_refl _), List.drop_of_length_le (by rw [hy.1]; exact Nat.le_refl _)]
    simp [Op.eqFields, eqL]
  | f :: fs, ks0, ks, h, hx, hy => by
    rw [List.foldl_cons] at h
    cases hf : foldK P D (some ks0) f with
    | none => rw [hf, foldK_none] at h; cases h
    | some ks1 =>
      rw [hf] at h
      obtain ⟨⟨rest, rfl⟩, hrun⟩ := eqFields_flat ih fs ks1 ks h hx hy
      simp only [foldK, Option.bind_some] at hf
      split at hf
      · rename_i hn
        cases hk : flatK P D f.type with
        | none => rw [hk] at hf; cases hf
        | some k2 =>
          rw [hk] at hf
          simp only [Option.bind_some] at hf
          split at hf
          · rename_i hs
            simp only [Option.some.injEq] at hf
            subst hf
            refine ⟨⟨k2 ++ rest, by simp⟩, ?_⟩
            have p1 := kinds_part (w := w) hk hs hx
            have p2 := kinds_part (w := w) hk hs hy
            have e := ih f.type k2 hk _ _ hx.sub hy.sub
            rw [Op.eqFields, if_pos hn.1]
            simp only [Sem.run_bind, hn.2, p1, p2, e, Result.andThen_ok]
            have hlx := hx.1
            have hly := hy.1
            simp only [List.length_append] at hlx hly
            have cut : eqL (xs.drop ks0.length) (ys.drop ks0.length) = (eqL ((xs.drop ks0.length).take k2.length) ((ys.drop ks0.length).take k2.length) && eqL (xs.drop (ks0 ++ k2).length) (ys.drop (ks0 ++ k2).length)) := by
              rw [← eqL_append _ _ _ _ (by simp; omega)]
              rw [List.length_append, ← List.drop_drop, ← List.drop_drop, List.take_append_drop, List.take_append_drop]
            rw [cut]
            cases hq : eqL ((xs.drop ks0.length).take k2.length) ((ys.drop ks0.length).take k2.length)
            · simp
            · simpa using hrun
          · cases hf
      · cases hf

theorem eqItems_flat {d : Nat} {e : TypeId} {ke : List (Option IntKind)} {D : Nat} (hk : flatK P D e = some ke) (hs : sizeT P e = some ke.length)
    (ih : ∀ xs ys, KindsOk ke xs → KindsOk ke ys → (Op.equalIn d e (valOf (aggT P e) xs) (valOf (aggT P e) ys)).run P w = .ok (eqL xs ys) w)
    {xs ys : List Value} {n : Nat} (hx : KindsOk (List.replicate n ke).flatten xs) (hy : KindsOk (List.replicate n ke).flatten ys) :
    ∀ (m i : Nat), i + m = n → (Op.eqItems d e ke.length xs.toArray ys.toArray (List.range' i m)).run P w = .ok (eqL (xs.drop (i * ke.length)) (ys.drop (i * ke.length))) w
  | 0, i, h => by
    have hlx := hx.1
    have hly := hy.1
    simp only [List.length_flatten, List.map_replicate, List.sum_replicate_nat] at hlx hly
    have : i = n := by omega
    subst this
    rw [List.drop_of_length_le (by omega), List.drop_of_length_le (by omega)]
    simp [Op.eqItems, eqL]
  | m + 1, i, h => by
    have hsplit : (List.replicate n ke).flatten = (List.replicate i ke).flatten ++ ke ++ (List.replicate m ke).flatten := by
      have : n = i + 1 + m := by omega
      subst this
      rw [← List.replicate_append_replicate, ← List.replicate_append_replicate, List.flatten_append, List.flatten_append]
      simp
    have hlen : ((List.replicate i ke).flatten).length = i * ke.length := by simp
    have hx' := hx
    have hy' := hy
    rw [hsplit] at hx' hy'
    have p1 := kinds_part (w := w) hk hs hx'
    have p2 := kinds_part (w := w) hk hs hy'
    rw [hlen] at p1 p2
    have e1 := ih _ _ hx'.sub hy'.sub
    rw [hlen] at e1
    rw [List.range'_succ, Op.eqItems]
    simp only [Sem.run_bind, p1, p2, e1, Result.andThen_ok]
    have hrec := eqItems_flat hk hs ih hx hy m (i + 1) (by omega)
    have hlx := hx'.1
    have hly := hy'.1
    simp only [List.length_append, hlen] at hlx hly
    have cut : eqL (xs.drop (i * ke.length)) (ys.drop (i * ke.length)) = (eqL ((xs.drop (i * ke.length)).take ke.length) ((ys.drop (i * ke.length)).take ke.length) && eqL (xs.drop ((i + 1) * ke.length)) (ys.drop ((i + 1) * ke.length))) := by
      rw [← eqL_append _ _ _ _ (by simp; omega)]
      rw [Nat.succ_mul, ← List.drop_drop, ← List.drop_drop, List.take_append_drop, List.take_append_drop]
    rw [cut]
    cases hq : eqL ((xs.drop (i * ke.length)).take ke.length) ((ys.drop (i * ke.length)).take ke.length)
    · simp
    · simpa using hrec

theorem equalIn_flat : ∀ (D : Nat) (t : TypeId) (ks : List (Option IntKind)), flatK P D t = some ks → ∀ d, D ≤ d → ∀ xs ys, KindsOk ks xs → KindsOk ks ys →
    (Op.equalIn d t (valOf (aggT P t) xs) (valOf (aggT P t) ys)).run P w = .ok (eqL xs ys) w
  | 0, _, _, h, _, _, _, _, _, _ => by simp [flatK] at h
  | D + 1, t, ks, h, d, hd, xs, ys, hx, hy => by
    obtain ⟨d, rfl⟩ : ∃ m, d = m + 1 := ⟨d - 1, by omega⟩
    have ih := equalIn_flat D
    unfold flatK at h
    cases hu : P.underlying t with
    | none => simp [hu] at h
    | some dsc =>
      rw [hu] at h
      cases dsc <;> simp only at h <;> first | (cases h; done) | skip
      case bool =>
        split at h
        · simp only [Option.some.injEq] at h
          subst h
          have ha : aggT P t = false := by simp [aggT, hu]
          obtain ⟨x, rfl⟩ : ∃ x, xs = [x] := List.length_eq_one_iff.1 hx.1
          obtain ⟨y, rfl⟩ : ∃ y, ys = [y] := List.length_eq_one_iff.1 hy.1
          have kx := hx.2 0 _ x rfl rfl
          have ky := hy.2 0 _ y rfl rfl
          cases x <;> simp only [kindOk] at kx <;> first | (cases kx; done) | skip
          cases y <;> simp only [kindOk] at ky <;> first | (cases ky; done) | skip
          rw [ha]
          simp only [valOf, cond_false, List.getD_cons_zero]
          rw [run_equalIn_bool' _ _ _ _ _ hu]
          simp [eqL, eqV]
        · cases h
      case int k =>
        split at h
        · simp only [Option.some.injEq] at h
          subst h
          have ha : aggT P t = false := by simp [aggT, hu]
          obtain ⟨x, rfl⟩ : ∃ x, xs = [x] := List.length_eq_one_iff.1 hx.1
          obtain ⟨y, rfl⟩ : ∃ y, ys = [y] := List.length_eq_one_iff.1 hy.1
          have kx := hx.2 0 _ x rfl rfl
          have ky := hy.2 0 _ y rfl rfl
          cases x <;> simp only [kindOk] at kx <;> first | (cases kx; done) | skip
          cases y <;> simp only [kindOk] at ky <;> first | (cases ky; done) | skip
          rw [beq_iff_eq] at kx ky
          subst kx; subst ky
          rw [ha]
          simp only [valOf, cond_false, List.getD_cons_zero]
          rw [run_equalIn_int _ _ _ _ _ _ _ hu]
          simp [eqL, eqV]
        · cases h
      case struct fs =>
        split at h
        · cases h
        · rename_i hst
          have hst : P.stoodInHeld t = false := by simpa using hst
          have ha : aggT P t = true := by simp [aggT, hu]
          have hf : P.fieldsOf t = fs := by simp [Program.fieldsOf, hu]
          rw [ha]
          simp only [valOf, cond_true]
          rw [run_equalIn_struct _ _ _ _ _ (by rw [hf]; exact hu) hst, hf]
          have := (eqFields_flat (P := P) (w := w) (D := D) (d := d) (fun t ks hk xs ys hx hy => ih t ks hk d (by omega) xs ys hx hy) fs.toList [] ks h hx hy).2
          simpa using this
      case array n e =>
        cases hk : flatK P D e with
        | none => rw [hk] at h; cases h
        | some ke =>
          rw [hk] at h
          simp only [Option.bind_some] at h
          split at h
          · rename_i hs
            simp only [Option.some.injEq] at h
            subst h
            have ha : aggT P t = true := by simp [aggT, hu]
            have hi : ∃ i, P.info? e = some i ∧ i.size = ke.length := by
              unfold sizeT at hs
              cases hq : P.info? e with
              | none => simp [hq] at hs
              | some i => simp [hq] at hs; exact ⟨i, rfl, hs⟩
            obtain ⟨i, hq, hsz⟩ := hi
            have hc : P.cellsOf e = ke.length := by simp [Program.cellsOf, hq, hsz]
            rw [ha]
            simp only [valOf, cond_true]
            rw [run_equalIn_array w d xs.toArray ys.toArray hu hq, hc, List.range_eq_range']
            have := eqItems_flat (P := P) (w := w) hk hs (fun xs ys hx hy => ih e ke hk d (by omega) xs ys hx hy) hx hy n 0 (by omega)
            simpa using this
          · cases h

theorem eqCells_rel : ∀ (ks : List (Option IntKind)) (as bs : List Cell) (q : Bool), eqCells ks as bs = some q → ∀ {E : Env} (xs ys : List Value), RelL w E as xs → RelL w E bs ys →
    KindsOk ks xs ∧ KindsOk ks ys ∧ eqL xs ys = q
  | [], [], [], q, h, E, xs, ys, hx, hy => by
    have h1 : xs = [] := List.eq_nil_of_length_eq_zero hx.1.symm
    have h2 : ys = [] := List.eq_nil_of_length_eq_zero hy.1.symm
    subst h1; subst h2
    simp only [eqCells, Option.some.injEq] at h
    exact ⟨⟨rfl, fun j k x hk => by simp at hk⟩, ⟨rfl, fun j k x hk => by simp at hk⟩, by rw [← h]; rfl⟩
  | k :: ks, a :: as, b :: bs, q, h, E, xs, ys, hx, hy => by
    obtain ⟨x, xs, rfl⟩ : ∃ x r, xs = x :: r := by cases xs with | nil => simp [RelL] at hx | cons x r => exact ⟨x, r, rfl⟩
    obtain ⟨y, ys, rfl⟩ : ∃ x r, ys = x :: r := by cases ys with | nil => simp [RelL] at hy | cons x r => exact ⟨x, r, rfl⟩
    have rx := hx.2 0 a x rfl rfl
    have ry := hy.2 0 b y rfl rfl
    have hx' : RelL w E as xs := ⟨by simpa using hx.1, fun j c u h1 h2 => hx.2 (j + 1) c u h1 h2⟩
    have hy' : RelL w E bs ys := ⟨by simpa using hy.1, fun j c u h1 h2 => hy.2 (j + 1) c u h1 h2⟩
    have fin : ∀ q', eqCells ks as bs = some q' → kindOk k x = true → kindOk k y = true → KindsOk (k :: ks) (x :: xs) ∧ KindsOk (k :: ks) (y :: ys) ∧ eqL (x :: xs) (y :: ys) = (eqV x y && q') := by
      intro q' hq kx ky
      obtain ⟨i1, i2, i3⟩ := eqCells_rel ks as bs q' hq xs ys hx' hy'
      refine ⟨⟨by simp [i1.1], fun j k' x' h1 h2 => ?_⟩, ⟨by simp [i2.1], fun j k' x' h1 h2 => ?_⟩, by rw [eqL, i3]⟩
      · cases j with
        | zero => simp at h1 h2; subst h1; subst h2; exact kx
        | succ j => exact i1.2 j k' x' h1 h2
      · cases j with
        | zero => simp at h1 h2; subst h1; subst h2; exact ky
        | succ j => exact i2.2 j k' x' h1 h2
    cases k with
    | some k =>
      cases a with
      | v a => cases b with
        | v b =>
          cases a <;> cases b <;> (try simp only [eqCells] at h) <;> first | (cases h; done) | skip
          split at h
          · rename_i hk
            obtain ⟨rfl, rfl⟩ := hk
            have e1 : x = _ := rel_v (w := w) (E := E) rx
            have e2 : y = _ := rel_v (w := w) (E := E) ry
            subst e1; subst e2
            cases hq : eqCells ks as bs with
            | none => rw [hq] at h; cases h
            | some q' =>
              rw [hq] at h
              simp only [Option.map_some, Option.some.injEq] at h
              subst h
              obtain ⟨f1, f2, f3⟩ := fin q' hq (by simp [kindOk]) (by simp [kindOk])
              exact ⟨f1, f2, f3⟩
          · cases h
        | _ => cases a <;> (simp only [eqCells] at h; cases h)
      | _ => simp only [eqCells] at h; cases h
    | none =>
      cases a with
      | v a => cases b with
        | v b =>
          cases a <;> cases b <;> (try simp only [eqCells] at h) <;> first | (cases h; done) | skip
          have e1 : x = _ := rel_v (w := w) (E := E) rx
          have e2 : y = _ := rel_v (w := w) (E := E) ry
          subst e1; subst e2
          cases hq : eqCells ks as bs with
          | none => rw [hq] at h; cases h
          | some q' =>
            rw [hq] at h
            simp only [Option.map_some, Option.some.injEq] at h
            subst h
            obtain ⟨f1, f2, f3⟩ := fin q' hq (by simp [kindOk]) (by simp [kindOk])
            exact ⟨f1, f2, f3⟩
        | _ => cases a <;> (simp only [eqCells] at h; cases h)
      | _ => simp only [eqCells] at h; cases h
  | [], [], _ :: _, _, h, _, _, _, _, _ => by simp [eqCells] at h
  | [], _ :: _, _, _, h, _, _, _, _, _ => by simp [eqCells] at h
  | _ :: _, [], _, _, h, _, _, _, _, _ => by simp [eqCells] at h
  | k :: _, a :: _, [], _, h, _, _, _, _, _ => by
    cases k <;> cases a <;> simp only [eqCells] at h <;> first | (cases h; done) | (rename_i x; cases x <;> (simp only [eqCells] at h; cases h))

end
end Go.Proofs.YtlfojobligplkaaDoor.Mt

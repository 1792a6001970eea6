import Derived.Test.YtgmciihlmgeecaaSpI
import Derived.Test.YtgmciihlmgeecaaSpN4
/- What is told of the functions of expressions. Definitions alone. -/
namespace Go.Proofs.Ytgmciihlmgeecaa.Fn
open Go Go.RowKit Go.Proofs.Ytgmciihlmgeecaa.Mt Go.Proofs.Ytgmciihlmgeecaa.Zm

/-! ### Expressions, by their cells: kind, number, variable, the row of their kids -/
def rC : Cell → List Cell
  | .sl _ l => l
  | _ => []
def kK (cs : List Cell) : Int := intC (cs.getD 0 .dead)
def kV (cs : List Cell) : Int := intC (cs.getD 1 .dead)
def kX (cs : List Cell) : Int := intC (cs.getD 2 .dead)
def kN (cs : List Cell) : Nat := rN (cs.getD 3 .dead)
def kid (cs : List Cell) (i : Nat) : List Cell := ((rC (cs.getD 3 .dead)).drop (i * 4)).take 4
/-- One of so many levels. -/
def okE : Nat → List Cell → Bool
  | 0, _ => false
  | d + 1, [a, b, c, .sl m ks] => isInt .i64 a && isInt .i64 b && isInt .i64 c && (ks.length == m * 4) && (List.range m).all fun i => okE d ((ks.drop (i * 4)).take 4)
  | _, _ => false
/-- No row is too long. -/
def okB : Nat → List Cell → Bool
  | 0, _ => true
  | d + 1, cs => decide (kN cs * 48 ≤ 140737488355328) && (List.range (kN cs)).all fun i => okB d (kid cs i)
def kL (cs : List Cell) : List Cell := rC (cs.getD 3 .dead)
def four (cs : List Cell) : List Cell := [.v (.int .i64 (kK cs)), .v (.int .i64 (kV cs)), .v (.int .i64 (kX cs)), .sl (kN cs) (kL cs)]

/-! ### A variable's number and so much more -/
def farP (f : (Int × Int) × Bool) : (Int × Int) × Bool := (f.1, f.2 && decide (f.1.2 ≤ 1099511627776) && decide (-1099511627776 ≤ f.1.2))
def pairO (k : Int) (a b : (Int × Int) × Bool) : (Int × Int) × Bool :=
  if a.2 = false ∨ b.2 = false then ((0, 0), false)
  else if b.1.1 ≠ -1 ∧ (k = 5 ∨ a.1.1 ≠ -1) then ((0, 0), false)
  else if k = 5 then ((a.1.1, a.1.2 - b.1.2), true)
  else ((max a.1.1 b.1.1, a.1.2 + b.1.2), true)
def linO (cs : List Cell) (p : (Int × Int) × Bool) : (Int × Int) × Bool :=
  farP (if kK cs = 1 ∧ kN cs = 0 then ((-1, kV cs), true)
  else if kK cs = 2 ∧ kN cs = 0 then ((kX cs, 0), true)
  else if (kK cs = 4 ∨ kK cs = 5) ∧ kN cs = 2 then p else ((-1, 0), false))
def linC : Nat → List Cell → (Int × Int) × Bool
  | 0, _ => ((-1, 0), false)
  | d + 1, cs => linO cs (pairO (kK cs) (linC d (kid cs 0)) (linC d (kid cs 1)))
def pairC : Nat → List Cell → (Int × Int) × Bool
  | 0, _ => ((0, 0), false)
  | d + 1, cs => pairO (kK cs) (linC d (kid cs 0)) (linC d (kid cs 1))
def liRet (f : (Int × Int) × Bool) : Ret := Ret.mk (.tup [.agg [.v (.int .i64 f.1.1), .v (.int .i64 f.1.2)], .one (.v (.bool f.2))]) []
def sum103 (d : Nat) : List CV → Option (Bool × Ret)
  | [e] => some (okE d (cellsA e), liRet (linC d (cellsA e)))
  | _ => none
def sum113 (d : Nat) : List CV → Option (Bool × Ret)
  | [e] => some (okE d (cellsA e) && decide (2 ≤ kN (cellsA e)), liRet (pairC d (cellsA e)))
  | _ => none
def lin3 (f : (Int × Int) × Bool) : (Int × Int) × Bool := if f.2 = true then f else ((0, 0), false)
def l3Ret (f : (Int × Int) × Bool) : Ret := Ret.mk (.tup [.one (.v (.int .i64 f.1.1)), .one (.v (.int .i64 f.1.2)), .one (.v (.bool f.2))]) []
def sum68 (d : Nat) : List CV → Option (Bool × Ret)
  | [e] => some (okE d (cellsA e), l3Ret (lin3 (linC d (cellsA e))))
  | _ => none

/-! ### What expressions may be -/
def eiE (a b : Bool × Bool) : Bool × Bool := (a.1 || b.1, a.2 || b.2)
def erRet (p : Bool × Bool) : Ret := Ret.mk (.agg [.v (.bool p.1), .v (.bool p.2)]) []
def sum105 : List CV → Option (Bool × Ret)
  | [a, b] => some (okEr a && okEr b, erRet (eiE (erC a) (erC b)))
  | _ => none
def twoO (k : Int) (r s : (Int × Int) × Bool × Bool) : (Int × Int) × Bool × Bool :=
  if r.1.1 > r.1.2 then r else ((doP k r.1 s.1).1, eiE (eiE r.2 s.2) (doP k r.1 s.1).2)
def negO (r : (Int × Int) × Bool × Bool) : (Int × Int) × Bool × Bool := ((negP r.1).1, eiE r.2 (negP r.1).2)
def evalO (cs : List Cell) (nn : Bool) (m : Nat) (l : List Int) (a b : (Int × Int) × Bool × Bool) : (Int × Int) × Bool × Bool :=
  if nn = true then ((1, 0), false, false)
  else if kK cs = 1 then (ofP (kV cs) (kV cs), false, false)
  else if kK cs = 2 ∧ 0 ≤ kX cs ∧ kX cs < (m : Int) then ((l.getD ((kX cs).toNat * 2) 0, l.getD ((kX cs).toNat * 2 + 1) 0), false, false)
  else if kK cs = 3 ∧ kN cs = 1 then negO a
  else if (4 ≤ kK cs ∧ kK cs ≤ 8) ∧ kN cs = 2 then twoO (kK cs) a b
  else ((1, 0), false, false)
def evalC : Nat → List Cell → Bool → Nat → List Int → (Int × Int) × Bool × Bool
  | 0, _, _, _, _ => ((1, 0), false, false)
  | d + 1, cs, nn, m, l => evalO cs nn m l (evalC d (kid cs 0) nn m l) (evalC d (kid cs 1) nn m l)
def twoC : Nat → List Cell → Bool → Nat → List Int → (Int × Int) × Bool × Bool
  | 0, _, _, _, _ => ((1, 0), false, false)
  | d + 1, cs, nn, m, l => twoO (kK cs) (evalC d (kid cs 0) nn m l) (evalC d (kid cs 1) nn m l)
def sum75 (d : Nat) : List CV → Option (Bool × Ret)
  | [e, a] => some (okE d (cellsA e) && okNum a, evRet (evalC d (cellsA e) (boolC (cellA a 0)) (rN (cellA a 1)) (rL (cellA a 1))))
  | _ => none
def sum106 (d : Nat) : List CV → Option (Bool × Ret)
  | [e, a] => some (okE d (cellsA e) && okNum a && decide (2 ≤ kN (cellsA e)), evRet (twoC d (cellsA e) (boolC (cellA a 0)) (rN (cellA a 1)) (rL (cellA a 1))))
  | _ => none

/-! ### Behind an assignment, a comparison -/
/-- A Num that is what its zone tells. -/
def okNumR (a : CV) : Bool := okNum a && numOk (boolC (cellA a 0)) (cellA a 1) (uZ a)
def asRet (z : Zo) (p : Bool × Bool) : Ret := Ret.mk (.tup [.agg (.v (.bool z.2.1) :: .sl (capN z.1).toNat (ic .i64 (itvsZ z (capN z.1).toNat)) :: .v (.int .i64 z.1) :: .v (.bool z.2.1) :: ic .i64 z.2.2), .agg [.v (.bool p.1), .v (.bool p.2)]]) []
def asgZ (z : Zo) (m : Nat) (x : Int) (e : (Int × Int) × Bool × Bool) (f : (Int × Int) × Bool) : Zo :=
  if e.1.1 > e.1.2 then noneZ (m : Int)
  else if f.2 = true then heldZ (copyZ z x f.1.1 f.1.2) x e.1.1 e.1.2
  else heldZ (forgetZ z x) x e.1.1 e.1.2
def sum79 (d : Nat) : List CV → Option (Bool × Ret)
  | [a, x, e] => some (okE d (cellsA e) && okNum a && okO (some .i64) x,
      asRet (asgZ (uZ a) (rN (cellA a 1)) (intC (cellA x 0)) (evalC d (cellsA e) (boolC (cellA a 0)) (rN (cellA a 1)) (rL (cellA a 1))) (linC d (cellsA e)))
        (evalC d (cellsA e) (boolC (cellA a 0)) (rN (cellA a 1)) (rL (cellA a 1))).2)
  | _ => none
def inM (a : Int) : Bool := decide (-4398046511104 ≤ a) && decide (a ≤ 4398046511104)
def inMP (p : Int × Int) : Bool := inM p.1 && inM p.2
def sum119 : List CV → Option (Bool × Ret)
  | [i, b] => some (okI i && okO (some .i64) b && inMP (itC i) && inM (intC (cellA b 0)), itRet ((itC i).1 - intC (cellA b 0), (itC i).2 - intC (cellA b 0)))
  | _ => none
def heldF (z : Zo) (f i : Int × Int) : Zo := if f.1 = -1 then z else heldZ z f.1 (i.1 - f.2) (i.2 - f.2)
def sum109 : List CV → Option (Bool × Ret)
  | [a, f, i] => some (okNumR a && okI f && okI i && inM (itC f).2 && inMP (itC i), numRe (heldF (uZ a) (itC f) (itC i)))
  | _ => none
def belowF (z : Zo) (f g : Int × Int) (s : Int) : Zo := if f.1 = g.1 then z else boundZ z f.1 g.1 (g.2 - f.2 - s)
def sum120 : List CV → Option (Bool × Ret)
  | [a, f, g, s] => some (okNumR a && okI f && okI g && okO (some .i64) s && inM (itC f).2 && inM (itC g).2 && inM (intC (cellA s 0)), numRe (belowF (uZ a) (itC f) (itC g) (intC (cellA s 0))))
  | _ => none
def compF (z : Zo) (k : Int) (f g : Int × Int) : Zo :=
  if k = 1 then belowF (belowF z f g 0) g f 0
  else if k = 3 then belowF z f g 1
  else if k = 4 then belowF z f g 0
  else if k = 5 then belowF z g f 1
  else if k = 6 then belowF z g f 0
  else z
def sum110 : List CV → Option (Bool × Ret)
  | [a, k, f, g] => some (okNumR a && okO (some .i64) k && okI f && okI g && inM (itC f).2 && inM (itC g).2, numRe (compF (uZ a) (intC (cellA k 0)) (itC f) (itC g)))
  | _ => none
def cL (v : CV) : List Cell := ((cellsA v).drop 1).take 4
def cR (v : CV) : List Cell := ((cellsA v).drop 5).take 4
def okCond (d : Nat) (v : CV) : Bool := okO (some .i64) (.one (cellA v 0)) && okE d (cL v) && okE d (cR v) && ((cellsA v).length == 9)
/-- Both sides' Itvs, and errors. -/
def sideO (i j : (Int × Int) × Bool × Bool) : (Int × Int) × (Int × Int) × Bool × Bool :=
  if i.1.1 > i.1.2 then (i.1, (1, 0), i.2) else (i.1, j.1, eiE i.2 j.2)
def siRet (s : (Int × Int) × (Int × Int) × Bool × Bool) : Ret := Ret.mk (.tup [.agg [.v (.int .i64 s.1.1), .v (.int .i64 s.1.2)], .agg [.v (.int .i64 s.2.1.1), .v (.int .i64 s.2.1.2)], .agg [.v (.bool s.2.2.1), .v (.bool s.2.2.2)]]) []
def sideC (d : Nat) (a c : CV) : (Int × Int) × (Int × Int) × Bool × Bool :=
  sideO (evalC d (cL c) (boolC (cellA a 0)) (rN (cellA a 1)) (rL (cellA a 1))) (evalC d (cR c) (boolC (cellA a 0)) (rN (cellA a 1)) (rL (cellA a 1)))
def sum107 (d : Nat) : List CV → Option (Bool × Ret)
  | [a, c] => some (okNum a && okCond d c, siRet (sideC d a c))
  | _ => none
def assZ (z : Zo) (m : Nat) (k : Int) (t : (Int × Int) × Int × Int) (f g : (Int × Int) × Bool) : Zo :=
  if t.1.1 > t.1.2 ∨ t.2.1 > t.2.2 then noneZ (m : Int)
  else
    let z1 := if f.2 = true then heldF z f.1 t.1 else z
    let z2 := if g.2 = true then heldF z1 g.1 t.2 else z1
    if f.2 = true ∧ g.2 = true then compF z2 k f.1 g.1 else z2
def sum76 (d : Nat) : List CV → Option (Bool × Ret)
  | [a, c] => some (okNumR a && okCond d c,
      asRet (assZ (uZ a) (rN (cellA a 1)) (intC (cellA c 0)) (testP (intC (cellA c 0)) (sideC d a c).1 (sideC d a c).2.1) (linC d (cL c)) (linC d (cR c))) (sideC d a c).2.2)
  | _ => none

end Go.Proofs.Ytgmciihlmgeecaa.Fn

import Derived.Test.YtgmciihlmgeecaaSpE
/- What is told of the law's functions of expressions, and of the reference's. Definitions alone. -/
namespace Go.Proofs.Ytgmciihlmgeecaa.Fn
open Go Go.RowKit Go.Proofs.Ytgmciihlmgeecaa.Mt Go.Proofs.Ytgmciihlmgeecaa.Zm

def iv (x : Int) : Cell := .v (.int .i64 x)
def leafC (k n x : Int) : List Cell := [iv k, iv n, iv x, .sl 0 []]
/-- One that can be. -/
def tameO (cs : List Cell) (deep vars : Int) (a b : List Cell) : List Cell :=
  if (4 ≤ kK cs ∧ kK cs ≤ 8) ∧ kN cs = 2 ∧ deep > 0 then [iv (kK cs), iv 0, iv 0, .sl 2 (a ++ b)]
  else if kK cs = 3 ∧ kN cs = 1 ∧ deep > 0 then [iv 3, iv 0, iv 0, .sl 1 a]
  else if kK cs = 2 then leafC 2 0 (IntKind.i64.wrap ((IntKind.u64.wrap (kX cs)).tmod (IntKind.u64.wrap vars)))
  else leafC 1 (IntKind.i64.wrap ((IntKind.u64.wrap (kV cs)).tmod 2147483648)) 0
def tameC : Nat → Int → Int → List Cell → List Cell
  | 0, _, _, _ => leafC 1 0 0
  | d + 1, deep, vars, cs => tameO cs deep vars (tameC d (deep - 1) vars (kid cs 0)) (tameC d (deep - 1) vars (kid cs 1))
def sum67 (d : Nat) : List CV → Option (Bool × Ret)
  | [e, deep, vars] => some (okE d (cellsA e) && okO (some .i64) deep && okO (some .i64) vars && inB (intC (cellA deep 0)) && inB (intC (cellA vars 0)) && decide (0 < intC (cellA vars 0)),
      Ret.mk (.agg (four (tameC d (intC (cellA deep 0)) (intC (cellA vars 0)) (cellsA e)))) [])
  | _ => none
def sum69 (d : Nat) : List CV → Option (Bool × Ret)
  | [e] => some (okE d (cellsA e) && okB d (cellsA e), Ret.mk (.agg (four (cellsA e))) [])
  | _ => none

/-- The reference's: a variable's number and so much more. -/
def refP (k : Int) (x y : (Int × Int) × Bool) : (Int × Int) × Bool :=
  if x.2 = false ∨ y.2 = false ∨ (x.1.1 ≥ 0 ∧ y.1.1 ≥ 0) ∨ (k = 5 ∧ y.1.1 ≥ 0) then ((0, 0), false)
  else ((max x.1.1 y.1.1, if k = 5 then x.1.2 - y.1.2 else x.1.2 + y.1.2), true)
def finR (f : (Int × Int) × Bool) : (Int × Int) × Bool := if f.2 = false ∨ f.1.2 > 1099511627776 ∨ f.1.2 < -1099511627776 then ((0, 0), false) else f
def refO (cs : List Cell) (x y : (Int × Int) × Bool) : (Int × Int) × Bool :=
  finR (if kK cs = 1 ∧ kN cs = 0 then ((-1, kV cs), true)
  else if kK cs = 2 ∧ kN cs = 0 then ((kX cs, 0), true)
  else if (kK cs = 4 ∨ kK cs = 5) ∧ kN cs = 2 then refP (kK cs) x y else ((-1, 0), false))
def refC : Nat → List Cell → (Int × Int) × Bool
  | 0, _ => ((0, 0), false)
  | d + 1, cs => refO cs (refC d (kid cs 0)) (refC d (kid cs 1))
def sum70 (d : Nat) : List CV → Option (Bool × Ret)
  | [e] => some (okE d (cellsA e), l3Ret (refC d (cellsA e)))
  | _ => none

/-- The reference's: a number, or an error's kind. -/
def numR (cs : List Cell) (x y : Int) (m : Nat) (l : List Int) : Int :=
  if kK cs = 1 then kV cs
  else if kK cs = 2 then (if 0 ≤ kX cs ∧ kX cs < (m : Int) then l.getD (kX cs).toNat 0 else 0)
  else if kK cs = 3 then 0 - x
  else if kK cs = 4 then x + y
  else if kK cs = 5 then x - y
  else if kK cs = 6 then x * y
  else if kK cs = 7 then x.tdiv y
  else if kK cs = 8 then x.tmod y
  else 0
def opR (cs : List Cell) (x y : Int) (m : Nat) (l : List Int) : Int × Int :=
  if (kK cs = 7 ∨ kK cs = 8) ∧ y = 0 then (0, 3)
  else if numR cs x y m l < -2147483648 ∨ numR cs x y m l > 2147483647 then (0, 2)
  else (numR cs x y m l, 0)
def evRO (cs : List Cell) (m : Nat) (l : List Int) (a b : Int × Int) : Int × Int :=
  if 1 ≤ kN cs ∧ a.2 ≠ 0 then (0, a.2)
  else if 2 ≤ kN cs ∧ b.2 ≠ 0 then (0, b.2)
  else opR cs (if 1 ≤ kN cs then a.1 else 0) (if 2 ≤ kN cs then b.1 else 0) m l
def evRC : Nat → List Cell → Nat → List Int → Int × Int
  | 0, _, _, _ => (0, 0)
  | d + 1, cs, m, l => evRO cs m l (evRC d (kid cs 0) m l) (evRC d (kid cs 1) m l)
def sum78 (d : Nat) : List CV → Option (Bool × Ret)
  | [e, v] => some (okE d (cellsA e) && okRU 1 v, coRet (evRC d (cellsA e) (rN (cellA v 0)) (rL (cellA v 0))))
  | _ => none
/-- Does a comparison hold, or an error's kind. -/
def cmpP (k x y : Int) : Bool :=
  if k = 1 then decide (x = y) else if k = 2 then decide (x ≠ y) else if k = 3 then decide (x < y) else if k = 4 then decide (x ≤ y) else if k = 5 then decide (x > y) else if k = 6 then decide (x ≥ y) else false
def hoO (k : Int) (a b : Int × Int) : Bool × Int := if a.2 ≠ 0 then (false, a.2) else if b.2 ≠ 0 then (false, b.2) else (cmpP k a.1 b.1, 0)
def hoRet (p : Bool × Int) : Ret := Ret.mk (.tup [.one (.v (.bool p.1)), .one (.v (.int .i64 p.2))]) []
def sum82 (d : Nat) : List CV → Option (Bool × Ret)
  | [c, v] => some (okCond d c && okRU 1 v, hoRet (hoO (intC (cellA c 0)) (evRC d (cL c) (rN (cellA v 0)) (rL (cellA v 0))) (evRC d (cR c) (rN (cellA v 0)) (rL (cellA v 0)))))
  | _ => none
/-- What has one row of numbers alone. -/
def rowGo (l : List Int) (z : Zo) : Nat → Zo
  | 0 => z
  | t + 1 => heldZ (forgetZ (rowGo l z t) t) t (ofP (l.getD t 0) (l.getD t 0)).1 (ofP (l.getD t 0) (l.getD t 0)).2
def rowZ (l : List Int) (n : Nat) : Zo := rowGo l (zerosZ n) n
def sum80 : List CV → Option (Bool × Ret)
  | [v] => some (okRU 1 v && decide (rN (cellA v 0) ≤ 6), numRe (rowZ (rL (cellA v 0)) (rN (cellA v 0))))
  | _ => none

def hints71 : Hints := { hintsN with fz := [9] }
def hints20 : Hints := { hintsN with fz := [24, 28, 39, 49] }
def sum71 : List CV → Option (Bool × Ret)
  | [] => some (true, boRet true)
  | _ => none

/-- What has both rows; the one that is looked at, as the call's own row. -/
def rowA (r : CV) : List Int := [intC (cellA r 0), intC (cellA r 1), intC (cellA r 2)]
def rowB (r : CV) : List Int := [intC (cellA r 3), intC (cellA r 4), intC (cellA r 5)]
def rowV (r : CV) : List Int := if boolC (cellA r 6) = true then rowB r else rowA r
def okRows (r : CV) : Bool := okA [some .i32, some .i32, some .i32, some .i32, some .i32, some .i32, none] r && (inB (intC (cellA r 0)) && inB (intC (cellA r 1)) && inB (intC (cellA r 2)) && inB (intC (cellA r 3)) && inB (intC (cellA r 4)) && inB (intC (cellA r 5)))
def twoZ (a b : List Int) : Zo := joinZ (rowZ a 3) (rowZ b 3)
def numC (z : Zo) : List Cell := .v (.bool z.2.1) :: .sl (capN z.1).toNat (ic .i64 (itvsZ z (capN z.1).toNat)) :: .v (.int .i64 z.1) :: .v (.bool z.2.1) :: ic .i64 z.2.2
def sum77o : List CV → Option (Bool × Ret)
  | [r] => some (okRows r, Ret.mk (.tup [.agg (numC (twoZ (rowA r) (rowB r))), .one (.own 0 0)]) [⟨3, 1, 3, ic .i64 (rowV r), true⟩])
  | _ => none
def sum77 : List CV → Option (Bool × Ret)
  | [r] => some (okRows r, Ret.mk (.tup [.agg (numC (twoZ (rowA r) (rowB r))), .one (.sl 3 (ic .i64 (rowV r)))]) [])
  | _ => none

end Go.Proofs.Ytgmciihlmgeecaa.Fn

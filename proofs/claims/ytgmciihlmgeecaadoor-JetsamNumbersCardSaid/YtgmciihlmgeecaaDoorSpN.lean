import Derived.Test.YtgmciihlmgeecaaDoorSpZ2
import Derived.Test.YtgmciihlmgeecaaDoorMtFz
/- What is told of the functions of Nums. Definitions alone. -/
namespace Go.Proofs.YtgmciihlmgeecaaDoor.Fn
open Go Go.RowKit Go.Proofs.YtgmciihlmgeecaaDoor.Mt Go.Proofs.YtgmciihlmgeecaaDoor.Zm

def hintsN : Hints := { ow := [27, 14, 23], pt := [], pc := [31, 39] }
/-- A zone's variables' Itvs, one behind the other. -/
def itvsZ (z : Zo) : Nat → List Int
  | 0 => []
  | t + 1 => itvsZ z t ++ [(itvZ z t).1, (itvZ z t).2]
/-- What a zone tells, as it is handed back. -/
def numRe (z : Zo) : Ret := Ret.mk (.agg (.v (.bool z.2.1) :: .sl (capN z.1).toNat (ic .i64 (itvsZ z (capN z.1).toNat)) :: .v (.int .i64 z.1) :: .v (.bool z.2.1) :: ic .i64 z.2.2)) []
def okSl (s : Nat) : Cell → Bool
  | .sl n cs => cs.all (isInt .i64) && (cs.length == n * s)
  | _ => false
def okS (s : Nat) : CV → Bool
  | .one c => okSl s c
  | _ => false
def okNum : CV → Bool
  | .agg (a :: r :: n :: b :: ds) => okK none a && okSl 2 r && isInt .i64 n && okK none b && (ds.all (isInt .i64) && (ds.length == 49))
  | _ => false
def uZ (v : CV) : Zo := (intC (cellA v 2), boolC (cellA v 3), ((cellsA v).drop 4).map intC)
def noneZ (n : Int) : Zo := (capN n, true, zeroL)
def heldZ (z : Zo) (x lo hi : Int) : Zo := if x < 0 ∨ z.1 ≤ x then z else if lo > hi then noneZ z.1 else boundZ (boundZ z x (-1) hi) (-1) x (wrap64 (-lo))

def sum93 : List CV → Option (Bool × Ret)
  | [z] => some (okZ z, numRe (zO z))
  | _ => none
def sum57 : List CV → Option (Bool × Ret)
  | [n] => some (okO (some .i64) n, numRe (noneZ (intC (cellA n 0))))
  | _ => none
def sum94 : List CV → Option (Bool × Ret)
  | [z, x, i] => some (okZ z && okO (some .i64) x && okA [some .i64, some .i64] i, zRe (heldZ (zO z) (intC (cellA x 0)) (intC (cellA i 0)) (intC (cellA i 1))))
  | _ => none
def sum51 : List CV → Option (Bool × Ret)
  | [n] => some (okO (some .i64) n, numRe (topZ (intC (cellA n 0))))
  | _ => none
def sum41 : List CV → Option (Bool × Ret)
  | [a, x, i] => some (okNum a && okO (some .i64) x && okA [some .i64, some .i64] i, numRe (heldZ (forgetZ (uZ a) (intC (cellA x 0))) (intC (cellA x 0)) (intC (cellA i 0)) (intC (cellA i 1))))
  | _ => none
def sum52 : List CV → Option (Bool × Ret)
  | [a, x, i] => some (okNum a && okO (some .i64) x && okA [some .i64, some .i64] i, numRe (heldZ (uZ a) (intC (cellA x 0)) (intC (cellA i 0)) (intC (cellA i 1))))
  | _ => none
def sum59 : List CV → Option (Bool × Ret)
  | [a, x, y, b] => some (okNum a && okO (some .i64) x && okO (some .i64) y && okO (some .i64) b, numRe (copyZ (uZ a) (intC (cellA x 0)) (intC (cellA y 0)) (intC (cellA b 0))))
  | _ => none
def sum54 : List CV → Option (Bool × Ret)
  | [a, b] => some (okNum a && okNum b, boRet (withinZ (uZ a) (uZ b)))
  | _ => none
def sum60 : List CV → Option (Bool × Ret)
  | [a, v] => some (okNum a && okRU 1 v, boRet (!boolC (cellA a 0) && hasZ (uZ a) (rN (cellA v 0)) (rL (cellA v 0))))
  | _ => none
/-- Rows of as many numbers, the same. -/
def eqRow (a b : Cell) : Bool := decide (rN a = rN b) && decide (rL a = rL b)
def sum95 : List CV → Option (Bool × Ret)
  | [a, b] => some (okS 2 a && okS 2 b && decide (rN (cellA b 0) ≤ 6), boRet (eqRow (cellA a 0) (cellA b 0)))
  | _ => none
def rightN (b : Bool) (r : Cell) (z : Zo) : Bool := rightZ z && (b == z.2.1) && eqRow r (.sl (capN z.1).toNat (ic .i64 (itvsZ z (capN z.1).toNat)))
def sum45 : List CV → Option (Bool × Ret)
  | [a] => some (okNum a, boRet (rightN (boolC (cellA a 0)) (cellA a 1) (uZ a)))
  | _ => none

end Go.Proofs.YtgmciihlmgeecaaDoor.Fn

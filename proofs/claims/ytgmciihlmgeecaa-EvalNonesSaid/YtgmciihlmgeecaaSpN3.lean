import Derived.Test.YtgmciihlmgeecaaSpN2
/- What is told of the law's functions of Nums. Definitions alone. -/
namespace Go.Proofs.Ytgmciihlmgeecaa.Fn
open Go Go.RowKit Go.Proofs.Ytgmciihlmgeecaa.Mt Go.Proofs.Ytgmciihlmgeecaa.Zm

/-- Nought of each, by the reference. -/
def zeroGo : Nat → Zo → Zo
  | 0, z => z
  | t + 1, z => meetR (zeroGo t z) t 0 0
def zeroN (n : Int) : Zo := zeroGo n.toNat (topR n)
def sum72 : List CV → Option (Bool × Ret)
  | [n] => some (okO (some .i64) n && okN (intC (cellA n 0)), zRe (zeroN (intC (cellA n 0))))
  | _ => none
/-- A Num is what its zone tells. -/
def numOk (c : Bool) (r : Cell) (z : Zo) : Bool := (c == z.2.1) && eqRow r (.sl (capN z.1).toNat (ic .i64 (itvsZ z (capN z.1).toNat)))
def sum56 : List CV → Option (Bool × Ret)
  | [a, w] => some (okNum a && okZ w && sameZ (uZ a) (zO w) && goodZ (zO w) && numOk (boolC (cellA a 0)) (cellA a 1) (zO w), boRet true)
  | _ => none

def stepN (z : Zo) (k x y b lo hi : Int) : Zo :=
  if actW k = 0 then heldZ (forgetZ z (actX z.1 x)) (actX z.1 x) (normP (bI lo) (bI hi)).1 (normP (bI lo) (bI hi)).2
  else if actW k = 1 ∨ actW k = 2 then heldZ z (actX z.1 x) (normP (bI lo) (bI hi)).1 (normP (bI lo) (bI hi)).2
  else if actW k = 3 then copyZ z (actX z.1 x) (actY z.1 y) (actB b)
  else if actW k = 4 ∧ actX z.1 x ≠ actY z.1 y then boundZ z (actX z.1 x) (actY z.1 y) (actB b) else z
def rowsN (z : Zo) (l : List Int) : Nat → Zo
  | 0 => z
  | t + 1 => stepN (rowsN z l t) (l.getD (t * 6) 0) (l.getD (t * 6 + 1) 0) (l.getD (t * 6 + 2) 0) (l.getD (t * 6 + 3) 0) (l.getD (t * 6 + 4) 0) (l.getD (t * 6 + 5) 0)
def applyN (z : Zo) (m : Nat) (l : List Int) : Zo := if z.1 = 0 then z else rowsN z l (min m 16)
/-- Rows of calls: the Num, the reference's zone, and that they are alike. -/
def appRetN (z : Zo) : Ret := Ret.mk (.tup [.agg (.v (.bool z.2.1) :: .sl (capN z.1).toNat (ic .i64 (itvsZ z (capN z.1).toNat)) :: .v (.int .i64 z.1) :: .v (.bool z.2.1) :: ic .i64 z.2.2), .agg (.v (.int .i64 z.1) :: .v (.bool z.2.1) :: ic .i64 z.2.2), .one (.v (.bool true))]) []
def sum58 : List CV → Option (Bool × Ret)
  | [a, w, r] => some (okNum a && okZ w && sameZ (uZ a) (zO w) && goodZ (zO w) && numOk (boolC (cellA a 0)) (cellA a 1) (zO w) && okRU 6 r, appRetN (applyN (zO w) (rN (cellA r 0)) (rL (cellA r 0))))
  | _ => none

end Go.Proofs.Ytgmciihlmgeecaa.Fn

import Derived.Test.YtgmciihlmgeecaaSpN
/- What is told of the reference's functions of Nums. Definitions alone. -/
namespace Go.Proofs.Ytgmciihlmgeecaa.Fn
open Go Go.RowKit Go.Proofs.Ytgmciihlmgeecaa.Mt Go.Proofs.Ytgmciihlmgeecaa.Zm

def bI (a : Int) : Int := IntKind.i64.wrap (IntKind.i32.wrap a)
def sum40 : List CV → Option (Bool × Ret)
  | [v] => some (okA [some .i64, some .i64] v, itRet (bI (intC (cellA v 0)), bI (intC (cellA v 1))))
  | _ => none
def sum39 : List CV → Option (Bool × Ret)
  | [v] => some (okA [some .i64, some .i64] v, itRet (normP (intC (cellA v 0)) (intC (cellA v 1))))
  | _ => none
def sum43 : List CV → Option (Bool × Ret)
  | [] => some (true, boRet true)
  | _ => none
def itvR (z : Zo) (x : Int) : Int × Int := if z.2.1 then (1, 0) else (wrap64 (- g z.2.2 0 (x + 1).toNat), g z.2.2 (x + 1).toNat 0)
def sum98 : List CV → Option (Bool × Ret)
  | [z, x] => some (okZ z && okO (some .i64) x && decide (0 ≤ intC (cellA x 0)) && decide (intC (cellA x 0) ≤ 5), itRet (itvR (zO z) (intC (cellA x 0))))
  | _ => none
def meetR (z : Zo) (x lo hi : Int) : Zo := if z.2.1 || decide (lo > hi) then (z.1, true, zeroL) else boundR (boundR z x (-1) hi) (-1) x (wrap64 (-lo))
def sum55 : List CV → Option (Bool × Ret)
  | [z, x, i] => some (okZ z && okN (zN z) && okO (some .i64) x && in16 (intC (cellA x 0)) && okA [some .i64, some .i64] i, zRe (meetR (zO z) (intC (cellA x 0)) (intC (cellA i 0)) (intC (cellA i 1))))
  | _ => none
def sum99 : List CV → Option (Bool × Ret)
  | [z, x, i] => some (okZ z && okN (zN z) && okO (some .i64) x && in16 (intC (cellA x 0)) && okA [some .i64, some .i64] i, zRe (meetR (forgetR (zO z) (intC (cellA x 0))) (intC (cellA x 0)) (intC (cellA i 0)) (intC (cellA i 1))))
  | _ => none

end Go.Proofs.Ytgmciihlmgeecaa.Fn

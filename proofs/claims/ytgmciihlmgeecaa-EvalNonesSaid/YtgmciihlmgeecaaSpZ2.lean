import Derived.Test.YtgmciihlmgeecaaSpZ
import Derived.Test.YtgmciihlmgeecaaZActs
/- What is told of the functions of the laws of zones. Definitions alone. -/
namespace Go.Proofs.Ytgmciihlmgeecaa.Fn
open Go Go.RowKit Go.Proofs.Ytgmciihlmgeecaa.Mt Go.Proofs.Ytgmciihlmgeecaa.Zm

def sum28 : List CV → Option (Bool × Ret)
  | [] => some (true, boRet true)
  | _ => none
def sum46 : List CV → Option (Bool × Ret)
  | [z, a] => some (okZ z && okA [some .i64, some .i64, some .i64, some .i64] a, zRe (boundA (zO z) (intC (cellA a 1)) (intC (cellA a 2)) (intC (cellA a 3))))
  | _ => none
def sum66 : List CV → Option (Bool × Ret)
  | [n] => some (okO (some .i64) n && okN (intC (cellA n 0)), zRe (zerosR (intC (cellA n 0))))
  | _ => none
/-- The law's rows of calls: both zones are the same and right. -/
def appRet (z : Zo) : Ret := Ret.mk (.tup [.agg (.v (.int .i64 z.1) :: .v (.bool z.2.1) :: ic .i64 z.2.2), .agg (.v (.int .i64 z.1) :: .v (.bool z.2.1) :: ic .i64 z.2.2), .one (.v (.bool true))]) []
def sum35 : List CV → Option (Bool × Ret)
  | [z, w, r] => some (okZ z && okZ w && sameZ (zO z) (zO w) && goodZ (zO z) && okRU 4 r, appRet (applyZ (zO z) (rN (cellA r 0)) (rL (cellA r 0))))
  | _ => none

end Go.Proofs.Ytgmciihlmgeecaa.Fn

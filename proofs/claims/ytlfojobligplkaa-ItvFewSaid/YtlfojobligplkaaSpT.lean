import Derived.Test.YtlfojobligplkaaPuConsts
/- What is told of the law's look at edges. Definitions alone. -/
namespace Go.Proofs.Ytlfojobligplkaa.Fn
open Go Go.Proofs.Ytlfojobligplkaa.Mt

def inB (a : Int) : Bool := decide (-2147483648 ≤ a) && decide (a ≤ 2147483647)
def edgesP (k a b c d x y : Int) : Bool := decide (1 ≤ k) && decide (k ≤ 6) && inB a && inB b && inB c && inB d && decide (a ≤ b) && decide (c ≤ d) && (x == (testP k a b c d).1.1) && (y == (testP k a b c d).1.2)
def sum54 : List CV → Option (Bool × Ret)
  | [v0, v1, v2, v3] => some (okO (some .i64) v0 && okA [some .i64, some .i64] v1 && okA [some .i64, some .i64] v2 && okA [some .i64, some .i64] v3 &&
      edgesP (intC (cellA v0 0)) (intC (cellA v1 0)) (intC (cellA v1 1)) (intC (cellA v2 0)) (intC (cellA v2 1)) (intC (cellA v3 0)) (intC (cellA v3 1)), Ret.mk (.one (.v (.bool true))) [])
  | _ => none

end Go.Proofs.Ytlfojobligplkaa.Fn

import Derived.Test.YtgmciihlmgeecaaDoorSpZ
import Derived.Test.YtgmciihlmgeecaaDoorZActs
/- What is told of the functions of the laws of zones. Definitions alone. -/
namespace Go.Proofs.YtgmciihlmgeecaaDoor.Fn
open Go Go.RowKit Go.Proofs.YtgmciihlmgeecaaDoor.Mt Go.Proofs.YtgmciihlmgeecaaDoor.Zm

/-- The law's rows of calls: both zones are the same and right. -/
def appRet (z : Zo) : Ret := Ret.mk (.tup [.agg (.v (.int .i64 z.1) :: .v (.bool z.2.1) :: ic .i64 z.2.2), .agg (.v (.int .i64 z.1) :: .v (.bool z.2.1) :: ic .i64 z.2.2), .one (.v (.bool true))]) []
end Go.Proofs.YtgmciihlmgeecaaDoor.Fn

import Derived.Test.YtgmciihlmgeecaaProg
import Derived.Test.YtgmciihlmgeecaaMtRow
/- The program's functions, each by what the evaluator finds: what all of them need. No conditions. -/
namespace Go.Proofs.Ytgmciihlmgeecaa.Fn
open Go Go.RowKit Go.Proofs.Ytgmciihlmgeecaa.Mt

theorem mixed : Try.prog.follows .mixedOrders = true := by kernel_rfl
def hints : Hints := { ow := [38, 41, 45, 50, 52, 54, 56, 58, 59, 60, 68, 69, 70, 73, 74, 75, 76, 78, 79, 82, 95, 103, 106, 107, 109, 110, 113, 120], pt := [41, 42, 50, 51, 52, 57, 58, 59, 73, 74, 76, 77, 79, 80, 93, 109, 110, 120], pc := [87, 111] }
def ctx0 : CtxQ := {}
theorem ctx0_ok : CtxOk Try.prog ctx0.ctx := ctx_nil

end Go.Proofs.Ytgmciihlmgeecaa.Fn

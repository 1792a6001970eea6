import Derived.Test.YtlfojobligplkaaProg
import Derived.Test.YtlfojobligplkaaMtRow
/- The program's functions, each by what the evaluator finds: what all of them need. No conditions. -/
namespace Go.Proofs.Ytlfojobligplkaa.Fn
open Go Go.RowKit Go.Proofs.Ytlfojobligplkaa.Mt

theorem mixed : Try.prog.follows .mixedOrders = true := by kernel_rfl
def hints : Hints := { ow := [16, 18, 20, 22, 23, 36, 37, 38, 46, 47, 48, 58, 59, 66, 67, 72], pt := [16, 18, 19, 20, 35, 36, 37, 47, 48, 57, 58, 59, 66, 67, 72] }
def ctx0 : CtxQ := {}
theorem ctx0_ok : CtxOk Try.prog ctx0.ctx := ctx_nil

end Go.Proofs.Ytlfojobligplkaa.Fn

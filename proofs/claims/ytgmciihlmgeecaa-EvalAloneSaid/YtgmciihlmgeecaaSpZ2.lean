import Derived.Test.YtgmciihlmgeecaaSpZ
import Derived.Test.YtgmciihlmgeecaaZActs
/- What is told of the functions of the laws of zones. Definitions alone. -/
namespace Go.Proofs.Ytgmciihlmgeecaa.Fn
open Go Go.RowKit Go.Proofs.Ytgmciihlmgeecaa.Mt Go.Proofs.Ytgmciihlmgeecaa.Zm

end Go.Proofs.Ytgmciihlmgeecaa.Fn

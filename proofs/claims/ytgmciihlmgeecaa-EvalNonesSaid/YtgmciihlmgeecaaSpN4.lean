import Derived.Test.YtgmciihlmgeecaaSpN3
/- Hints for laws with literal rows. Definitions alone. -/
namespace Go.Proofs.Ytgmciihlmgeecaa.Fn
open Go Go.RowKit Go.Proofs.Ytgmciihlmgeecaa.Mt Go.Proofs.Ytgmciihlmgeecaa.Zm

def hints19 : Hints := { hintsN with fz := [40, 54] }

end Go.Proofs.Ytgmciihlmgeecaa.Fn

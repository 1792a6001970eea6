import Derived.Test.YtlfojobligplkaaSpQ
import Derived.Test.YtlfojobligplkaaFnBase
/- What the text doesn't tell of two laws: their slices are of rows that they are handed. Definitions alone. -/
namespace Go.Proofs.Ytlfojobligplkaa.Fn
open Go Go.Proofs.Ytlfojobligplkaa.Mt
def hintsP : Hints := { hints with sp := List.range 400 }
end Go.Proofs.Ytlfojobligplkaa.Fn

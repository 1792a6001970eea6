/-
  No cell of these rows narrows 'for every input' (looked for: loops, veiled, ifaces, maps, wideKeys, modest, calm, conditions, laid).
  DERIVED. THE GIVEN ROWS OF THIS SEAT. 13 by the template 'for every input the law returns true; each argument reads behind the call as it read before'; 0 by the template 'total and deterministic' (their statements: YtlfojobligplkaaTotals.lean).
  GIVEN WITH THE SEED: the statements are not yours to turn. If you find one false, say at which input.
  Laid BY PROGRAM, IN A SANDBOX (cutbox-rows.mjs): the forced cells as the released guide's own fill.sh prints them over the translation d3b8907e732ba0c2… (all of the seat's roots in one cut). By AI agents, Wed Nov 11 2026. No macro, syntax, notation, axiom, sorry.
-/
import Derived.Test.YtlfojobligplkaaChecked
import GoSem.Claim
import GoSem.ClaimJoined
import GoSem.ClaimMapViews
import Derived.JoinedTies
import Derived.KernelRfl
namespace Go.Proofs.Ytlfojobligplkaa
/- THE CELL 'sum', in the pinned program and in every row, IS THE sha256 OF THE DUMP (.gsa) THAT YtlfojobligplkaaProg.lean LOADS. Nothing in Lean hashes anything: it is a label: what it is worth is what the hold of that sum in a sandbox is worth. -/
noncomputable def Try.pinned : Pinned := { name := "ytlfojobligplkaa", sum := "d3b8907e732ba0c22ebf3cda9bd7f2daba261b1e8f681666c553f54edb7120b8", checked := Try.checked }
namespace Rows
def none {H : Type} : Left H := { results := [], args := [] }

/-- 'jetsamlaw11.QueueSends': WHATEVER THE INPUT: true; the input reads as it did. -/
def queueSendsSpec : ChangeSpec := { name := "queueSends", fn := fun _ => fun
  | [d1, d2, d3] => { results := [.lit (.bool true)], args := [d1, d2, d3] }
  | _ => none }
def queueSendsRow : OpenClaim := { program := "ytlfojobligplkaa", sum := "d3b8907e732ba0c22ebf3cda9bd7f2daba261b1e8f681666c553f54edb7120b8", func := "jetsam/jetsamlaw11.QueueSends", spec := "queueSends", apart := false }
def QueueSendsSaid : Prop := queueSendsRow.holds Try.pinned (OpenSpec.ofChange queueSendsSpec)

/-- ITS FALSE NEIGHBOUR: 'it returns false'. Refute it at one input. -/
def queueSendsWrong : ChangeSpec := { name := "queueSends", fn := fun _ => fun
  | [d1, d2, d3] => { results := [.lit (.bool false)], args := [d1, d2, d3] }
  | _ => none }
def QueueSendsWrongFalsely : Prop := queueSendsRow.holds Try.pinned (OpenSpec.ofChange queueSendsWrong)

/-- 'jetsamlaw11.QueueHas': WHATEVER THE INPUT: true; the input reads as it did. -/
def queueHasSpec : ChangeSpec := { name := "queueHas", fn := fun _ => fun
  | [d1, d2] => { results := [.lit (.bool true)], args := [d1, d2] }
  | _ => none }
def queueHasRow : OpenClaim := { program := "ytlfojobligplkaa", sum := "d3b8907e732ba0c22ebf3cda9bd7f2daba261b1e8f681666c553f54edb7120b8", func := "jetsam/jetsamlaw11.QueueHas", spec := "queueHas", apart := false }
def QueueHasSaid : Prop := queueHasRow.holds Try.pinned (OpenSpec.ofChange queueHasSpec)

/-- ITS FALSE NEIGHBOUR: 'it returns false'. Refute it at one input. -/
def queueHasWrong : ChangeSpec := { name := "queueHas", fn := fun _ => fun
  | [d1, d2] => { results := [.lit (.bool false)], args := [d1, d2] }
  | _ => none }
def QueueHasWrongFalsely : Prop := queueHasRow.holds Try.pinned (OpenSpec.ofChange queueHasWrong)

/-- 'jetsamlaw11.QueueOrders': WHATEVER THE INPUT: true; the input reads as it did. -/
def queueOrdersSpec : ChangeSpec := { name := "queueOrders", fn := fun _ => fun
  | [d1, d2] => { results := [.lit (.bool true)], args := [d1, d2] }
  | _ => none }
def queueOrdersRow : OpenClaim := { program := "ytlfojobligplkaa", sum := "d3b8907e732ba0c22ebf3cda9bd7f2daba261b1e8f681666c553f54edb7120b8", func := "jetsam/jetsamlaw11.QueueOrders", spec := "queueOrders", apart := false }
def QueueOrdersSaid : Prop := queueOrdersRow.holds Try.pinned (OpenSpec.ofChange queueOrdersSpec)

/-- ITS FALSE NEIGHBOUR: 'it returns false'. Refute it at one input. -/
def queueOrdersWrong : ChangeSpec := { name := "queueOrders", fn := fun _ => fun
  | [d1, d2] => { results := [.lit (.bool false)], args := [d1, d2] }
  | _ => none }
def QueueOrdersWrongFalsely : Prop := queueOrdersRow.holds Try.pinned (OpenSpec.ofChange queueOrdersWrong)

/-- 'jetsamlaw08.ItvDoes': WHATEVER THE INPUT: true; the input reads as it did. -/
def itvDoesSpec : ChangeSpec := { name := "itvDoes", fn := fun _ => fun
  | [d1, d2, d3] => { results := [.lit (.bool true)], args := [d1, d2, d3] }
  | _ => none }
def itvDoesRow : OpenClaim := { program := "ytlfojobligplkaa", sum := "d3b8907e732ba0c22ebf3cda9bd7f2daba261b1e8f681666c553f54edb7120b8", func := "jetsam/jetsamlaw08.ItvDoes", spec := "itvDoes", unfollowed := true, recurses := true, apart := false }
def ItvDoesSaid : Prop := itvDoesRow.holds Try.pinned (OpenSpec.ofChange itvDoesSpec)

/-- ITS FALSE NEIGHBOUR: 'it returns false'. Refute it at one input. -/
def itvDoesWrong : ChangeSpec := { name := "itvDoes", fn := fun _ => fun
  | [d1, d2, d3] => { results := [.lit (.bool false)], args := [d1, d2, d3] }
  | _ => none }
def ItvDoesWrongFalsely : Prop := itvDoesRow.holds Try.pinned (OpenSpec.ofChange itvDoesWrong)

/-- 'jetsamlaw08.ItvFew': WHATEVER THE INPUT: true; the input reads as it did. -/
def itvFewSpec : ChangeSpec := { name := "itvFew", fn := fun _ => fun
  | [d1, d2, d3] => { results := [.lit (.bool true)], args := [d1, d2, d3] }
  | _ => none }
def itvFewRow : OpenClaim := { program := "ytlfojobligplkaa", sum := "d3b8907e732ba0c22ebf3cda9bd7f2daba261b1e8f681666c553f54edb7120b8", func := "jetsam/jetsamlaw08.ItvFew", spec := "itvFew", unfollowed := true, recurses := true, apart := false }
def ItvFewSaid : Prop := itvFewRow.holds Try.pinned (OpenSpec.ofChange itvFewSpec)

/-- ITS FALSE NEIGHBOUR: 'it returns false'. Refute it at one input. -/
def itvFewWrong : ChangeSpec := { name := "itvFew", fn := fun _ => fun
  | [d1, d2, d3] => { results := [.lit (.bool false)], args := [d1, d2, d3] }
  | _ => none }
def ItvFewWrongFalsely : Prop := itvFewRow.holds Try.pinned (OpenSpec.ofChange itvFewWrong)

/-- 'jetsamlaw08.ItvSums': WHATEVER THE INPUT: true; the input reads as it did. -/
def itvSumsSpec : ChangeSpec := { name := "itvSums", fn := fun _ => fun
  | [d1, d2] => { results := [.lit (.bool true)], args := [d1, d2] }
  | _ => none }
def itvSumsRow : OpenClaim := { program := "ytlfojobligplkaa", sum := "d3b8907e732ba0c22ebf3cda9bd7f2daba261b1e8f681666c553f54edb7120b8", func := "jetsam/jetsamlaw08.ItvSums", spec := "itvSums", unfollowed := true, recurses := true, apart := false }
def ItvSumsSaid : Prop := itvSumsRow.holds Try.pinned (OpenSpec.ofChange itvSumsSpec)

/-- ITS FALSE NEIGHBOUR: 'it returns false'. Refute it at one input. -/
def itvSumsWrong : ChangeSpec := { name := "itvSums", fn := fun _ => fun
  | [d1, d2] => { results := [.lit (.bool false)], args := [d1, d2] }
  | _ => none }
def ItvSumsWrongFalsely : Prop := itvSumsRow.holds Try.pinned (OpenSpec.ofChange itvSumsWrong)

/-- 'jetsamlaw11.QueueRaw': WHATEVER THE INPUT: true; the input reads as it did. -/
def queueRawSpec : ChangeSpec := { name := "queueRaw", fn := fun _ => fun
  | [d1, d2, d3] => { results := [.lit (.bool true)], args := [d1, d2, d3] }
  | _ => none }
def queueRawRow : OpenClaim := { program := "ytlfojobligplkaa", sum := "d3b8907e732ba0c22ebf3cda9bd7f2daba261b1e8f681666c553f54edb7120b8", func := "jetsam/jetsamlaw11.QueueRaw", spec := "queueRaw", unfollowed := true, recurses := true, apart := false }
def QueueRawSaid : Prop := queueRawRow.holds Try.pinned (OpenSpec.ofChange queueRawSpec)

/-- ITS FALSE NEIGHBOUR: 'it returns false'. Refute it at one input. -/
def queueRawWrong : ChangeSpec := { name := "queueRaw", fn := fun _ => fun
  | [d1, d2, d3] => { results := [.lit (.bool false)], args := [d1, d2, d3] }
  | _ => none }
def QueueRawWrongFalsely : Prop := queueRawRow.holds Try.pinned (OpenSpec.ofChange queueRawWrong)

/-- 'jetsamlaw08.ItvNarrows': WHATEVER THE INPUT: true; the input reads as it did. -/
def itvNarrowsSpec : ChangeSpec := { name := "itvNarrows", fn := fun _ => fun
  | [d1, d2] => { results := [.lit (.bool true)], args := [d1, d2] }
  | _ => none }
def itvNarrowsRow : OpenClaim := { program := "ytlfojobligplkaa", sum := "d3b8907e732ba0c22ebf3cda9bd7f2daba261b1e8f681666c553f54edb7120b8", func := "jetsam/jetsamlaw08.ItvNarrows", spec := "itvNarrows", unfollowed := true, recurses := true, apart := false }
def ItvNarrowsSaid : Prop := itvNarrowsRow.holds Try.pinned (OpenSpec.ofChange itvNarrowsSpec)

/-- ITS FALSE NEIGHBOUR: 'it returns false'. Refute it at one input. -/
def itvNarrowsWrong : ChangeSpec := { name := "itvNarrows", fn := fun _ => fun
  | [d1, d2] => { results := [.lit (.bool false)], args := [d1, d2] }
  | _ => none }
def ItvNarrowsWrongFalsely : Prop := itvNarrowsRow.holds Try.pinned (OpenSpec.ofChange itvNarrowsWrong)

/-- 'jetsamlaw08.ItvWidens': WHATEVER THE INPUT: true; the input reads as it did. -/
def itvWidensSpec : ChangeSpec := { name := "itvWidens", fn := fun _ => fun
  | [d] => { results := [.lit (.bool true)], args := [d] }
  | _ => none }
def itvWidensRow : OpenClaim := { program := "ytlfojobligplkaa", sum := "d3b8907e732ba0c22ebf3cda9bd7f2daba261b1e8f681666c553f54edb7120b8", func := "jetsam/jetsamlaw08.ItvWidens", spec := "itvWidens", unfollowed := true, recurses := true, apart := false }
def ItvWidensSaid : Prop := itvWidensRow.holds Try.pinned (OpenSpec.ofChange itvWidensSpec)

/-- ITS FALSE NEIGHBOUR: 'it returns false'. Refute it at one input. -/
def itvWidensWrong : ChangeSpec := { name := "itvWidens", fn := fun _ => fun
  | [d] => { results := [.lit (.bool false)], args := [d] }
  | _ => none }
def ItvWidensWrongFalsely : Prop := itvWidensRow.holds Try.pinned (OpenSpec.ofChange itvWidensWrong)

/-- 'jetsamlaw11.QueueTwo': WHATEVER THE INPUT: true; the input reads as it did. -/
def queueTwoSpec : ChangeSpec := { name := "queueTwo", fn := fun _ => fun
  | [d1, d2, d3] => { results := [.lit (.bool true)], args := [d1, d2, d3] }
  | _ => none }
def queueTwoRow : OpenClaim := { program := "ytlfojobligplkaa", sum := "d3b8907e732ba0c22ebf3cda9bd7f2daba261b1e8f681666c553f54edb7120b8", func := "jetsam/jetsamlaw11.QueueTwo", spec := "queueTwo", unfollowed := true, recurses := true, apart := false }
def QueueTwoSaid : Prop := queueTwoRow.holds Try.pinned (OpenSpec.ofChange queueTwoSpec)

/-- ITS FALSE NEIGHBOUR: 'it returns false'. Refute it at one input. -/
def queueTwoWrong : ChangeSpec := { name := "queueTwo", fn := fun _ => fun
  | [d1, d2, d3] => { results := [.lit (.bool false)], args := [d1, d2, d3] }
  | _ => none }
def QueueTwoWrongFalsely : Prop := queueTwoRow.holds Try.pinned (OpenSpec.ofChange queueTwoWrong)

/-- 'jetsamlaw08.ItvSets': WHATEVER THE INPUT: true; the input reads as it did. -/
def itvSetsSpec : ChangeSpec := { name := "itvSets", fn := fun _ => fun
  | [d1, d2, d3] => { results := [.lit (.bool true)], args := [d1, d2, d3] }
  | _ => none }
def itvSetsRow : OpenClaim := { program := "ytlfojobligplkaa", sum := "d3b8907e732ba0c22ebf3cda9bd7f2daba261b1e8f681666c553f54edb7120b8", func := "jetsam/jetsamlaw08.ItvSets", spec := "itvSets", unfollowed := true, recurses := true, apart := false }
def ItvSetsSaid : Prop := itvSetsRow.holds Try.pinned (OpenSpec.ofChange itvSetsSpec)

/-- ITS FALSE NEIGHBOUR: 'it returns false'. Refute it at one input. -/
def itvSetsWrong : ChangeSpec := { name := "itvSets", fn := fun _ => fun
  | [d1, d2, d3] => { results := [.lit (.bool false)], args := [d1, d2, d3] }
  | _ => none }
def ItvSetsWrongFalsely : Prop := itvSetsRow.holds Try.pinned (OpenSpec.ofChange itvSetsWrong)

/-- 'jetsamlaw08.ItvTests': WHATEVER THE INPUT: true; the input reads as it did. -/
def itvTestsSpec : ChangeSpec := { name := "itvTests", fn := fun _ => fun
  | [d1, d2, d3] => { results := [.lit (.bool true)], args := [d1, d2, d3] }
  | _ => none }
def itvTestsRow : OpenClaim := { program := "ytlfojobligplkaa", sum := "d3b8907e732ba0c22ebf3cda9bd7f2daba261b1e8f681666c553f54edb7120b8", func := "jetsam/jetsamlaw08.ItvTests", spec := "itvTests", unfollowed := true, recurses := true, apart := false }
def ItvTestsSaid : Prop := itvTestsRow.holds Try.pinned (OpenSpec.ofChange itvTestsSpec)

/-- ITS FALSE NEIGHBOUR: 'it returns false'. Refute it at one input. -/
def itvTestsWrong : ChangeSpec := { name := "itvTests", fn := fun _ => fun
  | [d1, d2, d3] => { results := [.lit (.bool false)], args := [d1, d2, d3] }
  | _ => none }
def ItvTestsWrongFalsely : Prop := itvTestsRow.holds Try.pinned (OpenSpec.ofChange itvTestsWrong)

/-- 'jetsamlaw08.ItvConsts': WHATEVER THE INPUT: true; the input reads as it did. -/
def itvConstsSpec : ChangeSpec := { name := "itvConsts", fn := fun _ => fun
  | [d1, d2, d3] => { results := [.lit (.bool true)], args := [d1, d2, d3] }
  | _ => none }
def itvConstsRow : OpenClaim := { program := "ytlfojobligplkaa", sum := "d3b8907e732ba0c22ebf3cda9bd7f2daba261b1e8f681666c553f54edb7120b8", func := "jetsam/jetsamlaw08.ItvConsts", spec := "itvConsts", unfollowed := true, recurses := true, apart := false }
def ItvConstsSaid : Prop := itvConstsRow.holds Try.pinned (OpenSpec.ofChange itvConstsSpec)

/-- ITS FALSE NEIGHBOUR: 'it returns false'. Refute it at one input. -/
def itvConstsWrong : ChangeSpec := { name := "itvConsts", fn := fun _ => fun
  | [d1, d2, d3] => { results := [.lit (.bool false)], args := [d1, d2, d3] }
  | _ => none }
def ItvConstsWrongFalsely : Prop := itvConstsRow.holds Try.pinned (OpenSpec.ofChange itvConstsWrong)

/- THE SECOND FORM. 'bulk': how many values and letters a reading holds, each counted each time it is reached (what is shared counts as often as it is met; a slice's spare places count too). A statement '..UptoSaid' is the law's where the arguments, and the package variables that the reading takes, are together of bulk at most 1048576: NARROWER than '..Said'. Prove '..Said' where nothing that the law and all that it calls make is longer than what came in: it says more and counts as full. Else prove '..UptoSaid'. A law counts once. -/
mutual
def uptoBulk {H : Type} : DataW H → Nat
  | .lit (.string bytes) => bytes.length + 1
  | .lit _ => 1
  | .nil => 1
  | .ptr d => uptoBulk d + 1
  | .slice elems spare => uptoBulkAll elems + uptoBulkAll spare + 1
  | .agg parts => uptoBulkAll parts + 1
  | .iface _ d => uptoBulk d + 1
  | .map entries => uptoBulkEntries entries + 1
  | .held _ => 1
def uptoBulkAll {H : Type} : List (DataW H) → Nat
  | [] => 0
  | d :: r => uptoBulk d + uptoBulkAll r
def uptoBulkEntries {H : Type} : List (Lit × DataW H) → Nat
  | [] => 0
  | x :: r => uptoBulkEntry x + uptoBulkEntries r
def uptoBulkEntry {H : Type} : Lit × DataW H → Nat
  | (.string bytes, d) => bytes.length + uptoBulk d + 1
  | (_, d) => uptoBulk d + 1
 end
def uptoSmall : (H : Type) → List (DataW H) → Bool := fun _ ds => decide (uptoBulkAll ds ≤ 1048576)
def OpenSpec.upto (s : _root_.Go.ChangeSpec) : _root_.Go.OpenSpec := { _root_.Go.OpenSpec.ofChange s with cond := some uptoSmall }

/-- 'jetsamlaw11.QueueSends', WHERE WHAT IT READS IS OF BULK AT MOST 1048576: true; the input reads as it did. -/
def queueSendsUptoRow : OpenClaim := { program := "ytlfojobligplkaa", sum := "d3b8907e732ba0c22ebf3cda9bd7f2daba261b1e8f681666c553f54edb7120b8", func := "jetsam/jetsamlaw11.QueueSends", spec := "queueSends", apart := false, narrowed := true }
def QueueSendsUptoSaid : Prop := queueSendsUptoRow.holds Try.pinned (OpenSpec.upto queueSendsSpec)

/-- 'jetsamlaw11.QueueHas', WHERE WHAT IT READS IS OF BULK AT MOST 1048576: true; the input reads as it did. -/
def queueHasUptoRow : OpenClaim := { program := "ytlfojobligplkaa", sum := "d3b8907e732ba0c22ebf3cda9bd7f2daba261b1e8f681666c553f54edb7120b8", func := "jetsam/jetsamlaw11.QueueHas", spec := "queueHas", apart := false, narrowed := true }
def QueueHasUptoSaid : Prop := queueHasUptoRow.holds Try.pinned (OpenSpec.upto queueHasSpec)

/-- 'jetsamlaw11.QueueOrders', WHERE WHAT IT READS IS OF BULK AT MOST 1048576: true; the input reads as it did. -/
def queueOrdersUptoRow : OpenClaim := { program := "ytlfojobligplkaa", sum := "d3b8907e732ba0c22ebf3cda9bd7f2daba261b1e8f681666c553f54edb7120b8", func := "jetsam/jetsamlaw11.QueueOrders", spec := "queueOrders", apart := false, narrowed := true }
def QueueOrdersUptoSaid : Prop := queueOrdersUptoRow.holds Try.pinned (OpenSpec.upto queueOrdersSpec)

/-- 'jetsamlaw08.ItvDoes', WHERE WHAT IT READS IS OF BULK AT MOST 1048576: true; the input reads as it did. -/
def itvDoesUptoRow : OpenClaim := { program := "ytlfojobligplkaa", sum := "d3b8907e732ba0c22ebf3cda9bd7f2daba261b1e8f681666c553f54edb7120b8", func := "jetsam/jetsamlaw08.ItvDoes", spec := "itvDoes", unfollowed := true, recurses := true, apart := false, narrowed := true }
def ItvDoesUptoSaid : Prop := itvDoesUptoRow.holds Try.pinned (OpenSpec.upto itvDoesSpec)

/-- 'jetsamlaw08.ItvFew', WHERE WHAT IT READS IS OF BULK AT MOST 1048576: true; the input reads as it did. -/
def itvFewUptoRow : OpenClaim := { program := "ytlfojobligplkaa", sum := "d3b8907e732ba0c22ebf3cda9bd7f2daba261b1e8f681666c553f54edb7120b8", func := "jetsam/jetsamlaw08.ItvFew", spec := "itvFew", unfollowed := true, recurses := true, apart := false, narrowed := true }
def ItvFewUptoSaid : Prop := itvFewUptoRow.holds Try.pinned (OpenSpec.upto itvFewSpec)

/-- 'jetsamlaw08.ItvSums', WHERE WHAT IT READS IS OF BULK AT MOST 1048576: true; the input reads as it did. -/
def itvSumsUptoRow : OpenClaim := { program := "ytlfojobligplkaa", sum := "d3b8907e732ba0c22ebf3cda9bd7f2daba261b1e8f681666c553f54edb7120b8", func := "jetsam/jetsamlaw08.ItvSums", spec := "itvSums", unfollowed := true, recurses := true, apart := false, narrowed := true }
def ItvSumsUptoSaid : Prop := itvSumsUptoRow.holds Try.pinned (OpenSpec.upto itvSumsSpec)

/-- 'jetsamlaw11.QueueRaw', WHERE WHAT IT READS IS OF BULK AT MOST 1048576: true; the input reads as it did. -/
def queueRawUptoRow : OpenClaim := { program := "ytlfojobligplkaa", sum := "d3b8907e732ba0c22ebf3cda9bd7f2daba261b1e8f681666c553f54edb7120b8", func := "jetsam/jetsamlaw11.QueueRaw", spec := "queueRaw", unfollowed := true, recurses := true, apart := false, narrowed := true }
def QueueRawUptoSaid : Prop := queueRawUptoRow.holds Try.pinned (OpenSpec.upto queueRawSpec)

/-- 'jetsamlaw08.ItvNarrows', WHERE WHAT IT READS IS OF BULK AT MOST 1048576: true; the input reads as it did. -/
def itvNarrowsUptoRow : OpenClaim := { program := "ytlfojobligplkaa", sum := "d3b8907e732ba0c22ebf3cda9bd7f2daba261b1e8f681666c553f54edb7120b8", func := "jetsam/jetsamlaw08.ItvNarrows", spec := "itvNarrows", unfollowed := true, recurses := true, apart := false, narrowed := true }
def ItvNarrowsUptoSaid : Prop := itvNarrowsUptoRow.holds Try.pinned (OpenSpec.upto itvNarrowsSpec)

/-- 'jetsamlaw08.ItvWidens', WHERE WHAT IT READS IS OF BULK AT MOST 1048576: true; the input reads as it did. -/
def itvWidensUptoRow : OpenClaim := { program := "ytlfojobligplkaa", sum := "d3b8907e732ba0c22ebf3cda9bd7f2daba261b1e8f681666c553f54edb7120b8", func := "jetsam/jetsamlaw08.ItvWidens", spec := "itvWidens", unfollowed := true, recurses := true, apart := false, narrowed := true }
def ItvWidensUptoSaid : Prop := itvWidensUptoRow.holds Try.pinned (OpenSpec.upto itvWidensSpec)

/-- 'jetsamlaw11.QueueTwo', WHERE WHAT IT READS IS OF BULK AT MOST 1048576: true; the input reads as it did. -/
def queueTwoUptoRow : OpenClaim := { program := "ytlfojobligplkaa", sum := "d3b8907e732ba0c22ebf3cda9bd7f2daba261b1e8f681666c553f54edb7120b8", func := "jetsam/jetsamlaw11.QueueTwo", spec := "queueTwo", unfollowed := true, recurses := true, apart := false, narrowed := true }
def QueueTwoUptoSaid : Prop := queueTwoUptoRow.holds Try.pinned (OpenSpec.upto queueTwoSpec)

/-- 'jetsamlaw08.ItvSets', WHERE WHAT IT READS IS OF BULK AT MOST 1048576: true; the input reads as it did. -/
def itvSetsUptoRow : OpenClaim := { program := "ytlfojobligplkaa", sum := "d3b8907e732ba0c22ebf3cda9bd7f2daba261b1e8f681666c553f54edb7120b8", func := "jetsam/jetsamlaw08.ItvSets", spec := "itvSets", unfollowed := true, recurses := true, apart := false, narrowed := true }
def ItvSetsUptoSaid : Prop := itvSetsUptoRow.holds Try.pinned (OpenSpec.upto itvSetsSpec)

/-- 'jetsamlaw08.ItvTests', WHERE WHAT IT READS IS OF BULK AT MOST 1048576: true; the input reads as it did. -/
def itvTestsUptoRow : OpenClaim := { program := "ytlfojobligplkaa", sum := "d3b8907e732ba0c22ebf3cda9bd7f2daba261b1e8f681666c553f54edb7120b8", func := "jetsam/jetsamlaw08.ItvTests", spec := "itvTests", unfollowed := true, recurses := true, apart := false, narrowed := true }
def ItvTestsUptoSaid : Prop := itvTestsUptoRow.holds Try.pinned (OpenSpec.upto itvTestsSpec)

/-- 'jetsamlaw08.ItvConsts', WHERE WHAT IT READS IS OF BULK AT MOST 1048576: true; the input reads as it did. -/
def itvConstsUptoRow : OpenClaim := { program := "ytlfojobligplkaa", sum := "d3b8907e732ba0c22ebf3cda9bd7f2daba261b1e8f681666c553f54edb7120b8", func := "jetsam/jetsamlaw08.ItvConsts", spec := "itvConsts", unfollowed := true, recurses := true, apart := false, narrowed := true }
def ItvConstsUptoSaid : Prop := itvConstsUptoRow.holds Try.pinned (OpenSpec.upto itvConstsSpec)

end Rows
end Go.Proofs.Ytlfojobligplkaa

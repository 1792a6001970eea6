/-
  NARROWER THAN 'FOR EVERY INPUT', by the rows' own cells (each row's printed sentence says how): EvalLinears: loops · EvalAlone: loops · EvalHas: loops · EvalNones: loops · EvalAssumes: loops.
  DERIVED. THE GIVEN ROWS OF THIS SEAT. 22 by the template 'for every input the law returns true; each argument reads behind the call as it read before'; 0 by the template 'total and deterministic' (their statements: YtgmciihlmgeecaaTotals.lean).
  GIVEN WITH THE SEED: the statements are not yours to turn. If you find one false, say at which input.
  Laid BY PROGRAM, IN A SANDBOX (cutbox-rows.mjs): the forced cells as the released guide's own fill.sh prints them over the translation 5ffef5a5adff1a0e… (all of the seat's roots in one cut). By AI agents, Wed Nov 11 2026. No macro, syntax, notation, axiom, sorry.
-/
import Derived.Test.YtgmciihlmgeecaaChecked
import GoSem.Claim
import GoSem.ClaimJoined
import GoSem.ClaimMapViews
import Derived.JoinedTies
import Derived.KernelRfl
namespace Go.Proofs.Ytgmciihlmgeecaa
/- THE CELL 'sum', in the pinned program and in every row, IS THE sha256 OF THE DUMP (.gsa) THAT YtgmciihlmgeecaaProg.lean LOADS. Nothing in Lean hashes anything: it is a label: what it is worth is what the hold of that sum in a sandbox is worth. -/
noncomputable def Try.pinned : Pinned := { name := "ytgmciihlmgeecaa", sum := "5ffef5a5adff1a0e45ee70ed91dc7de1f9020b3f551a3fed3ae70505e0ed3642", checked := Try.checked }
namespace Rows
def none {H : Type} : Left H := { results := [], args := [] }

/-- 'jetsamlaw09.ZoneChains': WHATEVER THE INPUT: true; the input reads as it did. -/
def zoneChainsSpec : ChangeSpec := { name := "zoneChains", fn := fun _ => fun
  | [d1, d2] => { results := [.lit (.bool true)], args := [d1, d2] }
  | _ => none }
def zoneChainsRow : OpenClaim := { program := "ytgmciihlmgeecaa", sum := "5ffef5a5adff1a0e45ee70ed91dc7de1f9020b3f551a3fed3ae70505e0ed3642", func := "jetsam/jetsamlaw09.ZoneChains", spec := "zoneChains", apart := false }
def ZoneChainsSaid : Prop := zoneChainsRow.holds Try.pinned (OpenSpec.ofChange zoneChainsSpec)

/-- ITS FALSE NEIGHBOUR: 'it returns false'. Refute it at one input. -/
def zoneChainsWrong : ChangeSpec := { name := "zoneChains", fn := fun _ => fun
  | [d1, d2] => { results := [.lit (.bool false)], args := [d1, d2] }
  | _ => none }
def ZoneChainsWrongFalsely : Prop := zoneChainsRow.holds Try.pinned (OpenSpec.ofChange zoneChainsWrong)

/-- 'jetsamlaw09.ZoneActs': WHATEVER THE INPUT: true; the input reads as it did. -/
def zoneActsSpec : ChangeSpec := { name := "zoneActs", fn := fun _ => fun
  | [d1, d2, d3] => { results := [.lit (.bool true)], args := [d1, d2, d3] }
  | _ => none }
def zoneActsRow : OpenClaim := { program := "ytgmciihlmgeecaa", sum := "5ffef5a5adff1a0e45ee70ed91dc7de1f9020b3f551a3fed3ae70505e0ed3642", func := "jetsam/jetsamlaw09.ZoneActs", spec := "zoneActs", apart := false }
def ZoneActsSaid : Prop := zoneActsRow.holds Try.pinned (OpenSpec.ofChange zoneActsSpec)

/-- ITS FALSE NEIGHBOUR: 'it returns false'. Refute it at one input. -/
def zoneActsWrong : ChangeSpec := { name := "zoneActs", fn := fun _ => fun
  | [d1, d2, d3] => { results := [.lit (.bool false)], args := [d1, d2, d3] }
  | _ => none }
def ZoneActsWrongFalsely : Prop := zoneActsRow.holds Try.pinned (OpenSpec.ofChange zoneActsWrong)

/-- 'jetsamlaw09.ZoneHas': WHATEVER THE INPUT: true; the input reads as it did. -/
def zoneHasSpec : ChangeSpec := { name := "zoneHas", fn := fun _ => fun
  | [d1, d2, d3] => { results := [.lit (.bool true)], args := [d1, d2, d3] }
  | _ => none }
def zoneHasRow : OpenClaim := { program := "ytgmciihlmgeecaa", sum := "5ffef5a5adff1a0e45ee70ed91dc7de1f9020b3f551a3fed3ae70505e0ed3642", func := "jetsam/jetsamlaw09.ZoneHas", spec := "zoneHas", apart := false }
def ZoneHasSaid : Prop := zoneHasRow.holds Try.pinned (OpenSpec.ofChange zoneHasSpec)

/-- ITS FALSE NEIGHBOUR: 'it returns false'. Refute it at one input. -/
def zoneHasWrong : ChangeSpec := { name := "zoneHas", fn := fun _ => fun
  | [d1, d2, d3] => { results := [.lit (.bool false)], args := [d1, d2, d3] }
  | _ => none }
def ZoneHasWrongFalsely : Prop := zoneHasRow.holds Try.pinned (OpenSpec.ofChange zoneHasWrong)

/-- 'jetsamlaw09.ZoneNobody': WHATEVER THE INPUT: true; the input reads as it did. -/
def zoneNobodySpec : ChangeSpec := { name := "zoneNobody", fn := fun _ => fun
  | [d1, d2, d3] => { results := [.lit (.bool true)], args := [d1, d2, d3] }
  | _ => none }
def zoneNobodyRow : OpenClaim := { program := "ytgmciihlmgeecaa", sum := "5ffef5a5adff1a0e45ee70ed91dc7de1f9020b3f551a3fed3ae70505e0ed3642", func := "jetsam/jetsamlaw09.ZoneNobody", spec := "zoneNobody", apart := false }
def ZoneNobodySaid : Prop := zoneNobodyRow.holds Try.pinned (OpenSpec.ofChange zoneNobodySpec)

/-- ITS FALSE NEIGHBOUR: 'it returns false'. Refute it at one input. -/
def zoneNobodyWrong : ChangeSpec := { name := "zoneNobody", fn := fun _ => fun
  | [d1, d2, d3] => { results := [.lit (.bool false)], args := [d1, d2, d3] }
  | _ => none }
def ZoneNobodyWrongFalsely : Prop := zoneNobodyRow.holds Try.pinned (OpenSpec.ofChange zoneNobodyWrong)

/-- 'jetsamlaw10.NumSets': WHATEVER THE INPUT: true; the input reads as it did. -/
def numSetsSpec : ChangeSpec := { name := "numSets", fn := fun _ => fun
  | [d1, d2, d3] => { results := [.lit (.bool true)], args := [d1, d2, d3] }
  | _ => none }
def numSetsRow : OpenClaim := { program := "ytgmciihlmgeecaa", sum := "5ffef5a5adff1a0e45ee70ed91dc7de1f9020b3f551a3fed3ae70505e0ed3642", func := "jetsam/jetsamlaw10.NumSets", spec := "numSets", apart := false }
def NumSetsSaid : Prop := numSetsRow.holds Try.pinned (OpenSpec.ofChange numSetsSpec)

/-- ITS FALSE NEIGHBOUR: 'it returns false'. Refute it at one input. -/
def numSetsWrong : ChangeSpec := { name := "numSets", fn := fun _ => fun
  | [d1, d2, d3] => { results := [.lit (.bool false)], args := [d1, d2, d3] }
  | _ => none }
def NumSetsWrongFalsely : Prop := numSetsRow.holds Try.pinned (OpenSpec.ofChange numSetsWrong)

/-- 'jetsamlaw09.ZoneOrders': WHATEVER THE INPUT: true; the input reads as it did. -/
def zoneOrdersSpec : ChangeSpec := { name := "zoneOrders", fn := fun _ => fun
  | [d1, d2, d3] => { results := [.lit (.bool true)], args := [d1, d2, d3] }
  | _ => none }
def zoneOrdersRow : OpenClaim := { program := "ytgmciihlmgeecaa", sum := "5ffef5a5adff1a0e45ee70ed91dc7de1f9020b3f551a3fed3ae70505e0ed3642", func := "jetsam/jetsamlaw09.ZoneOrders", spec := "zoneOrders", apart := false }
def ZoneOrdersSaid : Prop := zoneOrdersRow.holds Try.pinned (OpenSpec.ofChange zoneOrdersSpec)

/-- ITS FALSE NEIGHBOUR: 'it returns false'. Refute it at one input. -/
def zoneOrdersWrong : ChangeSpec := { name := "zoneOrders", fn := fun _ => fun
  | [d1, d2, d3] => { results := [.lit (.bool false)], args := [d1, d2, d3] }
  | _ => none }
def ZoneOrdersWrongFalsely : Prop := zoneOrdersRow.holds Try.pinned (OpenSpec.ofChange zoneOrdersWrong)

/-- 'jetsamlaw09.ZoneForgets': WHATEVER THE INPUT: true; the input reads as it did. -/
def zoneForgetsSpec : ChangeSpec := { name := "zoneForgets", fn := fun _ => fun
  | [d1, d2] => { results := [.lit (.bool true)], args := [d1, d2] }
  | _ => none }
def zoneForgetsRow : OpenClaim := { program := "ytgmciihlmgeecaa", sum := "5ffef5a5adff1a0e45ee70ed91dc7de1f9020b3f551a3fed3ae70505e0ed3642", func := "jetsam/jetsamlaw09.ZoneForgets", spec := "zoneForgets", apart := false }
def ZoneForgetsSaid : Prop := zoneForgetsRow.holds Try.pinned (OpenSpec.ofChange zoneForgetsSpec)

/-- ITS FALSE NEIGHBOUR: 'it returns false'. Refute it at one input. -/
def zoneForgetsWrong : ChangeSpec := { name := "zoneForgets", fn := fun _ => fun
  | [d1, d2] => { results := [.lit (.bool false)], args := [d1, d2] }
  | _ => none }
def ZoneForgetsWrongFalsely : Prop := zoneForgetsRow.holds Try.pinned (OpenSpec.ofChange zoneForgetsWrong)

/-- 'jetsamlaw10.NumBounds': WHATEVER THE INPUT: true; the input reads as it did. -/
def numBoundsSpec : ChangeSpec := { name := "numBounds", fn := fun _ => fun
  | [d1, d2, d3] => { results := [.lit (.bool true)], args := [d1, d2, d3] }
  | _ => none }
def numBoundsRow : OpenClaim := { program := "ytgmciihlmgeecaa", sum := "5ffef5a5adff1a0e45ee70ed91dc7de1f9020b3f551a3fed3ae70505e0ed3642", func := "jetsam/jetsamlaw10.NumBounds", spec := "numBounds", apart := false }
def NumBoundsSaid : Prop := numBoundsRow.holds Try.pinned (OpenSpec.ofChange numBoundsSpec)

/-- ITS FALSE NEIGHBOUR: 'it returns false'. Refute it at one input. -/
def numBoundsWrong : ChangeSpec := { name := "numBounds", fn := fun _ => fun
  | [d1, d2, d3] => { results := [.lit (.bool false)], args := [d1, d2, d3] }
  | _ => none }
def NumBoundsWrongFalsely : Prop := numBoundsRow.holds Try.pinned (OpenSpec.ofChange numBoundsWrong)

/-- 'jetsamlaw10.NumActs': WHATEVER THE INPUT: true; the input reads as it did. -/
def numActsSpec : ChangeSpec := { name := "numActs", fn := fun _ => fun
  | [d1, d2, d3] => { results := [.lit (.bool true)], args := [d1, d2, d3] }
  | _ => none }
def numActsRow : OpenClaim := { program := "ytgmciihlmgeecaa", sum := "5ffef5a5adff1a0e45ee70ed91dc7de1f9020b3f551a3fed3ae70505e0ed3642", func := "jetsam/jetsamlaw10.NumActs", spec := "numActs", apart := false }
def NumActsSaid : Prop := numActsRow.holds Try.pinned (OpenSpec.ofChange numActsSpec)

/-- ITS FALSE NEIGHBOUR: 'it returns false'. Refute it at one input. -/
def numActsWrong : ChangeSpec := { name := "numActs", fn := fun _ => fun
  | [d1, d2, d3] => { results := [.lit (.bool false)], args := [d1, d2, d3] }
  | _ => none }
def NumActsWrongFalsely : Prop := numActsRow.holds Try.pinned (OpenSpec.ofChange numActsWrong)

/-- 'jetsamlaw10.NumHas': WHATEVER THE INPUT: true; the input reads as it did. -/
def numHasSpec : ChangeSpec := { name := "numHas", fn := fun _ => fun
  | [d1, d2] => { results := [.lit (.bool true)], args := [d1, d2] }
  | _ => none }
def numHasRow : OpenClaim := { program := "ytgmciihlmgeecaa", sum := "5ffef5a5adff1a0e45ee70ed91dc7de1f9020b3f551a3fed3ae70505e0ed3642", func := "jetsam/jetsamlaw10.NumHas", spec := "numHas", apart := false }
def NumHasSaid : Prop := numHasRow.holds Try.pinned (OpenSpec.ofChange numHasSpec)

/-- ITS FALSE NEIGHBOUR: 'it returns false'. Refute it at one input. -/
def numHasWrong : ChangeSpec := { name := "numHas", fn := fun _ => fun
  | [d1, d2] => { results := [.lit (.bool false)], args := [d1, d2] }
  | _ => none }
def NumHasWrongFalsely : Prop := numHasRow.holds Try.pinned (OpenSpec.ofChange numHasWrong)

/-- 'jetsamlaw09.ZoneJoins': WHATEVER THE INPUT: true; the input reads as it did. -/
def zoneJoinsSpec : ChangeSpec := { name := "zoneJoins", fn := fun _ => fun
  | [d1, d2, d3] => { results := [.lit (.bool true)], args := [d1, d2, d3] }
  | _ => none }
def zoneJoinsRow : OpenClaim := { program := "ytgmciihlmgeecaa", sum := "5ffef5a5adff1a0e45ee70ed91dc7de1f9020b3f551a3fed3ae70505e0ed3642", func := "jetsam/jetsamlaw09.ZoneJoins", spec := "zoneJoins", unfollowed := true, recurses := true, apart := false }
def ZoneJoinsSaid : Prop := zoneJoinsRow.holds Try.pinned (OpenSpec.ofChange zoneJoinsSpec)

/-- ITS FALSE NEIGHBOUR: 'it returns false'. Refute it at one input. -/
def zoneJoinsWrong : ChangeSpec := { name := "zoneJoins", fn := fun _ => fun
  | [d1, d2, d3] => { results := [.lit (.bool false)], args := [d1, d2, d3] }
  | _ => none }
def ZoneJoinsWrongFalsely : Prop := zoneJoinsRow.holds Try.pinned (OpenSpec.ofChange zoneJoinsWrong)

/-- 'jetsamlaw09.ZoneWidens': WHATEVER THE INPUT: true; the input reads as it did. -/
def zoneWidensSpec : ChangeSpec := { name := "zoneWidens", fn := fun _ => fun
  | [d1, d2] => { results := [.lit (.bool true)], args := [d1, d2] }
  | _ => none }
def zoneWidensRow : OpenClaim := { program := "ytgmciihlmgeecaa", sum := "5ffef5a5adff1a0e45ee70ed91dc7de1f9020b3f551a3fed3ae70505e0ed3642", func := "jetsam/jetsamlaw09.ZoneWidens", spec := "zoneWidens", unfollowed := true, recurses := true, apart := false }
def ZoneWidensSaid : Prop := zoneWidensRow.holds Try.pinned (OpenSpec.ofChange zoneWidensSpec)

/-- ITS FALSE NEIGHBOUR: 'it returns false'. Refute it at one input. -/
def zoneWidensWrong : ChangeSpec := { name := "zoneWidens", fn := fun _ => fun
  | [d1, d2] => { results := [.lit (.bool false)], args := [d1, d2] }
  | _ => none }
def ZoneWidensWrongFalsely : Prop := zoneWidensRow.holds Try.pinned (OpenSpec.ofChange zoneWidensWrong)

/-- 'jetsamlaw09.ZoneNones': WHATEVER THE INPUT: true; the input reads as it did. -/
def zoneNonesSpec : ChangeSpec := { name := "zoneNones", fn := fun _ => fun
  | [d1, d2, d3] => { results := [.lit (.bool true)], args := [d1, d2, d3] }
  | _ => none }
def zoneNonesRow : OpenClaim := { program := "ytgmciihlmgeecaa", sum := "5ffef5a5adff1a0e45ee70ed91dc7de1f9020b3f551a3fed3ae70505e0ed3642", func := "jetsam/jetsamlaw09.ZoneNones", spec := "zoneNones", unfollowed := true, recurses := true, apart := false }
def ZoneNonesSaid : Prop := zoneNonesRow.holds Try.pinned (OpenSpec.ofChange zoneNonesSpec)

/-- ITS FALSE NEIGHBOUR: 'it returns false'. Refute it at one input. -/
def zoneNonesWrong : ChangeSpec := { name := "zoneNones", fn := fun _ => fun
  | [d1, d2, d3] => { results := [.lit (.bool false)], args := [d1, d2, d3] }
  | _ => none }
def ZoneNonesWrongFalsely : Prop := zoneNonesRow.holds Try.pinned (OpenSpec.ofChange zoneNonesWrong)

/-- 'jetsamlaw10.NumCopies': WHATEVER THE INPUT: true; the input reads as it did. -/
def numCopiesSpec : ChangeSpec := { name := "numCopies", fn := fun _ => fun
  | [d1, d2, d3] => { results := [.lit (.bool true)], args := [d1, d2, d3] }
  | _ => none }
def numCopiesRow : OpenClaim := { program := "ytgmciihlmgeecaa", sum := "5ffef5a5adff1a0e45ee70ed91dc7de1f9020b3f551a3fed3ae70505e0ed3642", func := "jetsam/jetsamlaw10.NumCopies", spec := "numCopies", apart := false }
def NumCopiesSaid : Prop := numCopiesRow.holds Try.pinned (OpenSpec.ofChange numCopiesSpec)

/-- ITS FALSE NEIGHBOUR: 'it returns false'. Refute it at one input. -/
def numCopiesWrong : ChangeSpec := { name := "numCopies", fn := fun _ => fun
  | [d1, d2, d3] => { results := [.lit (.bool false)], args := [d1, d2, d3] }
  | _ => none }
def NumCopiesWrongFalsely : Prop := numCopiesRow.holds Try.pinned (OpenSpec.ofChange numCopiesWrong)

/-- 'jetsamlaw13.EvalLinears': WHATEVER THE INPUT: true; the input reads as it did. -/
def evalLinearsSpec : ChangeSpec := { name := "evalLinears", fn := fun _ => fun
  | [d] => { results := [.lit (.bool true)], args := [d] }
  | _ => none }
def evalLinearsRow : OpenClaim := { program := "ytgmciihlmgeecaa", sum := "5ffef5a5adff1a0e45ee70ed91dc7de1f9020b3f551a3fed3ae70505e0ed3642", func := "jetsam/jetsamlaw13.EvalLinears", spec := "evalLinears", unfollowed := true, recurses := true, loops := true, apart := false }
def EvalLinearsSaid : Prop := evalLinearsRow.holds Try.pinned (OpenSpec.ofChange evalLinearsSpec)

/-- ITS FALSE NEIGHBOUR: 'it returns false'. Refute it at one input. -/
def evalLinearsWrong : ChangeSpec := { name := "evalLinears", fn := fun _ => fun
  | [d] => { results := [.lit (.bool false)], args := [d] }
  | _ => none }
def EvalLinearsWrongFalsely : Prop := evalLinearsRow.holds Try.pinned (OpenSpec.ofChange evalLinearsWrong)

/-- 'jetsamlaw10.NumJoins': WHATEVER THE INPUT: true; the input reads as it did. -/
def numJoinsSpec : ChangeSpec := { name := "numJoins", fn := fun _ => fun
  | [d1, d2, d3] => { results := [.lit (.bool true)], args := [d1, d2, d3] }
  | _ => none }
def numJoinsRow : OpenClaim := { program := "ytgmciihlmgeecaa", sum := "5ffef5a5adff1a0e45ee70ed91dc7de1f9020b3f551a3fed3ae70505e0ed3642", func := "jetsam/jetsamlaw10.NumJoins", spec := "numJoins", unfollowed := true, recurses := true, apart := false }
def NumJoinsSaid : Prop := numJoinsRow.holds Try.pinned (OpenSpec.ofChange numJoinsSpec)

/-- ITS FALSE NEIGHBOUR: 'it returns false'. Refute it at one input. -/
def numJoinsWrong : ChangeSpec := { name := "numJoins", fn := fun _ => fun
  | [d1, d2, d3] => { results := [.lit (.bool false)], args := [d1, d2, d3] }
  | _ => none }
def NumJoinsWrongFalsely : Prop := numJoinsRow.holds Try.pinned (OpenSpec.ofChange numJoinsWrong)

/-- 'jetsamlaw10.NumNobody': WHATEVER THE INPUT: true; the input reads as it did. -/
def numNobodySpec : ChangeSpec := { name := "numNobody", fn := fun _ => fun
  | [d1, d2, d3] => { results := [.lit (.bool true)], args := [d1, d2, d3] }
  | _ => none }
def numNobodyRow : OpenClaim := { program := "ytgmciihlmgeecaa", sum := "5ffef5a5adff1a0e45ee70ed91dc7de1f9020b3f551a3fed3ae70505e0ed3642", func := "jetsam/jetsamlaw10.NumNobody", spec := "numNobody", unfollowed := true, recurses := true, apart := false }
def NumNobodySaid : Prop := numNobodyRow.holds Try.pinned (OpenSpec.ofChange numNobodySpec)

/-- ITS FALSE NEIGHBOUR: 'it returns false'. Refute it at one input. -/
def numNobodyWrong : ChangeSpec := { name := "numNobody", fn := fun _ => fun
  | [d1, d2, d3] => { results := [.lit (.bool false)], args := [d1, d2, d3] }
  | _ => none }
def NumNobodyWrongFalsely : Prop := numNobodyRow.holds Try.pinned (OpenSpec.ofChange numNobodyWrong)

/-- 'jetsamlaw13.EvalLeft': WHATEVER THE INPUT: true; the input reads as it did. -/
def evalLeftSpec : ChangeSpec := { name := "evalLeft", fn := fun _ => fun
  | [d1, d2] => { results := [.lit (.bool true)], args := [d1, d2] }
  | _ => none }
def evalLeftRow : OpenClaim := { program := "ytgmciihlmgeecaa", sum := "5ffef5a5adff1a0e45ee70ed91dc7de1f9020b3f551a3fed3ae70505e0ed3642", func := "jetsam/jetsamlaw13.EvalLeft", spec := "evalLeft", unfollowed := true, recurses := true, apart := false }
def EvalLeftSaid : Prop := evalLeftRow.holds Try.pinned (OpenSpec.ofChange evalLeftSpec)

/-- ITS FALSE NEIGHBOUR: 'it returns false'. Refute it at one input. -/
def evalLeftWrong : ChangeSpec := { name := "evalLeft", fn := fun _ => fun
  | [d1, d2] => { results := [.lit (.bool false)], args := [d1, d2] }
  | _ => none }
def EvalLeftWrongFalsely : Prop := evalLeftRow.holds Try.pinned (OpenSpec.ofChange evalLeftWrong)

/-- 'jetsamlaw13.EvalAlone': WHATEVER THE INPUT: true; the input reads as it did. -/
def evalAloneSpec : ChangeSpec := { name := "evalAlone", fn := fun _ => fun
  | [d1, d2, d3] => { results := [.lit (.bool true)], args := [d1, d2, d3] }
  | _ => none }
def evalAloneRow : OpenClaim := { program := "ytgmciihlmgeecaa", sum := "5ffef5a5adff1a0e45ee70ed91dc7de1f9020b3f551a3fed3ae70505e0ed3642", func := "jetsam/jetsamlaw13.EvalAlone", spec := "evalAlone", unfollowed := true, recurses := true, loops := true, apart := false }
def EvalAloneSaid : Prop := evalAloneRow.holds Try.pinned (OpenSpec.ofChange evalAloneSpec)

/-- ITS FALSE NEIGHBOUR: 'it returns false'. Refute it at one input. -/
def evalAloneWrong : ChangeSpec := { name := "evalAlone", fn := fun _ => fun
  | [d1, d2, d3] => { results := [.lit (.bool false)], args := [d1, d2, d3] }
  | _ => none }
def EvalAloneWrongFalsely : Prop := evalAloneRow.holds Try.pinned (OpenSpec.ofChange evalAloneWrong)

/-- 'jetsamlaw13.EvalHas': WHATEVER THE INPUT: true; the input reads as it did. -/
def evalHasSpec : ChangeSpec := { name := "evalHas", fn := fun _ => fun
  | [d1, d2, d3] => { results := [.lit (.bool true)], args := [d1, d2, d3] }
  | _ => none }
def evalHasRow : OpenClaim := { program := "ytgmciihlmgeecaa", sum := "5ffef5a5adff1a0e45ee70ed91dc7de1f9020b3f551a3fed3ae70505e0ed3642", func := "jetsam/jetsamlaw13.EvalHas", spec := "evalHas", unfollowed := true, recurses := true, loops := true, apart := false }
def EvalHasSaid : Prop := evalHasRow.holds Try.pinned (OpenSpec.ofChange evalHasSpec)

/-- ITS FALSE NEIGHBOUR: 'it returns false'. Refute it at one input. -/
def evalHasWrong : ChangeSpec := { name := "evalHas", fn := fun _ => fun
  | [d1, d2, d3] => { results := [.lit (.bool false)], args := [d1, d2, d3] }
  | _ => none }
def EvalHasWrongFalsely : Prop := evalHasRow.holds Try.pinned (OpenSpec.ofChange evalHasWrong)

/-- 'jetsamlaw13.EvalNones': WHATEVER THE INPUT: true; the input reads as it did. -/
def evalNonesSpec : ChangeSpec := { name := "evalNones", fn := fun _ => fun
  | [d1, d2] => { results := [.lit (.bool true)], args := [d1, d2] }
  | _ => none }
def evalNonesRow : OpenClaim := { program := "ytgmciihlmgeecaa", sum := "5ffef5a5adff1a0e45ee70ed91dc7de1f9020b3f551a3fed3ae70505e0ed3642", func := "jetsam/jetsamlaw13.EvalNones", spec := "evalNones", unfollowed := true, recurses := true, loops := true, apart := false }
def EvalNonesSaid : Prop := evalNonesRow.holds Try.pinned (OpenSpec.ofChange evalNonesSpec)

/-- ITS FALSE NEIGHBOUR: 'it returns false'. Refute it at one input. -/
def evalNonesWrong : ChangeSpec := { name := "evalNones", fn := fun _ => fun
  | [d1, d2] => { results := [.lit (.bool false)], args := [d1, d2] }
  | _ => none }
def EvalNonesWrongFalsely : Prop := evalNonesRow.holds Try.pinned (OpenSpec.ofChange evalNonesWrong)

/-- 'jetsamlaw13.EvalAssumes': WHATEVER THE INPUT: true; the input reads as it did. -/
def evalAssumesSpec : ChangeSpec := { name := "evalAssumes", fn := fun _ => fun
  | [d1, d2, d3] => { results := [.lit (.bool true)], args := [d1, d2, d3] }
  | _ => none }
def evalAssumesRow : OpenClaim := { program := "ytgmciihlmgeecaa", sum := "5ffef5a5adff1a0e45ee70ed91dc7de1f9020b3f551a3fed3ae70505e0ed3642", func := "jetsam/jetsamlaw13.EvalAssumes", spec := "evalAssumes", unfollowed := true, recurses := true, loops := true, apart := false }
def EvalAssumesSaid : Prop := evalAssumesRow.holds Try.pinned (OpenSpec.ofChange evalAssumesSpec)

/-- ITS FALSE NEIGHBOUR: 'it returns false'. Refute it at one input. -/
def evalAssumesWrong : ChangeSpec := { name := "evalAssumes", fn := fun _ => fun
  | [d1, d2, d3] => { results := [.lit (.bool false)], args := [d1, d2, d3] }
  | _ => none }
def EvalAssumesWrongFalsely : Prop := evalAssumesRow.holds Try.pinned (OpenSpec.ofChange evalAssumesWrong)

/- THE SECOND FORM. 'bulk': how many values and letters a reading holds, each counted each time it is reached (what is shared counts as often as it is met; a slice's spare places count too). A statement '..UptoSaid' is the law's where the arguments, and the package variables that the reading takes, are together of bulk at most 1048576: NARROWER than '..Said'. Prove '..Said' where nothing that the law and all that it calls make is longer than what came in: it says more and counts as full. Else prove '..UptoSaid'. A law counts once. -/
mutual
def uptoBulk {H : Type} : DataW H → Nat
  | .lit (.string bytes) => bytes.length + 1
  | .lit _ => 1
  | .nil => 1
  | .ptr d => uptoBulk d + 1
  | .slice elems spare => uptoBulkAll elems + uptoBulkAll spare + 1
  | .agg parts => uptoBulkAll parts + 1
  | .iface _ d => uptoBulk d + 1
  | .map entries => uptoBulkEntries entries + 1
  | .held _ => 1
def uptoBulkAll {H : Type} : List (DataW H) → Nat
  | [] => 0
  | d :: r => uptoBulk d + uptoBulkAll r
def uptoBulkEntries {H : Type} : List (Lit × DataW H) → Nat
  | [] => 0
  | x :: r => uptoBulkEntry x + uptoBulkEntries r
def uptoBulkEntry {H : Type} : Lit × DataW H → Nat
  | (.string bytes, d) => bytes.length + uptoBulk d + 1
  | (_, d) => uptoBulk d + 1
 end
def uptoSmall : (H : Type) → List (DataW H) → Bool := fun _ ds => decide (uptoBulkAll ds ≤ 1048576)
def OpenSpec.upto (s : _root_.Go.ChangeSpec) : _root_.Go.OpenSpec := { _root_.Go.OpenSpec.ofChange s with cond := some uptoSmall }

/-- 'jetsamlaw09.ZoneChains', WHERE WHAT IT READS IS OF BULK AT MOST 1048576: true; the input reads as it did. -/
def zoneChainsUptoRow : OpenClaim := { program := "ytgmciihlmgeecaa", sum := "5ffef5a5adff1a0e45ee70ed91dc7de1f9020b3f551a3fed3ae70505e0ed3642", func := "jetsam/jetsamlaw09.ZoneChains", spec := "zoneChains", apart := false, narrowed := true }
def ZoneChainsUptoSaid : Prop := zoneChainsUptoRow.holds Try.pinned (OpenSpec.upto zoneChainsSpec)

/-- 'jetsamlaw09.ZoneActs', WHERE WHAT IT READS IS OF BULK AT MOST 1048576: true; the input reads as it did. -/
def zoneActsUptoRow : OpenClaim := { program := "ytgmciihlmgeecaa", sum := "5ffef5a5adff1a0e45ee70ed91dc7de1f9020b3f551a3fed3ae70505e0ed3642", func := "jetsam/jetsamlaw09.ZoneActs", spec := "zoneActs", apart := false, narrowed := true }
def ZoneActsUptoSaid : Prop := zoneActsUptoRow.holds Try.pinned (OpenSpec.upto zoneActsSpec)

/-- 'jetsamlaw09.ZoneHas', WHERE WHAT IT READS IS OF BULK AT MOST 1048576: true; the input reads as it did. -/
def zoneHasUptoRow : OpenClaim := { program := "ytgmciihlmgeecaa", sum := "5ffef5a5adff1a0e45ee70ed91dc7de1f9020b3f551a3fed3ae70505e0ed3642", func := "jetsam/jetsamlaw09.ZoneHas", spec := "zoneHas", apart := false, narrowed := true }
def ZoneHasUptoSaid : Prop := zoneHasUptoRow.holds Try.pinned (OpenSpec.upto zoneHasSpec)

/-- 'jetsamlaw09.ZoneNobody', WHERE WHAT IT READS IS OF BULK AT MOST 1048576: true; the input reads as it did. -/
def zoneNobodyUptoRow : OpenClaim := { program := "ytgmciihlmgeecaa", sum := "5ffef5a5adff1a0e45ee70ed91dc7de1f9020b3f551a3fed3ae70505e0ed3642", func := "jetsam/jetsamlaw09.ZoneNobody", spec := "zoneNobody", apart := false, narrowed := true }
def ZoneNobodyUptoSaid : Prop := zoneNobodyUptoRow.holds Try.pinned (OpenSpec.upto zoneNobodySpec)

/-- 'jetsamlaw10.NumSets', WHERE WHAT IT READS IS OF BULK AT MOST 1048576: true; the input reads as it did. -/
def numSetsUptoRow : OpenClaim := { program := "ytgmciihlmgeecaa", sum := "5ffef5a5adff1a0e45ee70ed91dc7de1f9020b3f551a3fed3ae70505e0ed3642", func := "jetsam/jetsamlaw10.NumSets", spec := "numSets", apart := false, narrowed := true }
def NumSetsUptoSaid : Prop := numSetsUptoRow.holds Try.pinned (OpenSpec.upto numSetsSpec)

/-- 'jetsamlaw09.ZoneOrders', WHERE WHAT IT READS IS OF BULK AT MOST 1048576: true; the input reads as it did. -/
def zoneOrdersUptoRow : OpenClaim := { program := "ytgmciihlmgeecaa", sum := "5ffef5a5adff1a0e45ee70ed91dc7de1f9020b3f551a3fed3ae70505e0ed3642", func := "jetsam/jetsamlaw09.ZoneOrders", spec := "zoneOrders", apart := false, narrowed := true }
def ZoneOrdersUptoSaid : Prop := zoneOrdersUptoRow.holds Try.pinned (OpenSpec.upto zoneOrdersSpec)

/-- 'jetsamlaw09.ZoneForgets', WHERE WHAT IT READS IS OF BULK AT MOST 1048576: true; the input reads as it did. -/
def zoneForgetsUptoRow : OpenClaim := { program := "ytgmciihlmgeecaa", sum := "5ffef5a5adff1a0e45ee70ed91dc7de1f9020b3f551a3fed3ae70505e0ed3642", func := "jetsam/jetsamlaw09.ZoneForgets", spec := "zoneForgets", apart := false, narrowed := true }
def ZoneForgetsUptoSaid : Prop := zoneForgetsUptoRow.holds Try.pinned (OpenSpec.upto zoneForgetsSpec)

/-- 'jetsamlaw10.NumBounds', WHERE WHAT IT READS IS OF BULK AT MOST 1048576: true; the input reads as it did. -/
def numBoundsUptoRow : OpenClaim := { program := "ytgmciihlmgeecaa", sum := "5ffef5a5adff1a0e45ee70ed91dc7de1f9020b3f551a3fed3ae70505e0ed3642", func := "jetsam/jetsamlaw10.NumBounds", spec := "numBounds", apart := false, narrowed := true }
def NumBoundsUptoSaid : Prop := numBoundsUptoRow.holds Try.pinned (OpenSpec.upto numBoundsSpec)

/-- 'jetsamlaw10.NumActs', WHERE WHAT IT READS IS OF BULK AT MOST 1048576: true; the input reads as it did. -/
def numActsUptoRow : OpenClaim := { program := "ytgmciihlmgeecaa", sum := "5ffef5a5adff1a0e45ee70ed91dc7de1f9020b3f551a3fed3ae70505e0ed3642", func := "jetsam/jetsamlaw10.NumActs", spec := "numActs", apart := false, narrowed := true }
def NumActsUptoSaid : Prop := numActsUptoRow.holds Try.pinned (OpenSpec.upto numActsSpec)

/-- 'jetsamlaw10.NumHas', WHERE WHAT IT READS IS OF BULK AT MOST 1048576: true; the input reads as it did. -/
def numHasUptoRow : OpenClaim := { program := "ytgmciihlmgeecaa", sum := "5ffef5a5adff1a0e45ee70ed91dc7de1f9020b3f551a3fed3ae70505e0ed3642", func := "jetsam/jetsamlaw10.NumHas", spec := "numHas", apart := false, narrowed := true }
def NumHasUptoSaid : Prop := numHasUptoRow.holds Try.pinned (OpenSpec.upto numHasSpec)

/-- 'jetsamlaw09.ZoneJoins', WHERE WHAT IT READS IS OF BULK AT MOST 1048576: true; the input reads as it did. -/
def zoneJoinsUptoRow : OpenClaim := { program := "ytgmciihlmgeecaa", sum := "5ffef5a5adff1a0e45ee70ed91dc7de1f9020b3f551a3fed3ae70505e0ed3642", func := "jetsam/jetsamlaw09.ZoneJoins", spec := "zoneJoins", unfollowed := true, recurses := true, apart := false, narrowed := true }
def ZoneJoinsUptoSaid : Prop := zoneJoinsUptoRow.holds Try.pinned (OpenSpec.upto zoneJoinsSpec)

/-- 'jetsamlaw09.ZoneWidens', WHERE WHAT IT READS IS OF BULK AT MOST 1048576: true; the input reads as it did. -/
def zoneWidensUptoRow : OpenClaim := { program := "ytgmciihlmgeecaa", sum := "5ffef5a5adff1a0e45ee70ed91dc7de1f9020b3f551a3fed3ae70505e0ed3642", func := "jetsam/jetsamlaw09.ZoneWidens", spec := "zoneWidens", unfollowed := true, recurses := true, apart := false, narrowed := true }
def ZoneWidensUptoSaid : Prop := zoneWidensUptoRow.holds Try.pinned (OpenSpec.upto zoneWidensSpec)

/-- 'jetsamlaw09.ZoneNones', WHERE WHAT IT READS IS OF BULK AT MOST 1048576: true; the input reads as it did. -/
def zoneNonesUptoRow : OpenClaim := { program := "ytgmciihlmgeecaa", sum := "5ffef5a5adff1a0e45ee70ed91dc7de1f9020b3f551a3fed3ae70505e0ed3642", func := "jetsam/jetsamlaw09.ZoneNones", spec := "zoneNones", unfollowed := true, recurses := true, apart := false, narrowed := true }
def ZoneNonesUptoSaid : Prop := zoneNonesUptoRow.holds Try.pinned (OpenSpec.upto zoneNonesSpec)

/-- 'jetsamlaw10.NumCopies', WHERE WHAT IT READS IS OF BULK AT MOST 1048576: true; the input reads as it did. -/
def numCopiesUptoRow : OpenClaim := { program := "ytgmciihlmgeecaa", sum := "5ffef5a5adff1a0e45ee70ed91dc7de1f9020b3f551a3fed3ae70505e0ed3642", func := "jetsam/jetsamlaw10.NumCopies", spec := "numCopies", apart := false, narrowed := true }
def NumCopiesUptoSaid : Prop := numCopiesUptoRow.holds Try.pinned (OpenSpec.upto numCopiesSpec)

/-- 'jetsamlaw13.EvalLinears', WHERE WHAT IT READS IS OF BULK AT MOST 1048576: true; the input reads as it did. -/
def evalLinearsUptoRow : OpenClaim := { program := "ytgmciihlmgeecaa", sum := "5ffef5a5adff1a0e45ee70ed91dc7de1f9020b3f551a3fed3ae70505e0ed3642", func := "jetsam/jetsamlaw13.EvalLinears", spec := "evalLinears", unfollowed := true, recurses := true, loops := true, apart := false, narrowed := true }
def EvalLinearsUptoSaid : Prop := evalLinearsUptoRow.holds Try.pinned (OpenSpec.upto evalLinearsSpec)

/-- 'jetsamlaw10.NumJoins', WHERE WHAT IT READS IS OF BULK AT MOST 1048576: true; the input reads as it did. -/
def numJoinsUptoRow : OpenClaim := { program := "ytgmciihlmgeecaa", sum := "5ffef5a5adff1a0e45ee70ed91dc7de1f9020b3f551a3fed3ae70505e0ed3642", func := "jetsam/jetsamlaw10.NumJoins", spec := "numJoins", unfollowed := true, recurses := true, apart := false, narrowed := true }
def NumJoinsUptoSaid : Prop := numJoinsUptoRow.holds Try.pinned (OpenSpec.upto numJoinsSpec)

/-- 'jetsamlaw10.NumNobody', WHERE WHAT IT READS IS OF BULK AT MOST 1048576: true; the input reads as it did. -/
def numNobodyUptoRow : OpenClaim := { program := "ytgmciihlmgeecaa", sum := "5ffef5a5adff1a0e45ee70ed91dc7de1f9020b3f551a3fed3ae70505e0ed3642", func := "jetsam/jetsamlaw10.NumNobody", spec := "numNobody", unfollowed := true, recurses := true, apart := false, narrowed := true }
def NumNobodyUptoSaid : Prop := numNobodyUptoRow.holds Try.pinned (OpenSpec.upto numNobodySpec)

/-- 'jetsamlaw13.EvalLeft', WHERE WHAT IT READS IS OF BULK AT MOST 1048576: true; the input reads as it did. -/
def evalLeftUptoRow : OpenClaim := { program := "ytgmciihlmgeecaa", sum := "5ffef5a5adff1a0e45ee70ed91dc7de1f9020b3f551a3fed3ae70505e0ed3642", func := "jetsam/jetsamlaw13.EvalLeft", spec := "evalLeft", unfollowed := true, recurses := true, apart := false, narrowed := true }
def EvalLeftUptoSaid : Prop := evalLeftUptoRow.holds Try.pinned (OpenSpec.upto evalLeftSpec)

/-- 'jetsamlaw13.EvalAlone', WHERE WHAT IT READS IS OF BULK AT MOST 1048576: true; the input reads as it did. -/
def evalAloneUptoRow : OpenClaim := { program := "ytgmciihlmgeecaa", sum := "5ffef5a5adff1a0e45ee70ed91dc7de1f9020b3f551a3fed3ae70505e0ed3642", func := "jetsam/jetsamlaw13.EvalAlone", spec := "evalAlone", unfollowed := true, recurses := true, loops := true, apart := false, narrowed := true }
def EvalAloneUptoSaid : Prop := evalAloneUptoRow.holds Try.pinned (OpenSpec.upto evalAloneSpec)

/-- 'jetsamlaw13.EvalHas', WHERE WHAT IT READS IS OF BULK AT MOST 1048576: true; the input reads as it did. -/
def evalHasUptoRow : OpenClaim := { program := "ytgmciihlmgeecaa", sum := "5ffef5a5adff1a0e45ee70ed91dc7de1f9020b3f551a3fed3ae70505e0ed3642", func := "jetsam/jetsamlaw13.EvalHas", spec := "evalHas", unfollowed := true, recurses := true, loops := true, apart := false, narrowed := true }
def EvalHasUptoSaid : Prop := evalHasUptoRow.holds Try.pinned (OpenSpec.upto evalHasSpec)

/-- 'jetsamlaw13.EvalNones', WHERE WHAT IT READS IS OF BULK AT MOST 1048576: true; the input reads as it did. -/
def evalNonesUptoRow : OpenClaim := { program := "ytgmciihlmgeecaa", sum := "5ffef5a5adff1a0e45ee70ed91dc7de1f9020b3f551a3fed3ae70505e0ed3642", func := "jetsam/jetsamlaw13.EvalNones", spec := "evalNones", unfollowed := true, recurses := true, loops := true, apart := false, narrowed := true }
def EvalNonesUptoSaid : Prop := evalNonesUptoRow.holds Try.pinned (OpenSpec.upto evalNonesSpec)

/-- 'jetsamlaw13.EvalAssumes', WHERE WHAT IT READS IS OF BULK AT MOST 1048576: true; the input reads as it did. -/
def evalAssumesUptoRow : OpenClaim := { program := "ytgmciihlmgeecaa", sum := "5ffef5a5adff1a0e45ee70ed91dc7de1f9020b3f551a3fed3ae70505e0ed3642", func := "jetsam/jetsamlaw13.EvalAssumes", spec := "evalAssumes", unfollowed := true, recurses := true, loops := true, apart := false, narrowed := true }
def EvalAssumesUptoSaid : Prop := evalAssumesUptoRow.holds Try.pinned (OpenSpec.upto evalAssumesSpec)

end Rows
end Go.Proofs.Ytgmciihlmgeecaa

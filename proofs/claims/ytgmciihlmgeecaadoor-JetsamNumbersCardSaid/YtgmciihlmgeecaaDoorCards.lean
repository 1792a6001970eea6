/-
  DERIVED. GIVEN WITH THE SEED: THE CARDS: each row of YtgmciihlmgeecaaDoorRows.lean that lists a variable, with what it lists TIED to the program's text (the seventh form; the later family's looks); each row that meets fmt, with fmt's text TOLD by the authors' own Lean function (tested against real Go, not proved from fmt's source: count such statements apart). THE CARD IS WHAT COUNTS. Prove the row's statement (the work); the ties are given (YtgmciihlmgeecaaDoorTie.lean); close each card by the builder's one call (the guide's Derived/Test/ToyasCard.lean, 'card_holds'). Laid BY PROGRAM, IN A SANDBOX (cutbox-door.mjs). By AI agents, Wed Nov 11 2026. No macro, syntax, notation, axiom, sorry.
-/
import Derived.Test.YtgmciihlmgeecaaDoorRows
import GoSem.ClaimSeven
namespace Go.Proofs.YtgmciihlmgeecaaDoor
namespace Rows

/-- THE TIED CARD OF 'jetsamtop.JetsamNumbers'. -/
def jetsamNumbersCard : Claim7 := { stood := { row := jetsamNumbersRow, standIns := [], harness := (true, "fd4665ecc33c79d199841a457021718c301b8c1dcab2a3bb416b4ab99ee23c42"), looks := true }, kinds := [], alts := [], laidByText := true, laidKinds := [.data, .data, .data, .data, .sentinel, .sentinel, .pinned], laidTests := true, laidLooks := .later }
def JetsamNumbersCardSaid : Prop := Claim7.holds Tryd.pinned (.plain (OpenSpec.ofChange jetsamNumbersSpec)) jetsamNumbersCard

/-- THE SECOND FORM's CARD OF 'jetsamtop.JetsamNumbers'. -/
def jetsamNumbersUptoCard : Claim7 := { stood := { row := jetsamNumbersUptoRow, standIns := [], harness := (true, "fd4665ecc33c79d199841a457021718c301b8c1dcab2a3bb416b4ab99ee23c42"), looks := true }, kinds := [], alts := [], laidByText := true, laidKinds := [.data, .data, .data, .data, .sentinel, .sentinel, .pinned], laidTests := true, laidLooks := .later }
def JetsamNumbersUptoCardSaid : Prop := Claim7.holds Tryd.pinned (.plain (OpenSpec.upto jetsamNumbersSpec)) jetsamNumbersUptoCard
end Rows
end Go.Proofs.YtgmciihlmgeecaaDoor

/-
  DERIVED. GIVEN WITH THE SEED: THE CARDS: each row of YtlfojobligplkaaDoorRows.lean that lists a variable, with what it lists TIED to the program's text (the seventh form; the later family's looks); each row that meets fmt, with fmt's text TOLD by the authors' own Lean function (tested against real Go, not proved from fmt's source: count such statements apart). THE CARD IS WHAT COUNTS. Prove the row's statement (the work); the ties are given (YtlfojobligplkaaDoorTie.lean); close each card by the builder's one call (the guide's Derived/Test/ToyasCard.lean, 'card_holds'). Laid BY PROGRAM, IN A SANDBOX (cutbox-door.mjs). By AI agents, Wed Nov 11 2026. No macro, syntax, notation, axiom, sorry.
-/
import Derived.Test.YtlfojobligplkaaDoorRows
import GoSem.ClaimSeven
namespace Go.Proofs.YtlfojobligplkaaDoor
namespace Rows

/-- THE TIED CARD OF 'jetsamtop.JetsamChannels'. -/
def jetsamChannelsCard : Claim7 := { stood := { row := jetsamChannelsRow, standIns := [], harness := (true, "79d6170887a6fc560de3d92026e6d7f7e6dac2cc665d8018878494d2fc98c897"), looks := true }, kinds := [], alts := [], laidByText := true, laidKinds := [.data, .data, .data, .data, .sentinel, .sentinel, .pinned], laidTests := true, laidLooks := .later }
def JetsamChannelsCardSaid : Prop := Claim7.holds Tryd.pinned (.plain (OpenSpec.ofChange jetsamChannelsSpec)) jetsamChannelsCard

/-- THE SECOND FORM's CARD OF 'jetsamtop.JetsamChannels'. -/
def jetsamChannelsUptoCard : Claim7 := { stood := { row := jetsamChannelsUptoRow, standIns := [], harness := (true, "79d6170887a6fc560de3d92026e6d7f7e6dac2cc665d8018878494d2fc98c897"), looks := true }, kinds := [], alts := [], laidByText := true, laidKinds := [.data, .data, .data, .data, .sentinel, .sentinel, .pinned], laidTests := true, laidLooks := .later }
def JetsamChannelsUptoCardSaid : Prop := Claim7.holds Tryd.pinned (.plain (OpenSpec.upto jetsamChannelsSpec)) jetsamChannelsUptoCard
end Rows
end Go.Proofs.YtlfojobligplkaaDoor

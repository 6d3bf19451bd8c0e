/-
  DERIVED. GIVEN WITH THE SEED: THE CARDS: each row of YtanccjaikocefaaGreatDoorRows.lean that lists a variable, with what it lists TIED to the program's text (the seventh form; the later family's looks); each row that meets fmt, with fmt's text TOLD by the authors' own Lean function (tested against real Go, not proved from fmt's source: count such statements apart). THE CARD IS WHAT COUNTS. Prove the row's statement (the work); the ties are given (YtanccjaikocefaaGreatDoorTie.lean); close each card by the builder's one call (the guide's Derived/Test/ToyasCard.lean, 'card_holds'). Laid BY PROGRAM, IN A SANDBOX (cutbox-door.mjs). By AI agents, Wed Nov 11 2026. No macro, syntax, notation, axiom, sorry.
-/
import Derived.Test.YtanccjaikocefaaGreatDoorRows
import GoSem.ClaimSeven
namespace Go.Proofs.YtanccjaikocefaaGreatDoor
namespace Rows

/-- THE TIED CARD OF 'chainslaw.All'. -/
def allCard : Claim7 := { stood := { row := allRow, standIns := [], harness := (true, "5a831cdc609c19fc7774a40e91e498fe04fe495378221747de271867165a9721"), looks := true }, kinds := [], alts := [], laidByText := true, laidKinds := [.data], laidTests := true, laidLooks := .later }
def AllCardSaid : Prop := Claim7.holds Tryz.pinned (.plain (OpenSpec.ofChange allSpec)) allCard

/-- THE SECOND FORM's CARD OF 'chainslaw.All'. -/
def allUptoCard : Claim7 := { stood := { row := allUptoRow, standIns := [], harness := (true, "5a831cdc609c19fc7774a40e91e498fe04fe495378221747de271867165a9721"), looks := true }, kinds := [], alts := [], laidByText := true, laidKinds := [.data], laidTests := true, laidLooks := .later }
def AllUptoCardSaid : Prop := Claim7.holds Tryz.pinned (.plain (OpenSpec.upto allSpec)) allUptoCard
end Rows
end Go.Proofs.YtanccjaikocefaaGreatDoor

/-
  DERIVED. GIVEN WITH THE SEED: THE CARDS: each row of YtanccjaikocefaaDoorRows.lean that lists a variable, with what it lists TIED to the program's text (the seventh form; the later family's looks); each row that meets fmt, with fmt's text TOLD by the authors' own Lean function (tested against real Go, not proved from fmt's source: count such statements apart). THE CARD IS WHAT COUNTS. Prove the row's statement (the work); the ties are given (YtanccjaikocefaaDoorTie.lean); close each card by the builder's one call (the guide's Derived/Test/ToyasCard.lean, 'card_holds'). Laid BY PROGRAM, IN A SANDBOX (cutbox-door.mjs). By AI agents, Wed Nov 11 2026. No macro, syntax, notation, axiom, sorry.
-/
import Derived.Test.YtanccjaikocefaaDoorRows
import GoSem.ClaimSeven
namespace Go.Proofs.YtanccjaikocefaaDoor
namespace Rows

/-- THE TIED CARD OF 'chainslaw.Decodes'. -/
def decodesCard : Claim7 := { stood := { row := decodesRow, standIns := [], harness := (true, "e33a55635e58a8eae1a2995b6cd8aed655a0f33d611c1527d5d8921916272dd5"), looks := true }, kinds := [], alts := [], laidByText := true, laidKinds := [.data], laidTests := true, laidLooks := .later }
def DecodesCardSaid : Prop := Claim7.holds Tryd.pinned (.plain (OpenSpec.ofChange decodesSpec)) decodesCard

/-- THE TIED CARD OF 'chainslaw.Interprets'. -/
def interpretsCard : Claim7 := { stood := { row := interpretsRow, standIns := [], harness := (true, "e33a55635e58a8eae1a2995b6cd8aed655a0f33d611c1527d5d8921916272dd5"), looks := true }, kinds := [], alts := [], laidByText := true, laidKinds := [.data], laidTests := true, laidLooks := .later }
def InterpretsCardSaid : Prop := Claim7.holds Tryd.pinned (.plain (OpenSpec.ofChange interpretsSpec)) interpretsCard

/-- THE TIED CARD OF 'chainslaw.Runs'. -/
def runsCard : Claim7 := { stood := { row := runsRow, standIns := [], harness := (true, "e33a55635e58a8eae1a2995b6cd8aed655a0f33d611c1527d5d8921916272dd5"), looks := true }, kinds := [], alts := [], laidByText := true, laidKinds := [.data], laidTests := true, laidLooks := .later }
def RunsCardSaid : Prop := Claim7.holds Tryd.pinned (.plain (OpenSpec.ofChange runsSpec)) runsCard

/-- THE TIED CARD OF 'chainskeep.Alike'. -/
def alikeCard : Claim7 := { stood := { row := alikeRow, standIns := [], harness := (true, "e33a55635e58a8eae1a2995b6cd8aed655a0f33d611c1527d5d8921916272dd5"), looks := true }, kinds := [], alts := [], laidByText := true, laidKinds := [.data], laidTests := true, laidLooks := .later }
def AlikeCardSaid : Prop := Claim7.holds Tryd.pinned (.plain (OpenSpec.ofChange alikeSpec)) alikeCard

/-- THE TIED CARD OF 'chainskeep.Sober'. -/
def soberCard : Claim7 := { stood := { row := soberRow, standIns := [], harness := (true, "e33a55635e58a8eae1a2995b6cd8aed655a0f33d611c1527d5d8921916272dd5"), looks := true }, kinds := [], alts := [], laidByText := true, laidKinds := [.data], laidTests := true, laidLooks := .later }
def SoberCardSaid : Prop := Claim7.holds Tryd.pinned (.plain (OpenSpec.ofChange soberSpec)) soberCard

/-- THE TIED CARD OF 'chainskeep.Further'. -/
def furtherCard : Claim7 := { stood := { row := furtherRow, standIns := [], harness := (true, "e33a55635e58a8eae1a2995b6cd8aed655a0f33d611c1527d5d8921916272dd5"), looks := true }, kinds := [], alts := [], laidByText := true, laidKinds := [.data], laidTests := true, laidLooks := .later }
def FurtherCardSaid : Prop := Claim7.holds Tryd.pinned (.plain (OpenSpec.ofChange furtherSpec)) furtherCard

/-- THE TIED CARD OF 'chainskeep.Changed'. -/
def changedCard : Claim7 := { stood := { row := changedRow, standIns := [], harness := (true, "e33a55635e58a8eae1a2995b6cd8aed655a0f33d611c1527d5d8921916272dd5"), looks := true }, kinds := [], alts := [], laidByText := true, laidKinds := [.data], laidTests := true, laidLooks := .later }
def ChangedCardSaid : Prop := Claim7.holds Tryd.pinned (.plain (OpenSpec.ofChange changedSpec)) changedCard

/-- THE TIED CARD OF 'chainskeep.Sums'. -/
def sumsCard : Claim7 := { stood := { row := sumsRow, standIns := [], harness := (true, "e33a55635e58a8eae1a2995b6cd8aed655a0f33d611c1527d5d8921916272dd5"), looks := true }, kinds := [], alts := [], laidByText := true, laidKinds := [.data], laidTests := true, laidLooks := .later }
def SumsCardSaid : Prop := Claim7.holds Tryd.pinned (.plain (OpenSpec.ofChange sumsSpec)) sumsCard

/-- THE TIED CARD OF 'chainslaw.Profiles'. -/
def profilesCard : Claim7 := { stood := { row := profilesRow, standIns := [], harness := (true, "e33a55635e58a8eae1a2995b6cd8aed655a0f33d611c1527d5d8921916272dd5"), looks := true }, kinds := [], alts := [], laidByText := true, laidKinds := [.data], laidTests := true, laidLooks := .later }
def ProfilesCardSaid : Prop := Claim7.holds Tryd.pinned (.plain (OpenSpec.ofChange profilesSpec)) profilesCard

/-- THE SECOND FORM's CARD OF 'chainslaw.Decodes'. -/
def decodesUptoCard : Claim7 := { stood := { row := decodesUptoRow, standIns := [], harness := (true, "e33a55635e58a8eae1a2995b6cd8aed655a0f33d611c1527d5d8921916272dd5"), looks := true }, kinds := [], alts := [], laidByText := true, laidKinds := [.data], laidTests := true, laidLooks := .later }
def DecodesUptoCardSaid : Prop := Claim7.holds Tryd.pinned (.plain (OpenSpec.upto decodesSpec)) decodesUptoCard

/-- THE SECOND FORM's CARD OF 'chainslaw.Interprets'. -/
def interpretsUptoCard : Claim7 := { stood := { row := interpretsUptoRow, standIns := [], harness := (true, "e33a55635e58a8eae1a2995b6cd8aed655a0f33d611c1527d5d8921916272dd5"), looks := true }, kinds := [], alts := [], laidByText := true, laidKinds := [.data], laidTests := true, laidLooks := .later }
def InterpretsUptoCardSaid : Prop := Claim7.holds Tryd.pinned (.plain (OpenSpec.upto interpretsSpec)) interpretsUptoCard

/-- THE SECOND FORM's CARD OF 'chainslaw.Runs'. -/
def runsUptoCard : Claim7 := { stood := { row := runsUptoRow, standIns := [], harness := (true, "e33a55635e58a8eae1a2995b6cd8aed655a0f33d611c1527d5d8921916272dd5"), looks := true }, kinds := [], alts := [], laidByText := true, laidKinds := [.data], laidTests := true, laidLooks := .later }
def RunsUptoCardSaid : Prop := Claim7.holds Tryd.pinned (.plain (OpenSpec.upto runsSpec)) runsUptoCard

/-- THE SECOND FORM's CARD OF 'chainskeep.Alike'. -/
def alikeUptoCard : Claim7 := { stood := { row := alikeUptoRow, standIns := [], harness := (true, "e33a55635e58a8eae1a2995b6cd8aed655a0f33d611c1527d5d8921916272dd5"), looks := true }, kinds := [], alts := [], laidByText := true, laidKinds := [.data], laidTests := true, laidLooks := .later }
def AlikeUptoCardSaid : Prop := Claim7.holds Tryd.pinned (.plain (OpenSpec.upto alikeSpec)) alikeUptoCard

/-- THE SECOND FORM's CARD OF 'chainskeep.Sober'. -/
def soberUptoCard : Claim7 := { stood := { row := soberUptoRow, standIns := [], harness := (true, "e33a55635e58a8eae1a2995b6cd8aed655a0f33d611c1527d5d8921916272dd5"), looks := true }, kinds := [], alts := [], laidByText := true, laidKinds := [.data], laidTests := true, laidLooks := .later }
def SoberUptoCardSaid : Prop := Claim7.holds Tryd.pinned (.plain (OpenSpec.upto soberSpec)) soberUptoCard

/-- THE SECOND FORM's CARD OF 'chainskeep.Further'. -/
def furtherUptoCard : Claim7 := { stood := { row := furtherUptoRow, standIns := [], harness := (true, "e33a55635e58a8eae1a2995b6cd8aed655a0f33d611c1527d5d8921916272dd5"), looks := true }, kinds := [], alts := [], laidByText := true, laidKinds := [.data], laidTests := true, laidLooks := .later }
def FurtherUptoCardSaid : Prop := Claim7.holds Tryd.pinned (.plain (OpenSpec.upto furtherSpec)) furtherUptoCard

/-- THE SECOND FORM's CARD OF 'chainskeep.Changed'. -/
def changedUptoCard : Claim7 := { stood := { row := changedUptoRow, standIns := [], harness := (true, "e33a55635e58a8eae1a2995b6cd8aed655a0f33d611c1527d5d8921916272dd5"), looks := true }, kinds := [], alts := [], laidByText := true, laidKinds := [.data], laidTests := true, laidLooks := .later }
def ChangedUptoCardSaid : Prop := Claim7.holds Tryd.pinned (.plain (OpenSpec.upto changedSpec)) changedUptoCard

/-- THE SECOND FORM's CARD OF 'chainskeep.Sums'. -/
def sumsUptoCard : Claim7 := { stood := { row := sumsUptoRow, standIns := [], harness := (true, "e33a55635e58a8eae1a2995b6cd8aed655a0f33d611c1527d5d8921916272dd5"), looks := true }, kinds := [], alts := [], laidByText := true, laidKinds := [.data], laidTests := true, laidLooks := .later }
def SumsUptoCardSaid : Prop := Claim7.holds Tryd.pinned (.plain (OpenSpec.upto sumsSpec)) sumsUptoCard

/-- THE SECOND FORM's CARD OF 'chainslaw.Profiles'. -/
def profilesUptoCard : Claim7 := { stood := { row := profilesUptoRow, standIns := [], harness := (true, "e33a55635e58a8eae1a2995b6cd8aed655a0f33d611c1527d5d8921916272dd5"), looks := true }, kinds := [], alts := [], laidByText := true, laidKinds := [.data], laidTests := true, laidLooks := .later }
def ProfilesUptoCardSaid : Prop := Claim7.holds Tryd.pinned (.plain (OpenSpec.upto profilesSpec)) profilesUptoCard
end Rows
end Go.Proofs.YtanccjaikocefaaDoor

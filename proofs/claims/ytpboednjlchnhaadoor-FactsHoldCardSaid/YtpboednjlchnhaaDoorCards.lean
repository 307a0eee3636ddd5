/-
  DERIVED. GIVEN WITH THE SEED: THE CARDS: each row of YtpboednjlchnhaaDoorRows.lean that lists a variable, with what it lists TIED to the program's text (the seventh form; the later family's looks); each row that meets fmt, with fmt's text TOLD by the authors' own Lean function (tested against real Go, not proved from fmt's source: count such statements apart). THE CARD IS WHAT COUNTS. Prove the row's statement (the work); the ties are given (YtpboednjlchnhaaDoorTie.lean); close each card by the builder's one call (the guide's Derived/Test/ToyasCard.lean, 'card_holds'). Laid BY PROGRAM, IN A SANDBOX (cutbox-door.mjs). By AI agents, Wed Nov 11 2026. No macro, syntax, notation, axiom, sorry.
-/
import Derived.Test.YtpboednjlchnhaaDoorRows
import GoSem.ClaimSeven
namespace Go.Proofs.YtpboednjlchnhaaDoor
namespace Rows

/-- THE TIED CARD OF 'sorrellaw13.FactsParts'. -/
def factsPartsCard : Claim7 := { stood := { row := factsPartsRow, standIns := [], harness := (true, "56cf6c2bcaa1afc35ea115b3d894ee011a42ef1220422cbdfc0403ebd0dfd95b"), looks := false }, kinds := [], alts := [], laidByText := true, laidKinds := [.data, .data], laidTests := true, laidLooks := .later }
def FactsPartsCardSaid : Prop := Claim7.holds Tryd.pinned (.plain (OpenSpec.ofChange factsPartsSpec)) factsPartsCard

/-- THE TIED CARD OF 'sorrellaw13.FactsHold'. -/
def factsHoldCard : Claim7 := { stood := { row := factsHoldRow, standIns := [], harness := (true, "56cf6c2bcaa1afc35ea115b3d894ee011a42ef1220422cbdfc0403ebd0dfd95b"), looks := false }, kinds := [], alts := [], laidByText := true, laidKinds := [.data, .data], laidTests := true, laidLooks := .later }
def FactsHoldCardSaid : Prop := Claim7.holds Tryd.pinned (.plain (OpenSpec.ofChange factsHoldSpec)) factsHoldCard

/-- THE TIED CARD OF 'sorrellaw20.ExtractKeeps'. -/
def extractKeepsCard : Claim7 := { stood := { row := extractKeepsRow, standIns := [], harness := (true, "56cf6c2bcaa1afc35ea115b3d894ee011a42ef1220422cbdfc0403ebd0dfd95b"), looks := false }, kinds := [], alts := [], laidByText := true, laidKinds := [.data, .data], laidTests := true, laidLooks := .later }
def ExtractKeepsCardSaid : Prop := Claim7.holds Tryd.pinned (.plain (OpenSpec.ofChange extractKeepsSpec)) extractKeepsCard

/-- THE SECOND FORM's CARD OF 'sorrellaw13.FactsParts'. -/
def factsPartsUptoCard : Claim7 := { stood := { row := factsPartsUptoRow, standIns := [], harness := (true, "56cf6c2bcaa1afc35ea115b3d894ee011a42ef1220422cbdfc0403ebd0dfd95b"), looks := false }, kinds := [], alts := [], laidByText := true, laidKinds := [.data, .data], laidTests := true, laidLooks := .later }
def FactsPartsUptoCardSaid : Prop := Claim7.holds Tryd.pinned (.plain (OpenSpec.upto factsPartsSpec)) factsPartsUptoCard

/-- THE SECOND FORM's CARD OF 'sorrellaw13.FactsHold'. -/
def factsHoldUptoCard : Claim7 := { stood := { row := factsHoldUptoRow, standIns := [], harness := (true, "56cf6c2bcaa1afc35ea115b3d894ee011a42ef1220422cbdfc0403ebd0dfd95b"), looks := false }, kinds := [], alts := [], laidByText := true, laidKinds := [.data, .data], laidTests := true, laidLooks := .later }
def FactsHoldUptoCardSaid : Prop := Claim7.holds Tryd.pinned (.plain (OpenSpec.upto factsHoldSpec)) factsHoldUptoCard

/-- THE SECOND FORM's CARD OF 'sorrellaw20.ExtractKeeps'. -/
def extractKeepsUptoCard : Claim7 := { stood := { row := extractKeepsUptoRow, standIns := [], harness := (true, "56cf6c2bcaa1afc35ea115b3d894ee011a42ef1220422cbdfc0403ebd0dfd95b"), looks := false }, kinds := [], alts := [], laidByText := true, laidKinds := [.data, .data], laidTests := true, laidLooks := .later }
def ExtractKeepsUptoCardSaid : Prop := Claim7.holds Tryd.pinned (.plain (OpenSpec.upto extractKeepsSpec)) extractKeepsUptoCard
end Rows
end Go.Proofs.YtpboednjlchnhaaDoor

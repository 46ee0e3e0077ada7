/-
  DERIVED. GIVEN WITH THE SEED: THE CARDS: each row of YtefhjioeceadlaaDoorRows.lean that lists a variable, with what it lists TIED to the program's text (the seventh form; the later family's looks); each row that meets fmt, with fmt's text TOLD by the authors' own Lean function (tested against real Go, not proved from fmt's source: count such statements apart). THE CARD IS WHAT COUNTS. Prove the row's statement (the work); the ties are given (YtefhjioeceadlaaDoorTie.lean); close each card by the builder's one call (the guide's Derived/Test/ToyasCard.lean, 'card_holds'). Laid BY PROGRAM, IN A SANDBOX (cutbox-door.mjs). By AI agents, Wed Nov 11 2026. No macro, syntax, notation, axiom, sorry.
-/
import Derived.Test.YtefhjioeceadlaaDoorRows
import GoSem.ClaimSeven
namespace Go.Proofs.YtefhjioeceadlaaDoor
namespace Rows

/-- THE TIED CARD OF 'cochineallaw20.CompareTexts'. -/
def compareTextsCard : Claim7 := { stood := { row := compareTextsRow, standIns := [], harness := (true, "edf947a3c08c727568946910e6928debe2641ce03061d04f42188b578f8f6695"), looks := false }, kinds := [], alts := [], laidByText := true, laidKinds := [.data, .data, .data], laidTests := true, laidLooks := .later }
def CompareTextsCardSaid : Prop := Claim7.holds Tryd.pinned (.plain (OpenSpec.ofChange compareTextsSpec)) compareTextsCard

/-- THE SECOND FORM's CARD OF 'cochineallaw20.CompareTexts'. -/
def compareTextsUptoCard : Claim7 := { stood := { row := compareTextsUptoRow, standIns := [], harness := (true, "edf947a3c08c727568946910e6928debe2641ce03061d04f42188b578f8f6695"), looks := false }, kinds := [], alts := [], laidByText := true, laidKinds := [.data, .data, .data], laidTests := true, laidLooks := .later }
def CompareTextsUptoCardSaid : Prop := Claim7.holds Tryd.pinned (.plain (OpenSpec.upto compareTextsSpec)) compareTextsUptoCard
end Rows
end Go.Proofs.YtefhjioeceadlaaDoor

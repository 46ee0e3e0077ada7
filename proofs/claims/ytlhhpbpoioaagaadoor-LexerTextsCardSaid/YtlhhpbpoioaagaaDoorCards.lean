/-
  DERIVED. GIVEN WITH THE SEED: THE CARDS: each row of YtlhhpbpoioaagaaDoorRows.lean that lists a variable, with what it lists TIED to the program's text (the seventh form; the later family's looks); each row that meets fmt, with fmt's text TOLD by the authors' own Lean function (tested against real Go, not proved from fmt's source: count such statements apart). THE CARD IS WHAT COUNTS. Prove the row's statement (the work); the ties are given (YtlhhpbpoioaagaaDoorTie.lean); close each card by the builder's one call (the guide's Derived/Test/ToyasCard.lean, 'card_holds'). Laid BY PROGRAM, IN A SANDBOX (cutbox-door.mjs). By AI agents, Wed Nov 11 2026. No macro, syntax, notation, axiom, sorry.
-/
import Derived.Test.YtlhhpbpoioaagaaDoorRows
import GoSem.ClaimSeven
namespace Go.Proofs.YtlhhpbpoioaagaaDoor
namespace Rows

/-- THE TIED CARD OF 'cochineallaw06.LexerScans'. -/
def lexerScansCard : Claim7 := { stood := { row := lexerScansRow, standIns := [], harness := (true, "86bde16c19baa93d40c012925fa82eaaf23ed3cd82b2fac8c0093be876e77aa6"), looks := false }, kinds := [], alts := [], laidByText := true, laidKinds := [.data, .pinned], laidTests := true, laidLooks := .later }
def LexerScansCardSaid : Prop := Claim7.holds Tryd.pinned (.plain (OpenSpec.ofChange lexerScansSpec)) lexerScansCard

/-- THE TIED CARD OF 'cochineallaw06.LexerBlanks'. -/
def lexerBlanksCard : Claim7 := { stood := { row := lexerBlanksRow, standIns := [], harness := (true, "86bde16c19baa93d40c012925fa82eaaf23ed3cd82b2fac8c0093be876e77aa6"), looks := false }, kinds := [], alts := [], laidByText := true, laidKinds := [.data, .pinned], laidTests := true, laidLooks := .later }
def LexerBlanksCardSaid : Prop := Claim7.holds Tryd.pinned (.plain (OpenSpec.ofChange lexerBlanksSpec)) lexerBlanksCard

/-- THE TIED CARD OF 'cochineallaw06.LexerPlaces'. -/
def lexerPlacesCard : Claim7 := { stood := { row := lexerPlacesRow, standIns := [], harness := (true, "86bde16c19baa93d40c012925fa82eaaf23ed3cd82b2fac8c0093be876e77aa6"), looks := false }, kinds := [], alts := [], laidByText := true, laidKinds := [.data, .pinned], laidTests := true, laidLooks := .later }
def LexerPlacesCardSaid : Prop := Claim7.holds Tryd.pinned (.plain (OpenSpec.ofChange lexerPlacesSpec)) lexerPlacesCard

/-- THE TIED CARD OF 'cochineallaw06.LexerTexts'. -/
def lexerTextsCard : Claim7 := { stood := { row := lexerTextsRow, standIns := [], harness := (true, "86bde16c19baa93d40c012925fa82eaaf23ed3cd82b2fac8c0093be876e77aa6"), looks := false }, kinds := [], alts := [], laidByText := true, laidKinds := [.data, .pinned], laidTests := true, laidLooks := .later }
def LexerTextsCardSaid : Prop := Claim7.holds Tryd.pinned (.plain (OpenSpec.ofChange lexerTextsSpec)) lexerTextsCard

/-- THE TIED CARD OF 'cochineallaw07.PolicyOne'. -/
def policyOneCard : Claim7 := { stood := { row := policyOneRow, standIns := [], harness := (true, "86bde16c19baa93d40c012925fa82eaaf23ed3cd82b2fac8c0093be876e77aa6"), looks := false }, kinds := [], alts := [], laidByText := true, laidKinds := [.data, .pinned], laidTests := true, laidLooks := .later }
def PolicyOneCardSaid : Prop := Claim7.holds Tryd.pinned (.plain (OpenSpec.ofChange policyOneSpec)) policyOneCard

/-- THE TIED CARD OF 'cochineallaw07.PolicyBack'. -/
def policyBackCard : Claim7 := { stood := { row := policyBackRow, standIns := [], harness := (true, "86bde16c19baa93d40c012925fa82eaaf23ed3cd82b2fac8c0093be876e77aa6"), looks := false }, kinds := [], alts := [], laidByText := true, laidKinds := [.data, .pinned], laidTests := true, laidLooks := .later }
def PolicyBackCardSaid : Prop := Claim7.holds Tryd.pinned (.plain (OpenSpec.ofChange policyBackSpec)) policyBackCard

/-- THE TIED CARD OF 'cochineallaw07.PolicyMay'. -/
def policyMayCard : Claim7 := { stood := { row := policyMayRow, standIns := [], harness := (true, "86bde16c19baa93d40c012925fa82eaaf23ed3cd82b2fac8c0093be876e77aa6"), looks := false }, kinds := [], alts := [], laidByText := true, laidKinds := [.data, .pinned], laidTests := true, laidLooks := .later }
def PolicyMayCardSaid : Prop := Claim7.holds Tryd.pinned (.plain (OpenSpec.ofChange policyMaySpec)) policyMayCard

/-- THE TIED CARD OF 'cochineallaw07.PolicyLines'. -/
def policyLinesCard : Claim7 := { stood := { row := policyLinesRow, standIns := [], harness := (true, "86bde16c19baa93d40c012925fa82eaaf23ed3cd82b2fac8c0093be876e77aa6"), looks := false }, kinds := [], alts := [], laidByText := true, laidKinds := [.data, .pinned], laidTests := true, laidLooks := .later }
def PolicyLinesCardSaid : Prop := Claim7.holds Tryd.pinned (.plain (OpenSpec.ofChange policyLinesSpec)) policyLinesCard

/-- THE SECOND FORM's CARD OF 'cochineallaw06.LexerScans'. -/
def lexerScansUptoCard : Claim7 := { stood := { row := lexerScansUptoRow, standIns := [], harness := (true, "86bde16c19baa93d40c012925fa82eaaf23ed3cd82b2fac8c0093be876e77aa6"), looks := false }, kinds := [], alts := [], laidByText := true, laidKinds := [.data, .pinned], laidTests := true, laidLooks := .later }
def LexerScansUptoCardSaid : Prop := Claim7.holds Tryd.pinned (.plain (OpenSpec.upto lexerScansSpec)) lexerScansUptoCard

/-- THE SECOND FORM's CARD OF 'cochineallaw06.LexerBlanks'. -/
def lexerBlanksUptoCard : Claim7 := { stood := { row := lexerBlanksUptoRow, standIns := [], harness := (true, "86bde16c19baa93d40c012925fa82eaaf23ed3cd82b2fac8c0093be876e77aa6"), looks := false }, kinds := [], alts := [], laidByText := true, laidKinds := [.data, .pinned], laidTests := true, laidLooks := .later }
def LexerBlanksUptoCardSaid : Prop := Claim7.holds Tryd.pinned (.plain (OpenSpec.upto lexerBlanksSpec)) lexerBlanksUptoCard

/-- THE SECOND FORM's CARD OF 'cochineallaw06.LexerPlaces'. -/
def lexerPlacesUptoCard : Claim7 := { stood := { row := lexerPlacesUptoRow, standIns := [], harness := (true, "86bde16c19baa93d40c012925fa82eaaf23ed3cd82b2fac8c0093be876e77aa6"), looks := false }, kinds := [], alts := [], laidByText := true, laidKinds := [.data, .pinned], laidTests := true, laidLooks := .later }
def LexerPlacesUptoCardSaid : Prop := Claim7.holds Tryd.pinned (.plain (OpenSpec.upto lexerPlacesSpec)) lexerPlacesUptoCard

/-- THE SECOND FORM's CARD OF 'cochineallaw06.LexerTexts'. -/
def lexerTextsUptoCard : Claim7 := { stood := { row := lexerTextsUptoRow, standIns := [], harness := (true, "86bde16c19baa93d40c012925fa82eaaf23ed3cd82b2fac8c0093be876e77aa6"), looks := false }, kinds := [], alts := [], laidByText := true, laidKinds := [.data, .pinned], laidTests := true, laidLooks := .later }
def LexerTextsUptoCardSaid : Prop := Claim7.holds Tryd.pinned (.plain (OpenSpec.upto lexerTextsSpec)) lexerTextsUptoCard

/-- THE SECOND FORM's CARD OF 'cochineallaw07.PolicyOne'. -/
def policyOneUptoCard : Claim7 := { stood := { row := policyOneUptoRow, standIns := [], harness := (true, "86bde16c19baa93d40c012925fa82eaaf23ed3cd82b2fac8c0093be876e77aa6"), looks := false }, kinds := [], alts := [], laidByText := true, laidKinds := [.data, .pinned], laidTests := true, laidLooks := .later }
def PolicyOneUptoCardSaid : Prop := Claim7.holds Tryd.pinned (.plain (OpenSpec.upto policyOneSpec)) policyOneUptoCard

/-- THE SECOND FORM's CARD OF 'cochineallaw07.PolicyBack'. -/
def policyBackUptoCard : Claim7 := { stood := { row := policyBackUptoRow, standIns := [], harness := (true, "86bde16c19baa93d40c012925fa82eaaf23ed3cd82b2fac8c0093be876e77aa6"), looks := false }, kinds := [], alts := [], laidByText := true, laidKinds := [.data, .pinned], laidTests := true, laidLooks := .later }
def PolicyBackUptoCardSaid : Prop := Claim7.holds Tryd.pinned (.plain (OpenSpec.upto policyBackSpec)) policyBackUptoCard

/-- THE SECOND FORM's CARD OF 'cochineallaw07.PolicyMay'. -/
def policyMayUptoCard : Claim7 := { stood := { row := policyMayUptoRow, standIns := [], harness := (true, "86bde16c19baa93d40c012925fa82eaaf23ed3cd82b2fac8c0093be876e77aa6"), looks := false }, kinds := [], alts := [], laidByText := true, laidKinds := [.data, .pinned], laidTests := true, laidLooks := .later }
def PolicyMayUptoCardSaid : Prop := Claim7.holds Tryd.pinned (.plain (OpenSpec.upto policyMaySpec)) policyMayUptoCard

/-- THE SECOND FORM's CARD OF 'cochineallaw07.PolicyLines'. -/
def policyLinesUptoCard : Claim7 := { stood := { row := policyLinesUptoRow, standIns := [], harness := (true, "86bde16c19baa93d40c012925fa82eaaf23ed3cd82b2fac8c0093be876e77aa6"), looks := false }, kinds := [], alts := [], laidByText := true, laidKinds := [.data, .pinned], laidTests := true, laidLooks := .later }
def PolicyLinesUptoCardSaid : Prop := Claim7.holds Tryd.pinned (.plain (OpenSpec.upto policyLinesSpec)) policyLinesUptoCard
end Rows
end Go.Proofs.YtlhhpbpoioaagaaDoor

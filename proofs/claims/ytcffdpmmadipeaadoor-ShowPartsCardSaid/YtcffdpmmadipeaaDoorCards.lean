/-
  DERIVED. GIVEN WITH THE SEED: THE CARDS: each row of YtcffdpmmadipeaaDoorRows.lean that lists a variable, with what it lists TIED to the program's text (the seventh form; the later family's looks); each row that meets fmt, with fmt's text TOLD by the authors' own Lean function (tested against real Go, not proved from fmt's source: count such statements apart). THE CARD IS WHAT COUNTS. Prove the row's statement (the work); the ties are given (YtcffdpmmadipeaaDoorTie.lean); close each card by the builder's one call (the guide's Derived/Test/ToyasCard.lean, 'card_holds'). Laid BY PROGRAM, IN A SANDBOX (cutbox-door.mjs). By AI agents, Wed Nov 11 2026. No macro, syntax, notation, axiom, sorry.
-/
import Derived.Test.YtcffdpmmadipeaaDoorRows
import GoSem.ClaimSeven
namespace Go.Proofs.YtcffdpmmadipeaaDoor
namespace Rows

/-- THE TIED CARD OF 'weirgatelaw10.ShowBack'. -/
def showBackCard : Claim7 := { stood := { row := showBackRow, standIns := [], harness := (true, "d9db36a1a2fb3f620f4bbc409713c8e5579d8ff23c35a53dd233920b41e45cce"), looks := false }, kinds := [], alts := [], laidByText := true, laidKinds := [.data, .data, .data, .data, .data], laidTests := true, laidLooks := .later }
def ShowBackCardSaid : Prop := Claim7.holds Tryd.pinned (.plain (OpenSpec.ofChange showBackSpec)) showBackCard

/-- THE TIED CARD OF 'weirgatelaw10.ShowFixed'. -/
def showFixedCard : Claim7 := { stood := { row := showFixedRow, standIns := [], harness := (true, "d9db36a1a2fb3f620f4bbc409713c8e5579d8ff23c35a53dd233920b41e45cce"), looks := false }, kinds := [], alts := [], laidByText := true, laidKinds := [.data, .data, .data, .data, .data], laidTests := true, laidLooks := .later }
def ShowFixedCardSaid : Prop := Claim7.holds Tryd.pinned (.plain (OpenSpec.ofChange showFixedSpec)) showFixedCard

/-- THE TIED CARD OF 'weirgatelaw10.ShowParts'. -/
def showPartsCard : Claim7 := { stood := { row := showPartsRow, standIns := [], harness := (true, "d9db36a1a2fb3f620f4bbc409713c8e5579d8ff23c35a53dd233920b41e45cce"), looks := false }, kinds := [], alts := [], laidByText := true, laidKinds := [.data, .data, .data, .data, .data], laidTests := true, laidLooks := .later }
def ShowPartsCardSaid : Prop := Claim7.holds Tryd.pinned (.plain (OpenSpec.ofChange showPartsSpec)) showPartsCard

/-- THE TIED CARD OF 'weirgatelaw10.ShowLines'. -/
def showLinesCard : Claim7 := { stood := { row := showLinesRow, standIns := [], harness := (true, "d9db36a1a2fb3f620f4bbc409713c8e5579d8ff23c35a53dd233920b41e45cce"), looks := false }, kinds := [], alts := [], laidByText := true, laidKinds := [.data, .data, .data, .data, .data], laidTests := true, laidLooks := .later }
def ShowLinesCardSaid : Prop := Claim7.holds Tryd.pinned (.plain (OpenSpec.ofChange showLinesSpec)) showLinesCard

/-- THE SECOND FORM's CARD OF 'weirgatelaw10.ShowBack'. -/
def showBackUptoCard : Claim7 := { stood := { row := showBackUptoRow, standIns := [], harness := (true, "d9db36a1a2fb3f620f4bbc409713c8e5579d8ff23c35a53dd233920b41e45cce"), looks := false }, kinds := [], alts := [], laidByText := true, laidKinds := [.data, .data, .data, .data, .data], laidTests := true, laidLooks := .later }
def ShowBackUptoCardSaid : Prop := Claim7.holds Tryd.pinned (.plain (OpenSpec.upto showBackSpec)) showBackUptoCard

/-- THE SECOND FORM's CARD OF 'weirgatelaw10.ShowFixed'. -/
def showFixedUptoCard : Claim7 := { stood := { row := showFixedUptoRow, standIns := [], harness := (true, "d9db36a1a2fb3f620f4bbc409713c8e5579d8ff23c35a53dd233920b41e45cce"), looks := false }, kinds := [], alts := [], laidByText := true, laidKinds := [.data, .data, .data, .data, .data], laidTests := true, laidLooks := .later }
def ShowFixedUptoCardSaid : Prop := Claim7.holds Tryd.pinned (.plain (OpenSpec.upto showFixedSpec)) showFixedUptoCard

/-- THE SECOND FORM's CARD OF 'weirgatelaw10.ShowParts'. -/
def showPartsUptoCard : Claim7 := { stood := { row := showPartsUptoRow, standIns := [], harness := (true, "d9db36a1a2fb3f620f4bbc409713c8e5579d8ff23c35a53dd233920b41e45cce"), looks := false }, kinds := [], alts := [], laidByText := true, laidKinds := [.data, .data, .data, .data, .data], laidTests := true, laidLooks := .later }
def ShowPartsUptoCardSaid : Prop := Claim7.holds Tryd.pinned (.plain (OpenSpec.upto showPartsSpec)) showPartsUptoCard

/-- THE SECOND FORM's CARD OF 'weirgatelaw10.ShowLines'. -/
def showLinesUptoCard : Claim7 := { stood := { row := showLinesUptoRow, standIns := [], harness := (true, "d9db36a1a2fb3f620f4bbc409713c8e5579d8ff23c35a53dd233920b41e45cce"), looks := false }, kinds := [], alts := [], laidByText := true, laidKinds := [.data, .data, .data, .data, .data], laidTests := true, laidLooks := .later }
def ShowLinesUptoCardSaid : Prop := Claim7.holds Tryd.pinned (.plain (OpenSpec.upto showLinesSpec)) showLinesUptoCard
end Rows
end Go.Proofs.YtcffdpmmadipeaaDoor

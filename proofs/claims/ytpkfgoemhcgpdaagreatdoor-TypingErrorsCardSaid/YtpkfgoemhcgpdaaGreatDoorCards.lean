/-
  DERIVED. GIVEN WITH THE SEED: THE CARDS: each row of YtpkfgoemhcgpdaaGreatDoorRows.lean that lists a variable, with what it lists TIED to the program's text (the seventh form; the later family's looks); each row that meets fmt, with fmt's text TOLD by the authors' own Lean function (tested against real Go, not proved from fmt's source: count such statements apart). THE CARD IS WHAT COUNTS. Prove the row's statement (the work); the ties are given (YtpkfgoemhcgpdaaGreatDoorTie.lean); close each card by the builder's one call (the guide's Derived/Test/ToyasCard.lean, 'card_holds'). Laid BY PROGRAM, IN A SANDBOX (cutbox-door.mjs). By AI agents, Wed Nov 11 2026. No macro, syntax, notation, axiom, sorry.
-/
import Derived.Test.YtpkfgoemhcgpdaaGreatDoorRows
import GoSem.ClaimSeven
namespace Go.Proofs.YtpkfgoemhcgpdaaGreatDoor
namespace Rows

/-- THE TIED CARD OF 'weirgatelaw12.TypingErrors'. -/
def typingErrorsCard : Claim7 := { stood := { row := typingErrorsRow, standIns := [], harness := (true, "1fc9c0bca1d7bce973e6b5399a8d54263ada1b203361fd871eebbd740890326a"), looks := true }, kinds := [], alts := [], laidByText := true, laidKinds := [.data, .data, .data, .handle], laidTests := true, laidLooks := .later }
def TypingErrorsCardSaid : Prop := Claim7.holds Tryz.pinned (.plain (OpenSpec.ofChange typingErrorsSpec)) typingErrorsCard

/-- THE SECOND FORM's CARD OF 'weirgatelaw12.TypingErrors'. -/
def typingErrorsUptoCard : Claim7 := { stood := { row := typingErrorsUptoRow, standIns := [], harness := (true, "1fc9c0bca1d7bce973e6b5399a8d54263ada1b203361fd871eebbd740890326a"), looks := true }, kinds := [], alts := [], laidByText := true, laidKinds := [.data, .data, .data, .handle], laidTests := true, laidLooks := .later }
def TypingErrorsUptoCardSaid : Prop := Claim7.holds Tryz.pinned (.plain (OpenSpec.upto typingErrorsSpec)) typingErrorsUptoCard
end Rows
end Go.Proofs.YtpkfgoemhcgpdaaGreatDoor

/-
  DERIVED. GIVEN WITH THE SEED: THE CARDS: each row of YtcffdpmmadipeaaGreatDoorRows.lean that lists a variable, with what it lists TIED to the program's text (the seventh form; the later family's looks); each row that meets fmt, with fmt's text TOLD by the authors' own Lean function (tested against real Go, not proved from fmt's source: count such statements apart). THE CARD IS WHAT COUNTS. Prove the row's statement (the work); the ties are given (YtcffdpmmadipeaaGreatDoorTie.lean); close each card by the builder's one call (the guide's Derived/Test/ToyasCard.lean, 'card_holds'). Laid BY PROGRAM, IN A SANDBOX (cutbox-door.mjs). By AI agents, Wed Nov 11 2026. No macro, syntax, notation, axiom, sorry.
-/
import Derived.Test.YtcffdpmmadipeaaGreatDoorRows
import GoSem.ClaimSeven
namespace Go.Proofs.YtcffdpmmadipeaaGreatDoor
namespace Rows

/-- THE TIED CARD OF 'weirgatelaw10.ShowTrees'. -/
def showTreesCard : Claim7 := { stood := { row := showTreesRow, standIns := [], harness := (true, "795d7db8dbe88b711fc94532368c23c3864c95c45237af21477f9f8c5dfbd8d6"), looks := false }, kinds := [], alts := [], laidByText := true, laidKinds := [.data, .data, .data, .data, .data], laidTests := true, laidLooks := .later }
def ShowTreesCardSaid : Prop := Claim7.holds Tryz.pinned (.plain (OpenSpec.ofChange showTreesSpec)) showTreesCard

/-- THE TIED CARD OF 'weirgatelaw10.ShowExprs'. -/
def showExprsCard : Claim7 := { stood := { row := showExprsRow, standIns := [], harness := (true, "795d7db8dbe88b711fc94532368c23c3864c95c45237af21477f9f8c5dfbd8d6"), looks := false }, kinds := [], alts := [], laidByText := true, laidKinds := [.data, .data, .data, .data, .data], laidTests := true, laidLooks := .later }
def ShowExprsCardSaid : Prop := Claim7.holds Tryz.pinned (.plain (OpenSpec.ofChange showExprsSpec)) showExprsCard

/-- THE SECOND FORM's CARD OF 'weirgatelaw10.ShowTrees'. -/
def showTreesUptoCard : Claim7 := { stood := { row := showTreesUptoRow, standIns := [], harness := (true, "795d7db8dbe88b711fc94532368c23c3864c95c45237af21477f9f8c5dfbd8d6"), looks := false }, kinds := [], alts := [], laidByText := true, laidKinds := [.data, .data, .data, .data, .data], laidTests := true, laidLooks := .later }
def ShowTreesUptoCardSaid : Prop := Claim7.holds Tryz.pinned (.plain (OpenSpec.upto showTreesSpec)) showTreesUptoCard

/-- THE SECOND FORM's CARD OF 'weirgatelaw10.ShowExprs'. -/
def showExprsUptoCard : Claim7 := { stood := { row := showExprsUptoRow, standIns := [], harness := (true, "795d7db8dbe88b711fc94532368c23c3864c95c45237af21477f9f8c5dfbd8d6"), looks := false }, kinds := [], alts := [], laidByText := true, laidKinds := [.data, .data, .data, .data, .data], laidTests := true, laidLooks := .later }
def ShowExprsUptoCardSaid : Prop := Claim7.holds Tryz.pinned (.plain (OpenSpec.upto showExprsSpec)) showExprsUptoCard
end Rows
end Go.Proofs.YtcffdpmmadipeaaGreatDoor

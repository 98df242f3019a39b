/-
  DERIVED. GIVEN WITH THE SEED: THE CARDS: each row of YtibeinbfhhoeiaaGreatDoorRows.lean that lists a variable, with what it lists TIED to the program's text (the seventh form; the later family's looks); each row that meets fmt, with fmt's text TOLD by the authors' own Lean function (tested against real Go, not proved from fmt's source: count such statements apart). THE CARD IS WHAT COUNTS. Prove the row's statement (the work); the ties are given (YtibeinbfhhoeiaaGreatDoorTie.lean); close each card by the builder's one call (the guide's Derived/Test/ToyasCard.lean, 'card_holds'). Laid BY PROGRAM, IN A SANDBOX (cutbox-door.mjs). By AI agents, Wed Nov 11 2026. No macro, syntax, notation, axiom, sorry.
-/
import Derived.Test.YtibeinbfhhoeiaaGreatDoorRows
import GoSem.ClaimSeven
namespace Go.Proofs.YtibeinbfhhoeiaaGreatDoor
namespace Rows

/-- THE TIED CARD OF 'topiaristlaw19.SizeTells'. -/
def sizeTellsCard : Claim7 := { stood := { row := sizeTellsRow, standIns := [], harness := (true, "f47f72a20f206356a33ae68f03caa7ddc2c8d991cf4e2ad4e638c292458b9202"), looks := true }, kinds := [], alts := [], laidByText := true, laidKinds := [.data, .data, .data], laidTests := true, laidLooks := .later }
def SizeTellsCardSaid : Prop := Claim7.holds Tryz.pinned (.plain (OpenSpec.ofChange sizeTellsSpec)) sizeTellsCard

/-- THE TIED CARD OF 'topiaristlaw19.SizeAdds'. -/
def sizeAddsCard : Claim7 := { stood := { row := sizeAddsRow, standIns := [], harness := (true, "f47f72a20f206356a33ae68f03caa7ddc2c8d991cf4e2ad4e638c292458b9202"), looks := true }, kinds := [], alts := [], laidByText := true, laidKinds := [.data, .data, .data], laidTests := true, laidLooks := .later }
def SizeAddsCardSaid : Prop := Claim7.holds Tryz.pinned (.plain (OpenSpec.ofChange sizeAddsSpec)) sizeAddsCard

/-- THE TIED CARD OF 'topiaristlaw19.SizeText'. -/
def sizeTextCard : Claim7 := { stood := { row := sizeTextRow, standIns := [], harness := (true, "f47f72a20f206356a33ae68f03caa7ddc2c8d991cf4e2ad4e638c292458b9202"), looks := true }, kinds := [], alts := [], laidByText := true, laidKinds := [.data, .data, .data], laidTests := true, laidLooks := .later }
def SizeTextCardSaid : Prop := Claim7.holds Tryz.pinned (.plain (OpenSpec.ofChange sizeTextSpec)) sizeTextCard

/-- THE SECOND FORM's CARD OF 'topiaristlaw19.SizeTells'. -/
def sizeTellsUptoCard : Claim7 := { stood := { row := sizeTellsUptoRow, standIns := [], harness := (true, "f47f72a20f206356a33ae68f03caa7ddc2c8d991cf4e2ad4e638c292458b9202"), looks := true }, kinds := [], alts := [], laidByText := true, laidKinds := [.data, .data, .data], laidTests := true, laidLooks := .later }
def SizeTellsUptoCardSaid : Prop := Claim7.holds Tryz.pinned (.plain (OpenSpec.upto sizeTellsSpec)) sizeTellsUptoCard

/-- THE SECOND FORM's CARD OF 'topiaristlaw19.SizeAdds'. -/
def sizeAddsUptoCard : Claim7 := { stood := { row := sizeAddsUptoRow, standIns := [], harness := (true, "f47f72a20f206356a33ae68f03caa7ddc2c8d991cf4e2ad4e638c292458b9202"), looks := true }, kinds := [], alts := [], laidByText := true, laidKinds := [.data, .data, .data], laidTests := true, laidLooks := .later }
def SizeAddsUptoCardSaid : Prop := Claim7.holds Tryz.pinned (.plain (OpenSpec.upto sizeAddsSpec)) sizeAddsUptoCard

/-- THE SECOND FORM's CARD OF 'topiaristlaw19.SizeText'. -/
def sizeTextUptoCard : Claim7 := { stood := { row := sizeTextUptoRow, standIns := [], harness := (true, "f47f72a20f206356a33ae68f03caa7ddc2c8d991cf4e2ad4e638c292458b9202"), looks := true }, kinds := [], alts := [], laidByText := true, laidKinds := [.data, .data, .data], laidTests := true, laidLooks := .later }
def SizeTextUptoCardSaid : Prop := Claim7.holds Tryz.pinned (.plain (OpenSpec.upto sizeTextSpec)) sizeTextUptoCard
end Rows
end Go.Proofs.YtibeinbfhhoeiaaGreatDoor

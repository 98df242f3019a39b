/-
  DERIVED. GIVEN WITH THE SEED: THE CARDS: each row of YtmlgmgjakhbhjaaGreatDoorRows.lean that lists a variable, with what it lists TIED to the program's text (the seventh form; the later family's looks); each row that meets fmt, with fmt's text TOLD by the authors' own Lean function (tested against real Go, not proved from fmt's source: count such statements apart). THE CARD IS WHAT COUNTS. Prove the row's statement (the work); the ties are given (YtmlgmgjakhbhjaaGreatDoorTie.lean); close each card by the builder's one call (the guide's Derived/Test/ToyasCard.lean, 'card_holds'). Laid BY PROGRAM, IN A SANDBOX (cutbox-door.mjs). By AI agents, Wed Nov 11 2026. No macro, syntax, notation, axiom, sorry.
-/
import Derived.Test.YtmlgmgjakhbhjaaGreatDoorRows
import GoSem.ClaimSeven
namespace Go.Proofs.YtmlgmgjakhbhjaaGreatDoor
namespace Rows

/-- THE TIED CARD OF 'topiaristlaw15.SubsetTells'. -/
def subsetTellsCard : Claim7 := { stood := { row := subsetTellsRow, standIns := [], harness := (true, "743c977ebf8dea13fb66c4bbce6d5def2bf6c007da1541c51dc92005c9dc02c1"), looks := true }, kinds := [], alts := [], laidByText := true, laidKinds := [.data, .data, .data], laidTests := true, laidLooks := .later }
def SubsetTellsCardSaid : Prop := Claim7.holds Tryz.pinned (.plain (OpenSpec.ofChange subsetTellsSpec)) subsetTellsCard

/-- THE TIED CARD OF 'topiaristlaw15.SubsetWalks'. -/
def subsetWalksCard : Claim7 := { stood := { row := subsetWalksRow, standIns := [], harness := (true, "743c977ebf8dea13fb66c4bbce6d5def2bf6c007da1541c51dc92005c9dc02c1"), looks := true }, kinds := [], alts := [], laidByText := true, laidKinds := [.data, .data, .data], laidTests := true, laidLooks := .later }
def SubsetWalksCardSaid : Prop := Claim7.holds Tryz.pinned (.plain (OpenSpec.ofChange subsetWalksSpec)) subsetWalksCard

/-- THE TIED CARD OF 'topiaristlaw15.SubsetCaps'. -/
def subsetCapsCard : Claim7 := { stood := { row := subsetCapsRow, standIns := [], harness := (true, "743c977ebf8dea13fb66c4bbce6d5def2bf6c007da1541c51dc92005c9dc02c1"), looks := true }, kinds := [], alts := [], laidByText := true, laidKinds := [.data, .data, .data], laidTests := true, laidLooks := .later }
def SubsetCapsCardSaid : Prop := Claim7.holds Tryz.pinned (.plain (OpenSpec.ofChange subsetCapsSpec)) subsetCapsCard

/-- THE TIED CARD OF 'topiaristlaw15.SubsetOne'. -/
def subsetOneCard : Claim7 := { stood := { row := subsetOneRow, standIns := [], harness := (true, "743c977ebf8dea13fb66c4bbce6d5def2bf6c007da1541c51dc92005c9dc02c1"), looks := true }, kinds := [], alts := [], laidByText := true, laidKinds := [.data, .data, .data], laidTests := true, laidLooks := .later }
def SubsetOneCardSaid : Prop := Claim7.holds Tryz.pinned (.plain (OpenSpec.ofChange subsetOneSpec)) subsetOneCard

/-- THE SECOND FORM's CARD OF 'topiaristlaw15.SubsetTells'. -/
def subsetTellsUptoCard : Claim7 := { stood := { row := subsetTellsUptoRow, standIns := [], harness := (true, "743c977ebf8dea13fb66c4bbce6d5def2bf6c007da1541c51dc92005c9dc02c1"), looks := true }, kinds := [], alts := [], laidByText := true, laidKinds := [.data, .data, .data], laidTests := true, laidLooks := .later }
def SubsetTellsUptoCardSaid : Prop := Claim7.holds Tryz.pinned (.plain (OpenSpec.upto subsetTellsSpec)) subsetTellsUptoCard

/-- THE SECOND FORM's CARD OF 'topiaristlaw15.SubsetWalks'. -/
def subsetWalksUptoCard : Claim7 := { stood := { row := subsetWalksUptoRow, standIns := [], harness := (true, "743c977ebf8dea13fb66c4bbce6d5def2bf6c007da1541c51dc92005c9dc02c1"), looks := true }, kinds := [], alts := [], laidByText := true, laidKinds := [.data, .data, .data], laidTests := true, laidLooks := .later }
def SubsetWalksUptoCardSaid : Prop := Claim7.holds Tryz.pinned (.plain (OpenSpec.upto subsetWalksSpec)) subsetWalksUptoCard

/-- THE SECOND FORM's CARD OF 'topiaristlaw15.SubsetCaps'. -/
def subsetCapsUptoCard : Claim7 := { stood := { row := subsetCapsUptoRow, standIns := [], harness := (true, "743c977ebf8dea13fb66c4bbce6d5def2bf6c007da1541c51dc92005c9dc02c1"), looks := true }, kinds := [], alts := [], laidByText := true, laidKinds := [.data, .data, .data], laidTests := true, laidLooks := .later }
def SubsetCapsUptoCardSaid : Prop := Claim7.holds Tryz.pinned (.plain (OpenSpec.upto subsetCapsSpec)) subsetCapsUptoCard

/-- THE SECOND FORM's CARD OF 'topiaristlaw15.SubsetOne'. -/
def subsetOneUptoCard : Claim7 := { stood := { row := subsetOneUptoRow, standIns := [], harness := (true, "743c977ebf8dea13fb66c4bbce6d5def2bf6c007da1541c51dc92005c9dc02c1"), looks := true }, kinds := [], alts := [], laidByText := true, laidKinds := [.data, .data, .data], laidTests := true, laidLooks := .later }
def SubsetOneUptoCardSaid : Prop := Claim7.holds Tryz.pinned (.plain (OpenSpec.upto subsetOneSpec)) subsetOneUptoCard
end Rows
end Go.Proofs.YtmlgmgjakhbhjaaGreatDoor

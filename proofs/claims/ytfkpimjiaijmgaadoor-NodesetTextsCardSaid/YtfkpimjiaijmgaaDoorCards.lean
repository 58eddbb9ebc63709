/-
  DERIVED. GIVEN WITH THE SEED: THE CARDS: each row of YtfkpimjiaijmgaaDoorRows.lean that lists a variable, with what it lists TIED to the program's text (the seventh form; the later family's looks); each row that meets fmt, with fmt's text TOLD by the authors' own Lean function (tested against real Go, not proved from fmt's source: count such statements apart). THE CARD IS WHAT COUNTS. Prove the row's statement (the work); the ties are given (YtfkpimjiaijmgaaDoorTie.lean); close each card by the builder's one call (the guide's Derived/Test/ToyasCard.lean, 'card_holds'). Laid BY PROGRAM, IN A SANDBOX (cutbox-door.mjs). By AI agents, Wed Nov 11 2026. No macro, syntax, notation, axiom, sorry.
-/
import Derived.Test.YtfkpimjiaijmgaaDoorRows
import GoSem.ClaimSeven
namespace Go.Proofs.YtfkpimjiaijmgaaDoor
namespace Rows

/-- THE TIED CARD OF 'trustquorumlaw01.NodesetNext'. -/
def nodesetNextCard : Claim7 := { stood := { row := nodesetNextRow, standIns := [], harness := (true, "e8da6328cacec61c5287b810aaa4802ec8fe0ed63228956437a4b3d0edbd7f4d"), looks := false }, kinds := [], alts := [], laidByText := true, laidKinds := [.data, .data, .data], laidTests := true, laidLooks := .later }
def NodesetNextCardSaid : Prop := Claim7.holds Tryd.pinned (.plain (OpenSpec.ofChange nodesetNextSpec)) nodesetNextCard

/-- THE TIED CARD OF 'trustquorumlaw01.NodesetLeast'. -/
def nodesetLeastCard : Claim7 := { stood := { row := nodesetLeastRow, standIns := [], harness := (true, "e8da6328cacec61c5287b810aaa4802ec8fe0ed63228956437a4b3d0edbd7f4d"), looks := false }, kinds := [], alts := [], laidByText := true, laidKinds := [.data, .data, .data], laidTests := true, laidLooks := .later }
def NodesetLeastCardSaid : Prop := Claim7.holds Tryd.pinned (.plain (OpenSpec.ofChange nodesetLeastSpec)) nodesetLeastCard

/-- THE TIED CARD OF 'trustquorumlaw01.NodesetMeets'. -/
def nodesetMeetsCard : Claim7 := { stood := { row := nodesetMeetsRow, standIns := [], harness := (true, "e8da6328cacec61c5287b810aaa4802ec8fe0ed63228956437a4b3d0edbd7f4d"), looks := false }, kinds := [], alts := [], laidByText := true, laidKinds := [.data, .data, .data], laidTests := true, laidLooks := .later }
def NodesetMeetsCardSaid : Prop := Claim7.holds Tryd.pinned (.plain (OpenSpec.ofChange nodesetMeetsSpec)) nodesetMeetsCard

/-- THE TIED CARD OF 'trustquorumlaw01.NodesetSubsets'. -/
def nodesetSubsetsCard : Claim7 := { stood := { row := nodesetSubsetsRow, standIns := [], harness := (true, "e8da6328cacec61c5287b810aaa4802ec8fe0ed63228956437a4b3d0edbd7f4d"), looks := false }, kinds := [], alts := [], laidByText := true, laidKinds := [.data, .data, .data], laidTests := true, laidLooks := .later }
def NodesetSubsetsCardSaid : Prop := Claim7.holds Tryd.pinned (.plain (OpenSpec.ofChange nodesetSubsetsSpec)) nodesetSubsetsCard

/-- THE TIED CARD OF 'trustquorumlaw01.NodesetTexts'. -/
def nodesetTextsCard : Claim7 := { stood := { row := nodesetTextsRow, standIns := [], harness := (true, "e8da6328cacec61c5287b810aaa4802ec8fe0ed63228956437a4b3d0edbd7f4d"), looks := false }, kinds := [], alts := [], laidByText := true, laidKinds := [.data, .data, .data], laidTests := true, laidLooks := .later }
def NodesetTextsCardSaid : Prop := Claim7.holds Tryd.pinned (.plain (OpenSpec.ofChange nodesetTextsSpec)) nodesetTextsCard

/-- THE SECOND FORM's CARD OF 'trustquorumlaw01.NodesetNext'. -/
def nodesetNextUptoCard : Claim7 := { stood := { row := nodesetNextUptoRow, standIns := [], harness := (true, "e8da6328cacec61c5287b810aaa4802ec8fe0ed63228956437a4b3d0edbd7f4d"), looks := false }, kinds := [], alts := [], laidByText := true, laidKinds := [.data, .data, .data], laidTests := true, laidLooks := .later }
def NodesetNextUptoCardSaid : Prop := Claim7.holds Tryd.pinned (.plain (OpenSpec.upto nodesetNextSpec)) nodesetNextUptoCard

/-- THE SECOND FORM's CARD OF 'trustquorumlaw01.NodesetLeast'. -/
def nodesetLeastUptoCard : Claim7 := { stood := { row := nodesetLeastUptoRow, standIns := [], harness := (true, "e8da6328cacec61c5287b810aaa4802ec8fe0ed63228956437a4b3d0edbd7f4d"), looks := false }, kinds := [], alts := [], laidByText := true, laidKinds := [.data, .data, .data], laidTests := true, laidLooks := .later }
def NodesetLeastUptoCardSaid : Prop := Claim7.holds Tryd.pinned (.plain (OpenSpec.upto nodesetLeastSpec)) nodesetLeastUptoCard

/-- THE SECOND FORM's CARD OF 'trustquorumlaw01.NodesetMeets'. -/
def nodesetMeetsUptoCard : Claim7 := { stood := { row := nodesetMeetsUptoRow, standIns := [], harness := (true, "e8da6328cacec61c5287b810aaa4802ec8fe0ed63228956437a4b3d0edbd7f4d"), looks := false }, kinds := [], alts := [], laidByText := true, laidKinds := [.data, .data, .data], laidTests := true, laidLooks := .later }
def NodesetMeetsUptoCardSaid : Prop := Claim7.holds Tryd.pinned (.plain (OpenSpec.upto nodesetMeetsSpec)) nodesetMeetsUptoCard

/-- THE SECOND FORM's CARD OF 'trustquorumlaw01.NodesetSubsets'. -/
def nodesetSubsetsUptoCard : Claim7 := { stood := { row := nodesetSubsetsUptoRow, standIns := [], harness := (true, "e8da6328cacec61c5287b810aaa4802ec8fe0ed63228956437a4b3d0edbd7f4d"), looks := false }, kinds := [], alts := [], laidByText := true, laidKinds := [.data, .data, .data], laidTests := true, laidLooks := .later }
def NodesetSubsetsUptoCardSaid : Prop := Claim7.holds Tryd.pinned (.plain (OpenSpec.upto nodesetSubsetsSpec)) nodesetSubsetsUptoCard

/-- THE SECOND FORM's CARD OF 'trustquorumlaw01.NodesetTexts'. -/
def nodesetTextsUptoCard : Claim7 := { stood := { row := nodesetTextsUptoRow, standIns := [], harness := (true, "e8da6328cacec61c5287b810aaa4802ec8fe0ed63228956437a4b3d0edbd7f4d"), looks := false }, kinds := [], alts := [], laidByText := true, laidKinds := [.data, .data, .data], laidTests := true, laidLooks := .later }
def NodesetTextsUptoCardSaid : Prop := Claim7.holds Tryd.pinned (.plain (OpenSpec.upto nodesetTextsSpec)) nodesetTextsUptoCard
end Rows
end Go.Proofs.YtfkpimjiaijmgaaDoor

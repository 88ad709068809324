/-
  DERIVED. GIVEN WITH THE SEED: THE CARDS: each row of YtmcapemlfplcgaaDoorRows.lean that lists a variable, with what it lists TIED to the program's text (the seventh form; the later family's looks); each row that meets fmt, with fmt's text TOLD by the authors' own Lean function (tested against real Go, not proved from fmt's source: count such statements apart). THE CARD IS WHAT COUNTS. Prove the row's statement (the work); the ties are given (YtmcapemlfplcgaaDoorTie.lean); close each card by the builder's one call (the guide's Derived/Test/ToyasCard.lean, 'card_holds'). Laid BY PROGRAM, IN A SANDBOX (cutbox-door.mjs). By AI agents, Wed Nov 11 2026. No macro, syntax, notation, axiom, sorry.
-/
import Derived.Test.YtmcapemlfplcgaaDoorRows
import GoSem.ClaimSeven
namespace Go.Proofs.YtmcapemlfplcgaaDoor
namespace Rows

/-- THE TIED CARD OF 'saleroomlaw02.SetTwo'. -/
def setTwoCard : Claim7 := { stood := { row := setTwoRow, standIns := [], harness := (true, "a881dde48db108f68d0f494b6102e05d92528c0063153e3c118a1a1e534f97ad"), looks := true }, kinds := [], alts := [], laidByText := true, laidKinds := [.data, .data, .data, .data, .sentinel, .sentinel, .pinned], laidTests := true, laidLooks := .later }
def SetTwoCardSaid : Prop := Claim7.holds Tryd.pinned (.plain (OpenSpec.ofChange setTwoSpec)) setTwoCard

/-- THE TIED CARD OF 'saleroomlaw02.SetTexts'. -/
def setTextsCard : Claim7 := { stood := { row := setTextsRow, standIns := [], harness := (true, "a881dde48db108f68d0f494b6102e05d92528c0063153e3c118a1a1e534f97ad"), looks := true }, kinds := [], alts := [], laidByText := true, laidKinds := [.data, .data, .data, .data, .sentinel, .sentinel, .pinned], laidTests := true, laidLooks := .later }
def SetTextsCardSaid : Prop := Claim7.holds Tryd.pinned (.plain (OpenSpec.ofChange setTextsSpec)) setTextsCard

/-- THE TIED CARD OF 'saleroomlaw02.SetSubsets'. -/
def setSubsetsCard : Claim7 := { stood := { row := setSubsetsRow, standIns := [], harness := (true, "a881dde48db108f68d0f494b6102e05d92528c0063153e3c118a1a1e534f97ad"), looks := true }, kinds := [], alts := [], laidByText := true, laidKinds := [.data, .data, .data, .data, .sentinel, .sentinel, .pinned], laidTests := true, laidLooks := .later }
def SetSubsetsCardSaid : Prop := Claim7.holds Tryd.pinned (.plain (OpenSpec.ofChange setSubsetsSpec)) setSubsetsCard

/-- THE TIED CARD OF 'saleroomlaw02.SetPairs'. -/
def setPairsCard : Claim7 := { stood := { row := setPairsRow, standIns := [], harness := (true, "a881dde48db108f68d0f494b6102e05d92528c0063153e3c118a1a1e534f97ad"), looks := true }, kinds := [], alts := [], laidByText := true, laidKinds := [.data, .data, .data, .data, .sentinel, .sentinel, .pinned], laidTests := true, laidLooks := .later }
def SetPairsCardSaid : Prop := Claim7.holds Tryd.pinned (.plain (OpenSpec.ofChange setPairsSpec)) setPairsCard

/-- THE TIED CARD OF 'saleroomlaw02.SetBack'. -/
def setBackCard : Claim7 := { stood := { row := setBackRow, standIns := [], harness := (true, "a881dde48db108f68d0f494b6102e05d92528c0063153e3c118a1a1e534f97ad"), looks := true }, kinds := [], alts := [], laidByText := true, laidKinds := [.data, .data, .data, .data, .sentinel, .sentinel, .pinned], laidTests := true, laidLooks := .later }
def SetBackCardSaid : Prop := Claim7.holds Tryd.pinned (.plain (OpenSpec.ofChange setBackSpec)) setBackCard

/-- THE TIED CARD OF 'saleroomlaw02.SetOrder'. -/
def setOrderCard : Claim7 := { stood := { row := setOrderRow, standIns := [], harness := (true, "a881dde48db108f68d0f494b6102e05d92528c0063153e3c118a1a1e534f97ad"), looks := true }, kinds := [], alts := [], laidByText := true, laidKinds := [.data, .data, .data, .data, .sentinel, .sentinel, .pinned], laidTests := true, laidLooks := .later }
def SetOrderCardSaid : Prop := Claim7.holds Tryd.pinned (.plain (OpenSpec.ofChange setOrderSpec)) setOrderCard

/-- THE TIED CARD OF 'saleroomlaw02.SetSplits'. -/
def setSplitsCard : Claim7 := { stood := { row := setSplitsRow, standIns := [], harness := (true, "a881dde48db108f68d0f494b6102e05d92528c0063153e3c118a1a1e534f97ad"), looks := true }, kinds := [], alts := [], laidByText := true, laidKinds := [.data, .data, .data, .data, .sentinel, .sentinel, .pinned], laidTests := true, laidLooks := .later }
def SetSplitsCardSaid : Prop := Claim7.holds Tryd.pinned (.plain (OpenSpec.ofChange setSplitsSpec)) setSplitsCard

/-- THE SECOND FORM's CARD OF 'saleroomlaw02.SetTwo'. -/
def setTwoUptoCard : Claim7 := { stood := { row := setTwoUptoRow, standIns := [], harness := (true, "a881dde48db108f68d0f494b6102e05d92528c0063153e3c118a1a1e534f97ad"), looks := true }, kinds := [], alts := [], laidByText := true, laidKinds := [.data, .data, .data, .data, .sentinel, .sentinel, .pinned], laidTests := true, laidLooks := .later }
def SetTwoUptoCardSaid : Prop := Claim7.holds Tryd.pinned (.plain (OpenSpec.upto setTwoSpec)) setTwoUptoCard

/-- THE SECOND FORM's CARD OF 'saleroomlaw02.SetTexts'. -/
def setTextsUptoCard : Claim7 := { stood := { row := setTextsUptoRow, standIns := [], harness := (true, "a881dde48db108f68d0f494b6102e05d92528c0063153e3c118a1a1e534f97ad"), looks := true }, kinds := [], alts := [], laidByText := true, laidKinds := [.data, .data, .data, .data, .sentinel, .sentinel, .pinned], laidTests := true, laidLooks := .later }
def SetTextsUptoCardSaid : Prop := Claim7.holds Tryd.pinned (.plain (OpenSpec.upto setTextsSpec)) setTextsUptoCard

/-- THE SECOND FORM's CARD OF 'saleroomlaw02.SetSubsets'. -/
def setSubsetsUptoCard : Claim7 := { stood := { row := setSubsetsUptoRow, standIns := [], harness := (true, "a881dde48db108f68d0f494b6102e05d92528c0063153e3c118a1a1e534f97ad"), looks := true }, kinds := [], alts := [], laidByText := true, laidKinds := [.data, .data, .data, .data, .sentinel, .sentinel, .pinned], laidTests := true, laidLooks := .later }
def SetSubsetsUptoCardSaid : Prop := Claim7.holds Tryd.pinned (.plain (OpenSpec.upto setSubsetsSpec)) setSubsetsUptoCard

/-- THE SECOND FORM's CARD OF 'saleroomlaw02.SetPairs'. -/
def setPairsUptoCard : Claim7 := { stood := { row := setPairsUptoRow, standIns := [], harness := (true, "a881dde48db108f68d0f494b6102e05d92528c0063153e3c118a1a1e534f97ad"), looks := true }, kinds := [], alts := [], laidByText := true, laidKinds := [.data, .data, .data, .data, .sentinel, .sentinel, .pinned], laidTests := true, laidLooks := .later }
def SetPairsUptoCardSaid : Prop := Claim7.holds Tryd.pinned (.plain (OpenSpec.upto setPairsSpec)) setPairsUptoCard

/-- THE SECOND FORM's CARD OF 'saleroomlaw02.SetBack'. -/
def setBackUptoCard : Claim7 := { stood := { row := setBackUptoRow, standIns := [], harness := (true, "a881dde48db108f68d0f494b6102e05d92528c0063153e3c118a1a1e534f97ad"), looks := true }, kinds := [], alts := [], laidByText := true, laidKinds := [.data, .data, .data, .data, .sentinel, .sentinel, .pinned], laidTests := true, laidLooks := .later }
def SetBackUptoCardSaid : Prop := Claim7.holds Tryd.pinned (.plain (OpenSpec.upto setBackSpec)) setBackUptoCard

/-- THE SECOND FORM's CARD OF 'saleroomlaw02.SetOrder'. -/
def setOrderUptoCard : Claim7 := { stood := { row := setOrderUptoRow, standIns := [], harness := (true, "a881dde48db108f68d0f494b6102e05d92528c0063153e3c118a1a1e534f97ad"), looks := true }, kinds := [], alts := [], laidByText := true, laidKinds := [.data, .data, .data, .data, .sentinel, .sentinel, .pinned], laidTests := true, laidLooks := .later }
def SetOrderUptoCardSaid : Prop := Claim7.holds Tryd.pinned (.plain (OpenSpec.upto setOrderSpec)) setOrderUptoCard

/-- THE SECOND FORM's CARD OF 'saleroomlaw02.SetSplits'. -/
def setSplitsUptoCard : Claim7 := { stood := { row := setSplitsUptoRow, standIns := [], harness := (true, "a881dde48db108f68d0f494b6102e05d92528c0063153e3c118a1a1e534f97ad"), looks := true }, kinds := [], alts := [], laidByText := true, laidKinds := [.data, .data, .data, .data, .sentinel, .sentinel, .pinned], laidTests := true, laidLooks := .later }
def SetSplitsUptoCardSaid : Prop := Claim7.holds Tryd.pinned (.plain (OpenSpec.upto setSplitsSpec)) setSplitsUptoCard
end Rows
end Go.Proofs.YtmcapemlfplcgaaDoor

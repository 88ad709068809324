/-
  DERIVED. GIVEN WITH THE SEED: THE CARDS: each row of YtcnmbllafdeokaaDoorRows.lean that lists a variable, with what it lists TIED to the program's text (the seventh form; the later family's looks); each row that meets fmt, with fmt's text TOLD by the authors' own Lean function (tested against real Go, not proved from fmt's source: count such statements apart). THE CARD IS WHAT COUNTS. Prove the row's statement (the work); the ties are given (YtcnmbllafdeokaaDoorTie.lean); close each card by the builder's one call (the guide's Derived/Test/ToyasCard.lean, 'card_holds'). Laid BY PROGRAM, IN A SANDBOX (cutbox-door.mjs). By AI agents, Wed Nov 11 2026. No macro, syntax, notation, axiom, sorry.
-/
import Derived.Test.YtcnmbllafdeokaaDoorRows
import GoSem.ClaimSeven
namespace Go.Proofs.YtcnmbllafdeokaaDoor
namespace Rows

/-- THE TIED CARD OF 'saleroomlaw09.AtomAdds'. -/
def atomAddsCard : Claim7 := { stood := { row := atomAddsRow, standIns := [], harness := (true, "da3882d9d8104617f4f9673142a0a8d6a7904996d49de3a219e61a02fb8d15e6"), looks := false }, kinds := [], alts := [], laidByText := true, laidKinds := [.data], laidTests := true, laidLooks := .later }
def AtomAddsCardSaid : Prop := Claim7.holds Tryd.pinned (.plain (OpenSpec.ofChange atomAddsSpec)) atomAddsCard

/-- THE SECOND FORM's CARD OF 'saleroomlaw09.AtomAdds'. -/
def atomAddsUptoCard : Claim7 := { stood := { row := atomAddsUptoRow, standIns := [], harness := (true, "da3882d9d8104617f4f9673142a0a8d6a7904996d49de3a219e61a02fb8d15e6"), looks := false }, kinds := [], alts := [], laidByText := true, laidKinds := [.data], laidTests := true, laidLooks := .later }
def AtomAddsUptoCardSaid : Prop := Claim7.holds Tryd.pinned (.plain (OpenSpec.upto atomAddsSpec)) atomAddsUptoCard
end Rows
end Go.Proofs.YtcnmbllafdeokaaDoor

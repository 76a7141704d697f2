/-
  DERIVED. GIVEN WITH THE SEED: THE CARDS: each row of YtnfaajgnecjkiaaDoorRows.lean that lists a variable, with what it lists TIED to the program's text (the seventh form; the later family's looks); each row that meets fmt, with fmt's text TOLD by the authors' own Lean function (tested against real Go, not proved from fmt's source: count such statements apart). THE CARD IS WHAT COUNTS. Prove the row's statement (the work); the ties are given (YtnfaajgnecjkiaaDoorTie.lean); close each card by the builder's one call (the guide's Derived/Test/ToyasCard.lean, 'card_holds'). Laid BY PROGRAM, IN A SANDBOX (cutbox-door.mjs). By AI agents, Wed Nov 11 2026. No macro, syntax, notation, axiom, sorry.
-/
import Derived.Test.YtnfaajgnecjkiaaDoorRows
import GoSem.ClaimSeven
namespace Go.Proofs.YtnfaajgnecjkiaaDoor
namespace Rows

/-- THE TIED CARD OF 'sashlaw10.PrintIs'. -/
def printIsCard : Claim7 := { stood := { row := printIsRow, standIns := [], harness := (true, "d7ea15b2e60cbad9e2f9d8410f35ba1b09a0d5181ae6d7c3d80ef85ed2806145"), looks := false }, kinds := [], alts := [], laidByText := true, laidKinds := [.data, .data, .data], laidTests := true, laidLooks := .later }
def PrintIsCardSaid : Prop := Claim7.holds Tryd.pinned (.plain (OpenSpec.ofChange printIsSpec)) printIsCard

/-- THE SECOND FORM's CARD OF 'sashlaw10.PrintIs'. -/
def printIsUptoCard : Claim7 := { stood := { row := printIsUptoRow, standIns := [], harness := (true, "d7ea15b2e60cbad9e2f9d8410f35ba1b09a0d5181ae6d7c3d80ef85ed2806145"), looks := false }, kinds := [], alts := [], laidByText := true, laidKinds := [.data, .data, .data], laidTests := true, laidLooks := .later }
def PrintIsUptoCardSaid : Prop := Claim7.holds Tryd.pinned (.plain (OpenSpec.upto printIsSpec)) printIsUptoCard
end Rows
end Go.Proofs.YtnfaajgnecjkiaaDoor

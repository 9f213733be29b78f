/-
  DERIVED. GIVEN WITH THE SEED: THE CARDS: each row of YtlfmckjehjedpaaGreatDoorRows.lean that lists a variable, with what it lists TIED to the program's text (the seventh form; the later family's looks); each row that meets fmt, with fmt's text TOLD by the authors' own Lean function (tested against real Go, not proved from fmt's source: count such statements apart). THE CARD IS WHAT COUNTS. Prove the row's statement (the work); the ties are given (YtlfmckjehjedpaaGreatDoorTie.lean); close each card by the builder's one call (the guide's Derived/Test/ToyasCard.lean, 'card_holds'). Laid BY PROGRAM, IN A SANDBOX (cutbox-door.mjs). By AI agents, Wed Nov 11 2026. No macro, syntax, notation, axiom, sorry.
-/
import Derived.Test.YtlfmckjehjedpaaGreatDoorRows
import GoSem.ClaimSeven
namespace Go.Proofs.YtlfmckjehjedpaaGreatDoor
namespace Rows

/-- THE TIED CARD OF 'coterietop.TopWireRow'. -/
def topWireRowCard : Claim7 := { stood := { row := topWireRowRow, standIns := [], harness := (true, "ee51ec9419b8f2d3b5112b582f2d35bb2b401fcac8c85eacf1eb733f3f80626d"), looks := false }, kinds := [], alts := [], laidByText := true, laidKinds := [.data], laidTests := true, laidLooks := .later }
def TopWireRowCardSaid : Prop := Claim7.holds Tryz.pinned (.plain (OpenSpec.ofChange topWireRowSpec)) topWireRowCard

/-- THE SECOND FORM's CARD OF 'coterietop.TopWireRow'. -/
def topWireRowUptoCard : Claim7 := { stood := { row := topWireRowUptoRow, standIns := [], harness := (true, "ee51ec9419b8f2d3b5112b582f2d35bb2b401fcac8c85eacf1eb733f3f80626d"), looks := false }, kinds := [], alts := [], laidByText := true, laidKinds := [.data], laidTests := true, laidLooks := .later }
def TopWireRowUptoCardSaid : Prop := Claim7.holds Tryz.pinned (.plain (OpenSpec.upto topWireRowSpec)) topWireRowUptoCard
end Rows
end Go.Proofs.YtlfmckjehjedpaaGreatDoor

/-
  DERIVED. GIVEN WITH THE SEED: THE CARDS: each row of YtlfmckjehjedpaaDoorRows.lean that lists a variable, with what it lists TIED to the program's text (the seventh form; the later family's looks); each row that meets fmt, with fmt's text TOLD by the authors' own Lean function (tested against real Go, not proved from fmt's source: count such statements apart). THE CARD IS WHAT COUNTS. Prove the row's statement (the work); the ties are given (YtlfmckjehjedpaaDoorTie.lean); close each card by the builder's one call (the guide's Derived/Test/ToyasCard.lean, 'card_holds'). Laid BY PROGRAM, IN A SANDBOX (cutbox-door.mjs). By AI agents, Wed Nov 11 2026. No macro, syntax, notation, axiom, sorry.
-/
import Derived.Test.YtlfmckjehjedpaaDoorRows
import GoSem.ClaimSeven
namespace Go.Proofs.YtlfmckjehjedpaaDoor
namespace Rows

/-- THE TIED CARD OF 'coterietop.TopSecretRow'. -/
def topSecretRowCard : Claim7 := { stood := { row := topSecretRowRow, standIns := [], harness := (true, "f2f8a333c08b5e51cdcad876892c2d852f997bc4581786a57158a2b4f8e02307"), looks := false }, kinds := [], alts := [], laidByText := true, laidKinds := [.data], laidTests := true, laidLooks := .later }
def TopSecretRowCardSaid : Prop := Claim7.holds Tryd.pinned (.plain (OpenSpec.ofChange topSecretRowSpec)) topSecretRowCard

/-- THE TIED CARD OF 'coterietop.TopGivenRow'. -/
def topGivenRowCard : Claim7 := { stood := { row := topGivenRowRow, standIns := [], harness := (true, "f2f8a333c08b5e51cdcad876892c2d852f997bc4581786a57158a2b4f8e02307"), looks := false }, kinds := [], alts := [], laidByText := true, laidKinds := [.data], laidTests := true, laidLooks := .later }
def TopGivenRowCardSaid : Prop := Claim7.holds Tryd.pinned (.plain (OpenSpec.ofChange topGivenRowSpec)) topGivenRowCard

/-- THE TIED CARD OF 'coterietop.TopSecretReplies'. -/
def topSecretRepliesCard : Claim7 := { stood := { row := topSecretRepliesRow, standIns := [], harness := (true, "f2f8a333c08b5e51cdcad876892c2d852f997bc4581786a57158a2b4f8e02307"), looks := false }, kinds := [], alts := [], laidByText := true, laidKinds := [.data], laidTests := true, laidLooks := .later }
def TopSecretRepliesCardSaid : Prop := Claim7.holds Tryd.pinned (.plain (OpenSpec.ofChange topSecretRepliesSpec)) topSecretRepliesCard

/-- THE SECOND FORM's CARD OF 'coterietop.TopSecretRow'. -/
def topSecretRowUptoCard : Claim7 := { stood := { row := topSecretRowUptoRow, standIns := [], harness := (true, "f2f8a333c08b5e51cdcad876892c2d852f997bc4581786a57158a2b4f8e02307"), looks := false }, kinds := [], alts := [], laidByText := true, laidKinds := [.data], laidTests := true, laidLooks := .later }
def TopSecretRowUptoCardSaid : Prop := Claim7.holds Tryd.pinned (.plain (OpenSpec.upto topSecretRowSpec)) topSecretRowUptoCard

/-- THE SECOND FORM's CARD OF 'coterietop.TopGivenRow'. -/
def topGivenRowUptoCard : Claim7 := { stood := { row := topGivenRowUptoRow, standIns := [], harness := (true, "f2f8a333c08b5e51cdcad876892c2d852f997bc4581786a57158a2b4f8e02307"), looks := false }, kinds := [], alts := [], laidByText := true, laidKinds := [.data], laidTests := true, laidLooks := .later }
def TopGivenRowUptoCardSaid : Prop := Claim7.holds Tryd.pinned (.plain (OpenSpec.upto topGivenRowSpec)) topGivenRowUptoCard

/-- THE SECOND FORM's CARD OF 'coterietop.TopSecretReplies'. -/
def topSecretRepliesUptoCard : Claim7 := { stood := { row := topSecretRepliesUptoRow, standIns := [], harness := (true, "f2f8a333c08b5e51cdcad876892c2d852f997bc4581786a57158a2b4f8e02307"), looks := false }, kinds := [], alts := [], laidByText := true, laidKinds := [.data], laidTests := true, laidLooks := .later }
def TopSecretRepliesUptoCardSaid : Prop := Claim7.holds Tryd.pinned (.plain (OpenSpec.upto topSecretRepliesSpec)) topSecretRepliesUptoCard
end Rows
end Go.Proofs.YtlfmckjehjedpaaDoor

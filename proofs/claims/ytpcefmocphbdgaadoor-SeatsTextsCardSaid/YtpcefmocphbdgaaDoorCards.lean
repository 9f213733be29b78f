/-
  DERIVED. GIVEN WITH THE SEED: THE CARDS: each row of YtpcefmocphbdgaaDoorRows.lean that lists a variable, with what it lists TIED to the program's text (the seventh form; the later family's looks); each row that meets fmt, with fmt's text TOLD by the authors' own Lean function (tested against real Go, not proved from fmt's source: count such statements apart). THE CARD IS WHAT COUNTS. Prove the row's statement (the work); the ties are given (YtpcefmocphbdgaaDoorTie.lean); close each card by the builder's one call (the guide's Derived/Test/ToyasCard.lean, 'card_holds'). Laid BY PROGRAM, IN A SANDBOX (cutbox-door.mjs). By AI agents, Wed Nov 11 2026. No macro, syntax, notation, axiom, sorry.
-/
import Derived.Test.YtpcefmocphbdgaaDoorRows
import GoSem.ClaimSeven
namespace Go.Proofs.YtpcefmocphbdgaaDoor
namespace Rows

/-- THE TIED CARD OF 'coterielaw08.SeatsOne'. -/
def seatsOneCard : Claim7 := { stood := { row := seatsOneRow, standIns := [], harness := (true, "ef7c07725927dc6c7fa0a805e02f29d763ffae9dc647f01a96e0ecbea8ef999e"), looks := true }, kinds := [], alts := [], laidByText := true, laidKinds := [.data, .data, .data], laidTests := true, laidLooks := .later }
def SeatsOneCardSaid : Prop := Claim7.holds Tryd.pinned (.plain (OpenSpec.ofChange seatsOneSpec)) seatsOneCard

/-- THE TIED CARD OF 'coterielaw08.SeatsTakes'. -/
def seatsTakesCard : Claim7 := { stood := { row := seatsTakesRow, standIns := [], harness := (true, "ef7c07725927dc6c7fa0a805e02f29d763ffae9dc647f01a96e0ecbea8ef999e"), looks := true }, kinds := [], alts := [], laidByText := true, laidKinds := [.data, .data, .data], laidTests := true, laidLooks := .later }
def SeatsTakesCardSaid : Prop := Claim7.holds Tryd.pinned (.plain (OpenSpec.ofChange seatsTakesSpec)) seatsTakesCard

/-- THE TIED CARD OF 'coterielaw08.SeatsLists'. -/
def seatsListsCard : Claim7 := { stood := { row := seatsListsRow, standIns := [], harness := (true, "ef7c07725927dc6c7fa0a805e02f29d763ffae9dc647f01a96e0ecbea8ef999e"), looks := true }, kinds := [], alts := [], laidByText := true, laidKinds := [.data, .data, .data], laidTests := true, laidLooks := .later }
def SeatsListsCardSaid : Prop := Claim7.holds Tryd.pinned (.plain (OpenSpec.ofChange seatsListsSpec)) seatsListsCard

/-- THE TIED CARD OF 'coterielaw08.SeatsWalk'. -/
def seatsWalkCard : Claim7 := { stood := { row := seatsWalkRow, standIns := [], harness := (true, "ef7c07725927dc6c7fa0a805e02f29d763ffae9dc647f01a96e0ecbea8ef999e"), looks := true }, kinds := [], alts := [], laidByText := true, laidKinds := [.data, .data, .data], laidTests := true, laidLooks := .later }
def SeatsWalkCardSaid : Prop := Claim7.holds Tryd.pinned (.plain (OpenSpec.ofChange seatsWalkSpec)) seatsWalkCard

/-- THE TIED CARD OF 'coterielaw08.SeatsExact'. -/
def seatsExactCard : Claim7 := { stood := { row := seatsExactRow, standIns := [], harness := (true, "ef7c07725927dc6c7fa0a805e02f29d763ffae9dc647f01a96e0ecbea8ef999e"), looks := true }, kinds := [], alts := [], laidByText := true, laidKinds := [.data, .data, .data], laidTests := true, laidLooks := .later }
def SeatsExactCardSaid : Prop := Claim7.holds Tryd.pinned (.plain (OpenSpec.ofChange seatsExactSpec)) seatsExactCard

/-- THE TIED CARD OF 'coterielaw08.SeatsTexts'. -/
def seatsTextsCard : Claim7 := { stood := { row := seatsTextsRow, standIns := [], harness := (true, "ef7c07725927dc6c7fa0a805e02f29d763ffae9dc647f01a96e0ecbea8ef999e"), looks := true }, kinds := [], alts := [], laidByText := true, laidKinds := [.data, .data, .data, .sentinel, .sentinel], laidTests := true, laidLooks := .later }
def SeatsTextsCardSaid : Prop := Claim7.holds Tryd.pinned (.plain (OpenSpec.ofChange seatsTextsSpec)) seatsTextsCard

/-- THE SECOND FORM's CARD OF 'coterielaw08.SeatsOne'. -/
def seatsOneUptoCard : Claim7 := { stood := { row := seatsOneUptoRow, standIns := [], harness := (true, "ef7c07725927dc6c7fa0a805e02f29d763ffae9dc647f01a96e0ecbea8ef999e"), looks := true }, kinds := [], alts := [], laidByText := true, laidKinds := [.data, .data, .data], laidTests := true, laidLooks := .later }
def SeatsOneUptoCardSaid : Prop := Claim7.holds Tryd.pinned (.plain (OpenSpec.upto seatsOneSpec)) seatsOneUptoCard

/-- THE SECOND FORM's CARD OF 'coterielaw08.SeatsTakes'. -/
def seatsTakesUptoCard : Claim7 := { stood := { row := seatsTakesUptoRow, standIns := [], harness := (true, "ef7c07725927dc6c7fa0a805e02f29d763ffae9dc647f01a96e0ecbea8ef999e"), looks := true }, kinds := [], alts := [], laidByText := true, laidKinds := [.data, .data, .data], laidTests := true, laidLooks := .later }
def SeatsTakesUptoCardSaid : Prop := Claim7.holds Tryd.pinned (.plain (OpenSpec.upto seatsTakesSpec)) seatsTakesUptoCard

/-- THE SECOND FORM's CARD OF 'coterielaw08.SeatsLists'. -/
def seatsListsUptoCard : Claim7 := { stood := { row := seatsListsUptoRow, standIns := [], harness := (true, "ef7c07725927dc6c7fa0a805e02f29d763ffae9dc647f01a96e0ecbea8ef999e"), looks := true }, kinds := [], alts := [], laidByText := true, laidKinds := [.data, .data, .data], laidTests := true, laidLooks := .later }
def SeatsListsUptoCardSaid : Prop := Claim7.holds Tryd.pinned (.plain (OpenSpec.upto seatsListsSpec)) seatsListsUptoCard

/-- THE SECOND FORM's CARD OF 'coterielaw08.SeatsWalk'. -/
def seatsWalkUptoCard : Claim7 := { stood := { row := seatsWalkUptoRow, standIns := [], harness := (true, "ef7c07725927dc6c7fa0a805e02f29d763ffae9dc647f01a96e0ecbea8ef999e"), looks := true }, kinds := [], alts := [], laidByText := true, laidKinds := [.data, .data, .data], laidTests := true, laidLooks := .later }
def SeatsWalkUptoCardSaid : Prop := Claim7.holds Tryd.pinned (.plain (OpenSpec.upto seatsWalkSpec)) seatsWalkUptoCard

/-- THE SECOND FORM's CARD OF 'coterielaw08.SeatsExact'. -/
def seatsExactUptoCard : Claim7 := { stood := { row := seatsExactUptoRow, standIns := [], harness := (true, "ef7c07725927dc6c7fa0a805e02f29d763ffae9dc647f01a96e0ecbea8ef999e"), looks := true }, kinds := [], alts := [], laidByText := true, laidKinds := [.data, .data, .data], laidTests := true, laidLooks := .later }
def SeatsExactUptoCardSaid : Prop := Claim7.holds Tryd.pinned (.plain (OpenSpec.upto seatsExactSpec)) seatsExactUptoCard

/-- THE SECOND FORM's CARD OF 'coterielaw08.SeatsTexts'. -/
def seatsTextsUptoCard : Claim7 := { stood := { row := seatsTextsUptoRow, standIns := [], harness := (true, "ef7c07725927dc6c7fa0a805e02f29d763ffae9dc647f01a96e0ecbea8ef999e"), looks := true }, kinds := [], alts := [], laidByText := true, laidKinds := [.data, .data, .data, .sentinel, .sentinel], laidTests := true, laidLooks := .later }
def SeatsTextsUptoCardSaid : Prop := Claim7.holds Tryd.pinned (.plain (OpenSpec.upto seatsTextsSpec)) seatsTextsUptoCard
end Rows
end Go.Proofs.YtpcefmocphbdgaaDoor

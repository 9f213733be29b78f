/-
  DERIVED. GIVEN WITH THE SEED: THE CARDS: each row of YtigbpmiemlejaaaDoorRows.lean that lists a variable, with what it lists TIED to the program's text (the seventh form; the later family's looks); each row that meets fmt, with fmt's text TOLD by the authors' own Lean function (tested against real Go, not proved from fmt's source: count such statements apart). THE CARD IS WHAT COUNTS. Prove the row's statement (the work); the ties are given (YtigbpmiemlejaaaDoorTie.lean); close each card by the builder's one call (the guide's Derived/Test/ToyasCard.lean, 'card_holds'). Laid BY PROGRAM, IN A SANDBOX (cutbox-door.mjs). By AI agents, Wed Nov 11 2026. No macro, syntax, notation, axiom, sorry.
-/
import Derived.Test.YtigbpmiemlejaaaDoorRows
import GoSem.ClaimSeven
namespace Go.Proofs.YtigbpmiemlejaaaDoor
namespace Rows

/-- THE TIED CARD OF 'coterielaw04.SumJoins'. -/
def sumJoinsCard : Claim7 := { stood := { row := sumJoinsRow, standIns := [], harness := (true, "556b789d7d4dd571195fb746cbb0632cd8ed681bb64a38092c4bb272b856fc9c"), looks := false }, kinds := [], alts := [], laidByText := true, laidKinds := [.data, .data, .data], laidTests := true, laidLooks := .later }
def SumJoinsCardSaid : Prop := Claim7.holds Tryd.pinned (.plain (OpenSpec.ofChange sumJoinsSpec)) sumJoinsCard

/-- THE TIED CARD OF 'coterielaw04.SumMixes'. -/
def sumMixesCard : Claim7 := { stood := { row := sumMixesRow, standIns := [], harness := (true, "556b789d7d4dd571195fb746cbb0632cd8ed681bb64a38092c4bb272b856fc9c"), looks := false }, kinds := [], alts := [], laidByText := true, laidKinds := [.data, .data, .data], laidTests := true, laidLooks := .later }
def SumMixesCardSaid : Prop := Claim7.holds Tryd.pinned (.plain (OpenSpec.ofChange sumMixesSpec)) sumMixesCard

/-- THE TIED CARD OF 'coterielaw04.SumTells'. -/
def sumTellsCard : Claim7 := { stood := { row := sumTellsRow, standIns := [], harness := (true, "556b789d7d4dd571195fb746cbb0632cd8ed681bb64a38092c4bb272b856fc9c"), looks := false }, kinds := [], alts := [], laidByText := true, laidKinds := [.data, .data, .data], laidTests := true, laidLooks := .later }
def SumTellsCardSaid : Prop := Claim7.holds Tryd.pinned (.plain (OpenSpec.ofChange sumTellsSpec)) sumTellsCard

/-- THE TIED CARD OF 'coterielaw04.SumExact'. -/
def sumExactCard : Claim7 := { stood := { row := sumExactRow, standIns := [], harness := (true, "556b789d7d4dd571195fb746cbb0632cd8ed681bb64a38092c4bb272b856fc9c"), looks := false }, kinds := [], alts := [], laidByText := true, laidKinds := [.data, .data, .data], laidTests := true, laidLooks := .later }
def SumExactCardSaid : Prop := Claim7.holds Tryd.pinned (.plain (OpenSpec.ofChange sumExactSpec)) sumExactCard

/-- THE TIED CARD OF 'coterielaw04.SumBack'. -/
def sumBackCard : Claim7 := { stood := { row := sumBackRow, standIns := [], harness := (true, "556b789d7d4dd571195fb746cbb0632cd8ed681bb64a38092c4bb272b856fc9c"), looks := false }, kinds := [], alts := [], laidByText := true, laidKinds := [.data, .data, .data], laidTests := true, laidLooks := .later }
def SumBackCardSaid : Prop := Claim7.holds Tryd.pinned (.plain (OpenSpec.ofChange sumBackSpec)) sumBackCard

/-- THE SECOND FORM's CARD OF 'coterielaw04.SumJoins'. -/
def sumJoinsUptoCard : Claim7 := { stood := { row := sumJoinsUptoRow, standIns := [], harness := (true, "556b789d7d4dd571195fb746cbb0632cd8ed681bb64a38092c4bb272b856fc9c"), looks := false }, kinds := [], alts := [], laidByText := true, laidKinds := [.data, .data, .data], laidTests := true, laidLooks := .later }
def SumJoinsUptoCardSaid : Prop := Claim7.holds Tryd.pinned (.plain (OpenSpec.upto sumJoinsSpec)) sumJoinsUptoCard

/-- THE SECOND FORM's CARD OF 'coterielaw04.SumMixes'. -/
def sumMixesUptoCard : Claim7 := { stood := { row := sumMixesUptoRow, standIns := [], harness := (true, "556b789d7d4dd571195fb746cbb0632cd8ed681bb64a38092c4bb272b856fc9c"), looks := false }, kinds := [], alts := [], laidByText := true, laidKinds := [.data, .data, .data], laidTests := true, laidLooks := .later }
def SumMixesUptoCardSaid : Prop := Claim7.holds Tryd.pinned (.plain (OpenSpec.upto sumMixesSpec)) sumMixesUptoCard

/-- THE SECOND FORM's CARD OF 'coterielaw04.SumTells'. -/
def sumTellsUptoCard : Claim7 := { stood := { row := sumTellsUptoRow, standIns := [], harness := (true, "556b789d7d4dd571195fb746cbb0632cd8ed681bb64a38092c4bb272b856fc9c"), looks := false }, kinds := [], alts := [], laidByText := true, laidKinds := [.data, .data, .data], laidTests := true, laidLooks := .later }
def SumTellsUptoCardSaid : Prop := Claim7.holds Tryd.pinned (.plain (OpenSpec.upto sumTellsSpec)) sumTellsUptoCard

/-- THE SECOND FORM's CARD OF 'coterielaw04.SumExact'. -/
def sumExactUptoCard : Claim7 := { stood := { row := sumExactUptoRow, standIns := [], harness := (true, "556b789d7d4dd571195fb746cbb0632cd8ed681bb64a38092c4bb272b856fc9c"), looks := false }, kinds := [], alts := [], laidByText := true, laidKinds := [.data, .data, .data], laidTests := true, laidLooks := .later }
def SumExactUptoCardSaid : Prop := Claim7.holds Tryd.pinned (.plain (OpenSpec.upto sumExactSpec)) sumExactUptoCard

/-- THE SECOND FORM's CARD OF 'coterielaw04.SumBack'. -/
def sumBackUptoCard : Claim7 := { stood := { row := sumBackUptoRow, standIns := [], harness := (true, "556b789d7d4dd571195fb746cbb0632cd8ed681bb64a38092c4bb272b856fc9c"), looks := false }, kinds := [], alts := [], laidByText := true, laidKinds := [.data, .data, .data], laidTests := true, laidLooks := .later }
def SumBackUptoCardSaid : Prop := Claim7.holds Tryd.pinned (.plain (OpenSpec.upto sumBackSpec)) sumBackUptoCard
end Rows
end Go.Proofs.YtigbpmiemlejaaaDoor

/-
  DERIVED. GIVEN WITH THE SEED: THE CARDS: each row of YtfjpaakonepafaaDoorRows.lean that lists a variable, with what it lists TIED to the program's text (the seventh form; the later family's looks); each row that meets fmt, with fmt's text TOLD by the authors' own Lean function (tested against real Go, not proved from fmt's source: count such statements apart). THE CARD IS WHAT COUNTS. Prove the row's statement (the work); the ties are given (YtfjpaakonepafaaDoorTie.lean); close each card by the builder's one call (the guide's Derived/Test/ToyasCard.lean, 'card_holds'). Laid BY PROGRAM, IN A SANDBOX (cutbox-door.mjs). By AI agents, Wed Nov 11 2026. No macro, syntax, notation, axiom, sorry.
-/
import Derived.Test.YtfjpaakonepafaaDoorRows
import GoSem.ClaimSeven
namespace Go.Proofs.YtfjpaakonepafaaDoor
namespace Rows

/-- THE TIED CARD OF 'plainsonglaw5.TextNumbers'. -/
def textNumbersCard : Claim7 := { stood := { row := textNumbersRow, standIns := [], harness := (true, "5e9142992682fd4ddaccedaa929b6ad7bbc55f8a0bf849d9d5079e38f1d4bb19"), looks := false }, kinds := [], alts := [], laidByText := true, laidKinds := [.data, .data, .data], laidTests := true, laidLooks := .later }
def TextNumbersCardSaid : Prop := Claim7.holds Tryd.pinned (.plain (OpenSpec.ofChange textNumbersSpec)) textNumbersCard

/-- THE TIED CARD OF 'plainsonglaw5.TextTells'. -/
def textTellsCard : Claim7 := { stood := { row := textTellsRow, standIns := [], harness := (true, "5e9142992682fd4ddaccedaa929b6ad7bbc55f8a0bf849d9d5079e38f1d4bb19"), looks := false }, kinds := [], alts := [], laidByText := true, laidKinds := [.data, .data, .data], laidTests := true, laidLooks := .later }
def TextTellsCardSaid : Prop := Claim7.holds Tryd.pinned (.plain (OpenSpec.ofChange textTellsSpec)) textTellsCard

/-- THE TIED CARD OF 'plainsonglaw5.TextFresh'. -/
def textFreshCard : Claim7 := { stood := { row := textFreshRow, standIns := [], harness := (true, "5e9142992682fd4ddaccedaa929b6ad7bbc55f8a0bf849d9d5079e38f1d4bb19"), looks := false }, kinds := [], alts := [], laidByText := true, laidKinds := [.data, .data, .data], laidTests := true, laidLooks := .later }
def TextFreshCardSaid : Prop := Claim7.holds Tryd.pinned (.plain (OpenSpec.ofChange textFreshSpec)) textFreshCard

/-- THE TIED CARD OF 'plainsonglaw5.TextJoins'. -/
def textJoinsCard : Claim7 := { stood := { row := textJoinsRow, standIns := [], harness := (true, "5e9142992682fd4ddaccedaa929b6ad7bbc55f8a0bf849d9d5079e38f1d4bb19"), looks := false }, kinds := [], alts := [], laidByText := true, laidKinds := [.data, .data, .data], laidTests := true, laidLooks := .later }
def TextJoinsCardSaid : Prop := Claim7.holds Tryd.pinned (.plain (OpenSpec.ofChange textJoinsSpec)) textJoinsCard

/-- THE SECOND FORM's CARD OF 'plainsonglaw5.TextNumbers'. -/
def textNumbersUptoCard : Claim7 := { stood := { row := textNumbersUptoRow, standIns := [], harness := (true, "5e9142992682fd4ddaccedaa929b6ad7bbc55f8a0bf849d9d5079e38f1d4bb19"), looks := false }, kinds := [], alts := [], laidByText := true, laidKinds := [.data, .data, .data], laidTests := true, laidLooks := .later }
def TextNumbersUptoCardSaid : Prop := Claim7.holds Tryd.pinned (.plain (OpenSpec.upto textNumbersSpec)) textNumbersUptoCard

/-- THE SECOND FORM's CARD OF 'plainsonglaw5.TextTells'. -/
def textTellsUptoCard : Claim7 := { stood := { row := textTellsUptoRow, standIns := [], harness := (true, "5e9142992682fd4ddaccedaa929b6ad7bbc55f8a0bf849d9d5079e38f1d4bb19"), looks := false }, kinds := [], alts := [], laidByText := true, laidKinds := [.data, .data, .data], laidTests := true, laidLooks := .later }
def TextTellsUptoCardSaid : Prop := Claim7.holds Tryd.pinned (.plain (OpenSpec.upto textTellsSpec)) textTellsUptoCard

/-- THE SECOND FORM's CARD OF 'plainsonglaw5.TextFresh'. -/
def textFreshUptoCard : Claim7 := { stood := { row := textFreshUptoRow, standIns := [], harness := (true, "5e9142992682fd4ddaccedaa929b6ad7bbc55f8a0bf849d9d5079e38f1d4bb19"), looks := false }, kinds := [], alts := [], laidByText := true, laidKinds := [.data, .data, .data], laidTests := true, laidLooks := .later }
def TextFreshUptoCardSaid : Prop := Claim7.holds Tryd.pinned (.plain (OpenSpec.upto textFreshSpec)) textFreshUptoCard

/-- THE SECOND FORM's CARD OF 'plainsonglaw5.TextJoins'. -/
def textJoinsUptoCard : Claim7 := { stood := { row := textJoinsUptoRow, standIns := [], harness := (true, "5e9142992682fd4ddaccedaa929b6ad7bbc55f8a0bf849d9d5079e38f1d4bb19"), looks := false }, kinds := [], alts := [], laidByText := true, laidKinds := [.data, .data, .data], laidTests := true, laidLooks := .later }
def TextJoinsUptoCardSaid : Prop := Claim7.holds Tryd.pinned (.plain (OpenSpec.upto textJoinsSpec)) textJoinsUptoCard
end Rows
end Go.Proofs.YtfjpaakonepafaaDoor

/-
  DERIVED. GIVEN WITH THE SEED: THE CARDS: each row of YtoajmaedpaalkaaDoorRows.lean that lists a variable, with what it lists TIED to the program's text (the seventh form; the later family's looks); each row that meets fmt, with fmt's text TOLD by the authors' own Lean function (tested against real Go, not proved from fmt's source: count such statements apart). THE CARD IS WHAT COUNTS. Prove the row's statement (the work); the ties are given (YtoajmaedpaalkaaDoorTie.lean); close each card by the builder's one call (the guide's Derived/Test/ToyasCard.lean, 'card_holds'). Laid BY PROGRAM, IN A SANDBOX (cutbox-door.mjs). By AI agents, Wed Nov 11 2026. No macro, syntax, notation, axiom, sorry.
-/
import Derived.Test.YtoajmaedpaalkaaDoorRows
import GoSem.ClaimSeven
namespace Go.Proofs.YtoajmaedpaalkaaDoor
namespace Rows

/-- THE TIED CARD OF 'plainsonglaw1.IntsNumbers'. -/
def intsNumbersCard : Claim7 := { stood := { row := intsNumbersRow, standIns := [], harness := (true, "af5efcdb6b5e0d323c2ef855d49d8f6e72047c7be7d011fa24b25abcbdbeeaca"), looks := false }, kinds := [], alts := [], laidByText := true, laidKinds := [.data], laidTests := true, laidLooks := .later }
def IntsNumbersCardSaid : Prop := Claim7.holds Tryd.pinned (.plain (OpenSpec.ofChange intsNumbersSpec)) intsNumbersCard

/-- THE TIED CARD OF 'plainsonglaw1.IntsTells'. -/
def intsTellsCard : Claim7 := { stood := { row := intsTellsRow, standIns := [], harness := (true, "af5efcdb6b5e0d323c2ef855d49d8f6e72047c7be7d011fa24b25abcbdbeeaca"), looks := false }, kinds := [], alts := [], laidByText := true, laidKinds := [.data], laidTests := true, laidLooks := .later }
def IntsTellsCardSaid : Prop := Claim7.holds Tryd.pinned (.plain (OpenSpec.ofChange intsTellsSpec)) intsTellsCard

/-- THE TIED CARD OF 'plainsonglaw1.IntsPairs'. -/
def intsPairsCard : Claim7 := { stood := { row := intsPairsRow, standIns := [], harness := (true, "af5efcdb6b5e0d323c2ef855d49d8f6e72047c7be7d011fa24b25abcbdbeeaca"), looks := false }, kinds := [], alts := [], laidByText := true, laidKinds := [.data], laidTests := true, laidLooks := .later }
def IntsPairsCardSaid : Prop := Claim7.holds Tryd.pinned (.plain (OpenSpec.ofChange intsPairsSpec)) intsPairsCard

/-- THE TIED CARD OF 'plainsonglaw1.IntsSigns'. -/
def intsSignsCard : Claim7 := { stood := { row := intsSignsRow, standIns := [], harness := (true, "af5efcdb6b5e0d323c2ef855d49d8f6e72047c7be7d011fa24b25abcbdbeeaca"), looks := false }, kinds := [], alts := [], laidByText := true, laidKinds := [.data], laidTests := true, laidLooks := .later }
def IntsSignsCardSaid : Prop := Claim7.holds Tryd.pinned (.plain (OpenSpec.ofChange intsSignsSpec)) intsSignsCard

/-- THE TIED CARD OF 'plainsonglaw1.IntsCounts'. -/
def intsCountsCard : Claim7 := { stood := { row := intsCountsRow, standIns := [], harness := (true, "af5efcdb6b5e0d323c2ef855d49d8f6e72047c7be7d011fa24b25abcbdbeeaca"), looks := false }, kinds := [], alts := [], laidByText := true, laidKinds := [.data], laidTests := true, laidLooks := .later }
def IntsCountsCardSaid : Prop := Claim7.holds Tryd.pinned (.plain (OpenSpec.ofChange intsCountsSpec)) intsCountsCard

/-- THE SECOND FORM's CARD OF 'plainsonglaw1.IntsNumbers'. -/
def intsNumbersUptoCard : Claim7 := { stood := { row := intsNumbersUptoRow, standIns := [], harness := (true, "af5efcdb6b5e0d323c2ef855d49d8f6e72047c7be7d011fa24b25abcbdbeeaca"), looks := false }, kinds := [], alts := [], laidByText := true, laidKinds := [.data], laidTests := true, laidLooks := .later }
def IntsNumbersUptoCardSaid : Prop := Claim7.holds Tryd.pinned (.plain (OpenSpec.upto intsNumbersSpec)) intsNumbersUptoCard

/-- THE SECOND FORM's CARD OF 'plainsonglaw1.IntsTells'. -/
def intsTellsUptoCard : Claim7 := { stood := { row := intsTellsUptoRow, standIns := [], harness := (true, "af5efcdb6b5e0d323c2ef855d49d8f6e72047c7be7d011fa24b25abcbdbeeaca"), looks := false }, kinds := [], alts := [], laidByText := true, laidKinds := [.data], laidTests := true, laidLooks := .later }
def IntsTellsUptoCardSaid : Prop := Claim7.holds Tryd.pinned (.plain (OpenSpec.upto intsTellsSpec)) intsTellsUptoCard

/-- THE SECOND FORM's CARD OF 'plainsonglaw1.IntsPairs'. -/
def intsPairsUptoCard : Claim7 := { stood := { row := intsPairsUptoRow, standIns := [], harness := (true, "af5efcdb6b5e0d323c2ef855d49d8f6e72047c7be7d011fa24b25abcbdbeeaca"), looks := false }, kinds := [], alts := [], laidByText := true, laidKinds := [.data], laidTests := true, laidLooks := .later }
def IntsPairsUptoCardSaid : Prop := Claim7.holds Tryd.pinned (.plain (OpenSpec.upto intsPairsSpec)) intsPairsUptoCard

/-- THE SECOND FORM's CARD OF 'plainsonglaw1.IntsSigns'. -/
def intsSignsUptoCard : Claim7 := { stood := { row := intsSignsUptoRow, standIns := [], harness := (true, "af5efcdb6b5e0d323c2ef855d49d8f6e72047c7be7d011fa24b25abcbdbeeaca"), looks := false }, kinds := [], alts := [], laidByText := true, laidKinds := [.data], laidTests := true, laidLooks := .later }
def IntsSignsUptoCardSaid : Prop := Claim7.holds Tryd.pinned (.plain (OpenSpec.upto intsSignsSpec)) intsSignsUptoCard

/-- THE SECOND FORM's CARD OF 'plainsonglaw1.IntsCounts'. -/
def intsCountsUptoCard : Claim7 := { stood := { row := intsCountsUptoRow, standIns := [], harness := (true, "af5efcdb6b5e0d323c2ef855d49d8f6e72047c7be7d011fa24b25abcbdbeeaca"), looks := false }, kinds := [], alts := [], laidByText := true, laidKinds := [.data], laidTests := true, laidLooks := .later }
def IntsCountsUptoCardSaid : Prop := Claim7.holds Tryd.pinned (.plain (OpenSpec.upto intsCountsSpec)) intsCountsUptoCard
end Rows
end Go.Proofs.YtoajmaedpaalkaaDoor

/-
  No cell of these rows narrows 'for every input' (looked for: loops, veiled, ifaces, maps, wideKeys, modest, calm, conditions, laid).
  DERIVED. THE GIVEN ROWS OF THIS SEAT. 4 by the template 'for every input the law returns true; each argument reads behind the call as it read before'; 0 by the template 'total and deterministic' (their statements: YtoajmaedpaalkaaTotals.lean).
  GIVEN WITH THE SEED: the statements are not yours to turn. If you find one false, say at which input.
  Laid BY PROGRAM, IN A SANDBOX (cutbox-rows.mjs): the forced cells as the released guide's own fill.sh prints them over the translation 3ae713d590d2b1a9… (all of the seat's roots in one cut). By AI agents, Wed Nov 11 2026. No macro, syntax, notation, axiom, sorry.
-/
import Derived.Test.YtoajmaedpaalkaaChecked
import GoSem.Claim
import GoSem.ClaimJoined
import GoSem.ClaimMapViews
import Derived.JoinedTies
import Derived.KernelRfl
namespace Go.Proofs.Ytoajmaedpaalkaa
/- THE CELL 'sum', in the pinned program and in every row, IS THE sha256 OF THE DUMP (.gsa) THAT YtoajmaedpaalkaaProg.lean LOADS. Nothing in Lean hashes anything: it is a label: what it is worth is what the hold of that sum in a sandbox is worth. -/
noncomputable def Try.pinned : Pinned := { name := "ytoajmaedpaalkaa", sum := "3ae713d590d2b1a99a8c337be2f3cfba773e0c947c81d49df8006a75e92c10ff", checked := Try.checked }
namespace Rows
def none {H : Type} : Left H := { results := [], args := [] }

/-- 'plainsonglaw3.OpsTells': WHATEVER THE INPUT: true; the input reads as it did. -/
def opsTellsSpec : ChangeSpec := { name := "opsTells", fn := fun _ => fun
  | [d] => { results := [.lit (.bool true)], args := [d] }
  | _ => none }
def opsTellsRow : OpenClaim := { program := "ytoajmaedpaalkaa", sum := "3ae713d590d2b1a99a8c337be2f3cfba773e0c947c81d49df8006a75e92c10ff", func := "plainsong/plainsonglaw3.OpsTells", spec := "opsTells", apart := false }
def OpsTellsSaid : Prop := opsTellsRow.holds Try.pinned (OpenSpec.ofChange opsTellsSpec)

/-- ITS FALSE NEIGHBOUR: 'it returns false'. Refute it at one input. -/
def opsTellsWrong : ChangeSpec := { name := "opsTells", fn := fun _ => fun
  | [d] => { results := [.lit (.bool false)], args := [d] }
  | _ => none }
def OpsTellsWrongFalsely : Prop := opsTellsRow.holds Try.pinned (OpenSpec.ofChange opsTellsWrong)

/-- 'plainsonglaw3.OpsRich': WHATEVER THE INPUT: true; the input reads as it did. -/
def opsRichSpec : ChangeSpec := { name := "opsRich", fn := fun _ => fun
  | [d] => { results := [.lit (.bool true)], args := [d] }
  | _ => none }
def opsRichRow : OpenClaim := { program := "ytoajmaedpaalkaa", sum := "3ae713d590d2b1a99a8c337be2f3cfba773e0c947c81d49df8006a75e92c10ff", func := "plainsong/plainsonglaw3.OpsRich", spec := "opsRich", apart := false }
def OpsRichSaid : Prop := opsRichRow.holds Try.pinned (OpenSpec.ofChange opsRichSpec)

/-- ITS FALSE NEIGHBOUR: 'it returns false'. Refute it at one input. -/
def opsRichWrong : ChangeSpec := { name := "opsRich", fn := fun _ => fun
  | [d] => { results := [.lit (.bool false)], args := [d] }
  | _ => none }
def OpsRichWrongFalsely : Prop := opsRichRow.holds Try.pinned (OpenSpec.ofChange opsRichWrong)

/-- 'plainsonglaw3.OpsNumbers': WHATEVER THE INPUT: true; the input reads as it did. -/
def opsNumbersSpec : ChangeSpec := { name := "opsNumbers", fn := fun _ => fun
  | [] => { results := [.lit (.bool true)], args := [] }
  | _ => none }
def opsNumbersRow : OpenClaim := { program := "ytoajmaedpaalkaa", sum := "3ae713d590d2b1a99a8c337be2f3cfba773e0c947c81d49df8006a75e92c10ff", func := "plainsong/plainsonglaw3.OpsNumbers", spec := "opsNumbers", apart := false }
def OpsNumbersSaid : Prop := opsNumbersRow.holds Try.pinned (OpenSpec.ofChange opsNumbersSpec)

/-- ITS FALSE NEIGHBOUR: 'it returns false'. Refute it at one input. -/
def opsNumbersWrong : ChangeSpec := { name := "opsNumbers", fn := fun _ => fun
  | [] => { results := [.lit (.bool false)], args := [] }
  | _ => none }
def OpsNumbersWrongFalsely : Prop := opsNumbersRow.holds Try.pinned (OpenSpec.ofChange opsNumbersWrong)

/-- 'plainsonglaw3.OpsPairs': WHATEVER THE INPUT: true; the input reads as it did. -/
def opsPairsSpec : ChangeSpec := { name := "opsPairs", fn := fun _ => fun
  | [d] => { results := [.lit (.bool true)], args := [d] }
  | _ => none }
def opsPairsRow : OpenClaim := { program := "ytoajmaedpaalkaa", sum := "3ae713d590d2b1a99a8c337be2f3cfba773e0c947c81d49df8006a75e92c10ff", func := "plainsong/plainsonglaw3.OpsPairs", spec := "opsPairs", apart := false }
def OpsPairsSaid : Prop := opsPairsRow.holds Try.pinned (OpenSpec.ofChange opsPairsSpec)

/-- ITS FALSE NEIGHBOUR: 'it returns false'. Refute it at one input. -/
def opsPairsWrong : ChangeSpec := { name := "opsPairs", fn := fun _ => fun
  | [d] => { results := [.lit (.bool false)], args := [d] }
  | _ => none }
def OpsPairsWrongFalsely : Prop := opsPairsRow.holds Try.pinned (OpenSpec.ofChange opsPairsWrong)

/- THE SECOND FORM. 'bulk': how many values and letters a reading holds, each counted each time it is reached (what is shared counts as often as it is met; a slice's spare places count too). A statement '..UptoSaid' is the law's where the arguments, and the package variables that the reading takes, are together of bulk at most 1048576: NARROWER than '..Said'. Prove '..Said' where nothing that the law and all that it calls make is longer than what came in: it says more and counts as full. Else prove '..UptoSaid'. A law counts once. -/
mutual
def uptoBulk {H : Type} : DataW H → Nat
  | .lit (.string bytes) => bytes.length + 1
  | .lit _ => 1
  | .nil => 1
  | .ptr d => uptoBulk d + 1
  | .slice elems spare => uptoBulkAll elems + uptoBulkAll spare + 1
  | .agg parts => uptoBulkAll parts + 1
  | .iface _ d => uptoBulk d + 1
  | .map entries => uptoBulkEntries entries + 1
  | .held _ => 1
def uptoBulkAll {H : Type} : List (DataW H) → Nat
  | [] => 0
  | d :: r => uptoBulk d + uptoBulkAll r
def uptoBulkEntries {H : Type} : List (Lit × DataW H) → Nat
  | [] => 0
  | x :: r => uptoBulkEntry x + uptoBulkEntries r
def uptoBulkEntry {H : Type} : Lit × DataW H → Nat
  | (.string bytes, d) => bytes.length + uptoBulk d + 1
  | (_, d) => uptoBulk d + 1
 end
def uptoSmall : (H : Type) → List (DataW H) → Bool := fun _ ds => decide (uptoBulkAll ds ≤ 1048576)
def OpenSpec.upto (s : _root_.Go.ChangeSpec) : _root_.Go.OpenSpec := { _root_.Go.OpenSpec.ofChange s with cond := some uptoSmall }

/-- 'plainsonglaw3.OpsTells', WHERE WHAT IT READS IS OF BULK AT MOST 1048576: true; the input reads as it did. -/
def opsTellsUptoRow : OpenClaim := { program := "ytoajmaedpaalkaa", sum := "3ae713d590d2b1a99a8c337be2f3cfba773e0c947c81d49df8006a75e92c10ff", func := "plainsong/plainsonglaw3.OpsTells", spec := "opsTells", apart := false, narrowed := true }
def OpsTellsUptoSaid : Prop := opsTellsUptoRow.holds Try.pinned (OpenSpec.upto opsTellsSpec)

/-- 'plainsonglaw3.OpsRich', WHERE WHAT IT READS IS OF BULK AT MOST 1048576: true; the input reads as it did. -/
def opsRichUptoRow : OpenClaim := { program := "ytoajmaedpaalkaa", sum := "3ae713d590d2b1a99a8c337be2f3cfba773e0c947c81d49df8006a75e92c10ff", func := "plainsong/plainsonglaw3.OpsRich", spec := "opsRich", apart := false, narrowed := true }
def OpsRichUptoSaid : Prop := opsRichUptoRow.holds Try.pinned (OpenSpec.upto opsRichSpec)

/-- 'plainsonglaw3.OpsNumbers', WHERE WHAT IT READS IS OF BULK AT MOST 1048576: true; the input reads as it did. -/
def opsNumbersUptoRow : OpenClaim := { program := "ytoajmaedpaalkaa", sum := "3ae713d590d2b1a99a8c337be2f3cfba773e0c947c81d49df8006a75e92c10ff", func := "plainsong/plainsonglaw3.OpsNumbers", spec := "opsNumbers", apart := false, narrowed := true }
def OpsNumbersUptoSaid : Prop := opsNumbersUptoRow.holds Try.pinned (OpenSpec.upto opsNumbersSpec)

/-- 'plainsonglaw3.OpsPairs', WHERE WHAT IT READS IS OF BULK AT MOST 1048576: true; the input reads as it did. -/
def opsPairsUptoRow : OpenClaim := { program := "ytoajmaedpaalkaa", sum := "3ae713d590d2b1a99a8c337be2f3cfba773e0c947c81d49df8006a75e92c10ff", func := "plainsong/plainsonglaw3.OpsPairs", spec := "opsPairs", apart := false, narrowed := true }
def OpsPairsUptoSaid : Prop := opsPairsUptoRow.holds Try.pinned (OpenSpec.upto opsPairsSpec)

end Rows
end Go.Proofs.Ytoajmaedpaalkaa

/-
  No cell of these rows narrows 'for every input' (looked for: loops, veiled, ifaces, maps, wideKeys, modest, calm, conditions, laid).
  DERIVED. THE GIVEN ROWS OF THIS SEAT. 8 by the template 'for every input the law returns true; each argument reads behind the call as it read before'; 0 by the template 'total and deterministic' (their statements: YtfjpaakonepafaaTotals.lean).
  GIVEN WITH THE SEED: the statements are not yours to turn. If you find one false, say at which input.
  Laid BY PROGRAM, IN A SANDBOX (cutbox-rows.mjs): the forced cells as the released guide's own fill.sh prints them over the translation 3e4c445515d46f8c… (all of the seat's roots in one cut). By AI agents, Wed Nov 11 2026. No macro, syntax, notation, axiom, sorry.
-/
import Derived.Test.YtfjpaakonepafaaChecked
import GoSem.Claim
import GoSem.ClaimJoined
import GoSem.ClaimMapViews
import Derived.JoinedTies
import Derived.KernelRfl
namespace Go.Proofs.Ytfjpaakonepafaa
/- THE CELL 'sum', in the pinned program and in every row, IS THE sha256 OF THE DUMP (.gsa) THAT YtfjpaakonepafaaProg.lean LOADS. Nothing in Lean hashes anything: it is a label: what it is worth is what the hold of that sum in a sandbox is worth. -/
noncomputable def Try.pinned : Pinned := { name := "ytfjpaakonepafaa", sum := "3e4c445515d46f8cd0380eae69d2f67f8b16c59840c14a9c7ec0f996f09c9e90", checked := Try.checked }
namespace Rows
def none {H : Type} : Left H := { results := [], args := [] }

/-- 'plainsonglaw16.DraftLeaves': WHATEVER THE INPUT: true; the input reads as it did. -/
def draftLeavesSpec : ChangeSpec := { name := "draftLeaves", fn := fun _ => fun
  | [d1, d2] => { results := [.lit (.bool true)], args := [d1, d2] }
  | _ => none }
def draftLeavesRow : OpenClaim := { program := "ytfjpaakonepafaa", sum := "3e4c445515d46f8cd0380eae69d2f67f8b16c59840c14a9c7ec0f996f09c9e90", func := "plainsong/plainsonglaw16.DraftLeaves", spec := "draftLeaves", recurses := true, apart := false }
def DraftLeavesSaid : Prop := draftLeavesRow.holds Try.pinned (OpenSpec.ofChange draftLeavesSpec)

/-- ITS FALSE NEIGHBOUR: 'it returns false'. Refute it at one input. -/
def draftLeavesWrong : ChangeSpec := { name := "draftLeaves", fn := fun _ => fun
  | [d1, d2] => { results := [.lit (.bool false)], args := [d1, d2] }
  | _ => none }
def DraftLeavesWrongFalsely : Prop := draftLeavesRow.holds Try.pinned (OpenSpec.ofChange draftLeavesWrong)

/-- 'plainsonglaw16.DraftBack': WHATEVER THE INPUT: true; the input reads as it did. -/
def draftBackSpec : ChangeSpec := { name := "draftBack", fn := fun _ => fun
  | [d1, d2, d3] => { results := [.lit (.bool true)], args := [d1, d2, d3] }
  | _ => none }
def draftBackRow : OpenClaim := { program := "ytfjpaakonepafaa", sum := "3e4c445515d46f8cd0380eae69d2f67f8b16c59840c14a9c7ec0f996f09c9e90", func := "plainsong/plainsonglaw16.DraftBack", spec := "draftBack", recurses := true, apart := false }
def DraftBackSaid : Prop := draftBackRow.holds Try.pinned (OpenSpec.ofChange draftBackSpec)

/-- ITS FALSE NEIGHBOUR: 'it returns false'. Refute it at one input. -/
def draftBackWrong : ChangeSpec := { name := "draftBack", fn := fun _ => fun
  | [d1, d2, d3] => { results := [.lit (.bool false)], args := [d1, d2, d3] }
  | _ => none }
def DraftBackWrongFalsely : Prop := draftBackRow.holds Try.pinned (OpenSpec.ofChange draftBackWrong)

/-- 'plainsonglaw16.DraftNumbers': WHATEVER THE INPUT: true; the input reads as it did. -/
def draftNumbersSpec : ChangeSpec := { name := "draftNumbers", fn := fun _ => fun
  | [] => { results := [.lit (.bool true)], args := [] }
  | _ => none }
def draftNumbersRow : OpenClaim := { program := "ytfjpaakonepafaa", sum := "3e4c445515d46f8cd0380eae69d2f67f8b16c59840c14a9c7ec0f996f09c9e90", func := "plainsong/plainsonglaw16.DraftNumbers", spec := "draftNumbers", recurses := true, apart := false }
def DraftNumbersSaid : Prop := draftNumbersRow.holds Try.pinned (OpenSpec.ofChange draftNumbersSpec)

/-- ITS FALSE NEIGHBOUR: 'it returns false'. Refute it at one input. -/
def draftNumbersWrong : ChangeSpec := { name := "draftNumbers", fn := fun _ => fun
  | [] => { results := [.lit (.bool false)], args := [] }
  | _ => none }
def DraftNumbersWrongFalsely : Prop := draftNumbersRow.holds Try.pinned (OpenSpec.ofChange draftNumbersWrong)

/-- 'plainsonglaw16.DraftTells': WHATEVER THE INPUT: true; the input reads as it did. -/
def draftTellsSpec : ChangeSpec := { name := "draftTells", fn := fun _ => fun
  | [d1, d2, d3, d4, d5, d6] => { results := [.lit (.bool true)], args := [d1, d2, d3, d4, d5, d6] }
  | _ => none }
def draftTellsRow : OpenClaim := { program := "ytfjpaakonepafaa", sum := "3e4c445515d46f8cd0380eae69d2f67f8b16c59840c14a9c7ec0f996f09c9e90", func := "plainsong/plainsonglaw16.DraftTells", spec := "draftTells", recurses := true, apart := false }
def DraftTellsSaid : Prop := draftTellsRow.holds Try.pinned (OpenSpec.ofChange draftTellsSpec)

/-- ITS FALSE NEIGHBOUR: 'it returns false'. Refute it at one input. -/
def draftTellsWrong : ChangeSpec := { name := "draftTells", fn := fun _ => fun
  | [d1, d2, d3, d4, d5, d6] => { results := [.lit (.bool false)], args := [d1, d2, d3, d4, d5, d6] }
  | _ => none }
def DraftTellsWrongFalsely : Prop := draftTellsRow.holds Try.pinned (OpenSpec.ofChange draftTellsWrong)

/-- 'plainsonglaw7.MatchNumbers': WHATEVER THE INPUT: true; the input reads as it did. -/
def matchNumbersSpec : ChangeSpec := { name := "matchNumbers", fn := fun _ => fun
  | [] => { results := [.lit (.bool true)], args := [] }
  | _ => none }
def matchNumbersRow : OpenClaim := { program := "ytfjpaakonepafaa", sum := "3e4c445515d46f8cd0380eae69d2f67f8b16c59840c14a9c7ec0f996f09c9e90", func := "plainsong/plainsonglaw7.MatchNumbers", spec := "matchNumbers", unfollowed := true, recurses := true, apart := false }
def MatchNumbersSaid : Prop := matchNumbersRow.holds Try.pinned (OpenSpec.ofChange matchNumbersSpec)

/-- ITS FALSE NEIGHBOUR: 'it returns false'. Refute it at one input. -/
def matchNumbersWrong : ChangeSpec := { name := "matchNumbers", fn := fun _ => fun
  | [] => { results := [.lit (.bool false)], args := [] }
  | _ => none }
def MatchNumbersWrongFalsely : Prop := matchNumbersRow.holds Try.pinned (OpenSpec.ofChange matchNumbersWrong)

/-- 'plainsonglaw7.MatchTells': WHATEVER THE INPUT: true; the input reads as it did. -/
def matchTellsSpec : ChangeSpec := { name := "matchTells", fn := fun _ => fun
  | [d1, d2, d3] => { results := [.lit (.bool true)], args := [d1, d2, d3] }
  | _ => none }
def matchTellsRow : OpenClaim := { program := "ytfjpaakonepafaa", sum := "3e4c445515d46f8cd0380eae69d2f67f8b16c59840c14a9c7ec0f996f09c9e90", func := "plainsong/plainsonglaw7.MatchTells", spec := "matchTells", unfollowed := true, recurses := true, apart := false }
def MatchTellsSaid : Prop := matchTellsRow.holds Try.pinned (OpenSpec.ofChange matchTellsSpec)

/-- ITS FALSE NEIGHBOUR: 'it returns false'. Refute it at one input. -/
def matchTellsWrong : ChangeSpec := { name := "matchTells", fn := fun _ => fun
  | [d1, d2, d3] => { results := [.lit (.bool false)], args := [d1, d2, d3] }
  | _ => none }
def MatchTellsWrongFalsely : Prop := matchTellsRow.holds Try.pinned (OpenSpec.ofChange matchTellsWrong)

/-- 'plainsonglaw7.MatchNested': WHATEVER THE INPUT: true; the input reads as it did. -/
def matchNestedSpec : ChangeSpec := { name := "matchNested", fn := fun _ => fun
  | [d] => { results := [.lit (.bool true)], args := [d] }
  | _ => none }
def matchNestedRow : OpenClaim := { program := "ytfjpaakonepafaa", sum := "3e4c445515d46f8cd0380eae69d2f67f8b16c59840c14a9c7ec0f996f09c9e90", func := "plainsong/plainsonglaw7.MatchNested", spec := "matchNested", unfollowed := true, recurses := true, apart := false }
def MatchNestedSaid : Prop := matchNestedRow.holds Try.pinned (OpenSpec.ofChange matchNestedSpec)

/-- ITS FALSE NEIGHBOUR: 'it returns false'. Refute it at one input. -/
def matchNestedWrong : ChangeSpec := { name := "matchNested", fn := fun _ => fun
  | [d] => { results := [.lit (.bool false)], args := [d] }
  | _ => none }
def MatchNestedWrongFalsely : Prop := matchNestedRow.holds Try.pinned (OpenSpec.ofChange matchNestedWrong)

/-- 'plainsonglaw7.MatchWraps': WHATEVER THE INPUT: true; the input reads as it did. -/
def matchWrapsSpec : ChangeSpec := { name := "matchWraps", fn := fun _ => fun
  | [d1, d2] => { results := [.lit (.bool true)], args := [d1, d2] }
  | _ => none }
def matchWrapsRow : OpenClaim := { program := "ytfjpaakonepafaa", sum := "3e4c445515d46f8cd0380eae69d2f67f8b16c59840c14a9c7ec0f996f09c9e90", func := "plainsong/plainsonglaw7.MatchWraps", spec := "matchWraps", unfollowed := true, recurses := true, apart := false }
def MatchWrapsSaid : Prop := matchWrapsRow.holds Try.pinned (OpenSpec.ofChange matchWrapsSpec)

/-- ITS FALSE NEIGHBOUR: 'it returns false'. Refute it at one input. -/
def matchWrapsWrong : ChangeSpec := { name := "matchWraps", fn := fun _ => fun
  | [d1, d2] => { results := [.lit (.bool false)], args := [d1, d2] }
  | _ => none }
def MatchWrapsWrongFalsely : Prop := matchWrapsRow.holds Try.pinned (OpenSpec.ofChange matchWrapsWrong)

/- THE SECOND FORM. 'bulk': how many values and letters a reading holds, each counted each time it is reached (what is shared counts as often as it is met; a slice's spare places count too). A statement '..UptoSaid' is the law's where the arguments, and the package variables that the reading takes, are together of bulk at most 1048576: NARROWER than '..Said'. Prove '..Said' where nothing that the law and all that it calls make is longer than what came in: it says more and counts as full. Else prove '..UptoSaid'. A law counts once. -/
mutual
def uptoBulk {H : Type} : DataW H → Nat
  | .lit (.string bytes) => bytes.length + 1
  | .lit _ => 1
  | .nil => 1
  | .ptr d => uptoBulk d + 1
  | .slice elems spare => uptoBulkAll elems + uptoBulkAll spare + 1
  | .agg parts => uptoBulkAll parts + 1
  | .iface _ d => uptoBulk d + 1
  | .map entries => uptoBulkEntries entries + 1
  | .held _ => 1
def uptoBulkAll {H : Type} : List (DataW H) → Nat
  | [] => 0
  | d :: r => uptoBulk d + uptoBulkAll r
def uptoBulkEntries {H : Type} : List (Lit × DataW H) → Nat
  | [] => 0
  | x :: r => uptoBulkEntry x + uptoBulkEntries r
def uptoBulkEntry {H : Type} : Lit × DataW H → Nat
  | (.string bytes, d) => bytes.length + uptoBulk d + 1
  | (_, d) => uptoBulk d + 1
 end
def uptoSmall : (H : Type) → List (DataW H) → Bool := fun _ ds => decide (uptoBulkAll ds ≤ 1048576)
def OpenSpec.upto (s : _root_.Go.ChangeSpec) : _root_.Go.OpenSpec := { _root_.Go.OpenSpec.ofChange s with cond := some uptoSmall }

/-- 'plainsonglaw16.DraftLeaves', WHERE WHAT IT READS IS OF BULK AT MOST 1048576: true; the input reads as it did. -/
def draftLeavesUptoRow : OpenClaim := { program := "ytfjpaakonepafaa", sum := "3e4c445515d46f8cd0380eae69d2f67f8b16c59840c14a9c7ec0f996f09c9e90", func := "plainsong/plainsonglaw16.DraftLeaves", spec := "draftLeaves", recurses := true, apart := false, narrowed := true }
def DraftLeavesUptoSaid : Prop := draftLeavesUptoRow.holds Try.pinned (OpenSpec.upto draftLeavesSpec)

/-- 'plainsonglaw16.DraftBack', WHERE WHAT IT READS IS OF BULK AT MOST 1048576: true; the input reads as it did. -/
def draftBackUptoRow : OpenClaim := { program := "ytfjpaakonepafaa", sum := "3e4c445515d46f8cd0380eae69d2f67f8b16c59840c14a9c7ec0f996f09c9e90", func := "plainsong/plainsonglaw16.DraftBack", spec := "draftBack", recurses := true, apart := false, narrowed := true }
def DraftBackUptoSaid : Prop := draftBackUptoRow.holds Try.pinned (OpenSpec.upto draftBackSpec)

/-- 'plainsonglaw16.DraftNumbers', WHERE WHAT IT READS IS OF BULK AT MOST 1048576: true; the input reads as it did. -/
def draftNumbersUptoRow : OpenClaim := { program := "ytfjpaakonepafaa", sum := "3e4c445515d46f8cd0380eae69d2f67f8b16c59840c14a9c7ec0f996f09c9e90", func := "plainsong/plainsonglaw16.DraftNumbers", spec := "draftNumbers", recurses := true, apart := false, narrowed := true }
def DraftNumbersUptoSaid : Prop := draftNumbersUptoRow.holds Try.pinned (OpenSpec.upto draftNumbersSpec)

/-- 'plainsonglaw16.DraftTells', WHERE WHAT IT READS IS OF BULK AT MOST 1048576: true; the input reads as it did. -/
def draftTellsUptoRow : OpenClaim := { program := "ytfjpaakonepafaa", sum := "3e4c445515d46f8cd0380eae69d2f67f8b16c59840c14a9c7ec0f996f09c9e90", func := "plainsong/plainsonglaw16.DraftTells", spec := "draftTells", recurses := true, apart := false, narrowed := true }
def DraftTellsUptoSaid : Prop := draftTellsUptoRow.holds Try.pinned (OpenSpec.upto draftTellsSpec)

/-- 'plainsonglaw7.MatchNumbers', WHERE WHAT IT READS IS OF BULK AT MOST 1048576: true; the input reads as it did. -/
def matchNumbersUptoRow : OpenClaim := { program := "ytfjpaakonepafaa", sum := "3e4c445515d46f8cd0380eae69d2f67f8b16c59840c14a9c7ec0f996f09c9e90", func := "plainsong/plainsonglaw7.MatchNumbers", spec := "matchNumbers", unfollowed := true, recurses := true, apart := false, narrowed := true }
def MatchNumbersUptoSaid : Prop := matchNumbersUptoRow.holds Try.pinned (OpenSpec.upto matchNumbersSpec)

/-- 'plainsonglaw7.MatchTells', WHERE WHAT IT READS IS OF BULK AT MOST 1048576: true; the input reads as it did. -/
def matchTellsUptoRow : OpenClaim := { program := "ytfjpaakonepafaa", sum := "3e4c445515d46f8cd0380eae69d2f67f8b16c59840c14a9c7ec0f996f09c9e90", func := "plainsong/plainsonglaw7.MatchTells", spec := "matchTells", unfollowed := true, recurses := true, apart := false, narrowed := true }
def MatchTellsUptoSaid : Prop := matchTellsUptoRow.holds Try.pinned (OpenSpec.upto matchTellsSpec)

/-- 'plainsonglaw7.MatchNested', WHERE WHAT IT READS IS OF BULK AT MOST 1048576: true; the input reads as it did. -/
def matchNestedUptoRow : OpenClaim := { program := "ytfjpaakonepafaa", sum := "3e4c445515d46f8cd0380eae69d2f67f8b16c59840c14a9c7ec0f996f09c9e90", func := "plainsong/plainsonglaw7.MatchNested", spec := "matchNested", unfollowed := true, recurses := true, apart := false, narrowed := true }
def MatchNestedUptoSaid : Prop := matchNestedUptoRow.holds Try.pinned (OpenSpec.upto matchNestedSpec)

/-- 'plainsonglaw7.MatchWraps', WHERE WHAT IT READS IS OF BULK AT MOST 1048576: true; the input reads as it did. -/
def matchWrapsUptoRow : OpenClaim := { program := "ytfjpaakonepafaa", sum := "3e4c445515d46f8cd0380eae69d2f67f8b16c59840c14a9c7ec0f996f09c9e90", func := "plainsong/plainsonglaw7.MatchWraps", spec := "matchWraps", unfollowed := true, recurses := true, apart := false, narrowed := true }
def MatchWrapsUptoSaid : Prop := matchWrapsUptoRow.holds Try.pinned (OpenSpec.upto matchWrapsSpec)

end Rows
end Go.Proofs.Ytfjpaakonepafaa

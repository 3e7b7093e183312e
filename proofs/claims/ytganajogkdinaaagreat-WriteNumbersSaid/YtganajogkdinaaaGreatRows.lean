/-
  No cell of these rows narrows 'for every input' (looked for: loops, veiled, ifaces, maps, wideKeys, modest, calm, conditions, laid).
  DERIVED. THE GIVEN ROWS OF THIS SEAT. 12 by the template 'for every input the law returns true; each argument reads behind the call as it read before'; 0 by the template 'total and deterministic' (their statements: YtganajogkdinaaaGreatTotals.lean).
  GIVEN WITH THE SEED: the statements are not yours to turn. If you find one false, say at which input.
  Laid BY PROGRAM, IN A SANDBOX (cutbox-rows.mjs): the forced cells as the released guide's own fill.sh prints them over the translation 66a9bd25bce84202… (all of the seat's roots in one cut). By AI agents, Wed Nov 11 2026. No macro, syntax, notation, axiom, sorry.
-/
import Derived.Test.YtganajogkdinaaaGreatChecked
import GoSem.Claim
import GoSem.ClaimJoined
import GoSem.ClaimMapViews
import Derived.JoinedTies
import Derived.KernelRfl
namespace Go.Proofs.YtganajogkdinaaaGreat
/- THE CELL 'sum', in the pinned program and in every row, IS THE sha256 OF THE DUMP (.gsa) THAT YtganajogkdinaaaGreatProg.lean LOADS. Nothing in Lean hashes anything: it is a label: what it is worth is what the hold of that sum in a sandbox is worth. -/
noncomputable def Tryz.pinned : Pinned := { name := "ytganajogkdinaaagreat", sum := "66a9bd25bce84202739063a8e31bbed493bc0e47efdd3b7e38a78d4eda467b41", checked := Tryz.checked }
namespace Rows
def none {H : Type} : Left H := { results := [], args := [] }

/-- 'plainsonglaw6.ModuleCopies': WHATEVER THE INPUT: true; the input reads as it did. -/
def moduleCopiesSpec : ChangeSpec := { name := "moduleCopies", fn := fun _ => fun
  | [d] => { results := [.lit (.bool true)], args := [d] }
  | _ => none }
def moduleCopiesRow : OpenClaim := { program := "ytganajogkdinaaagreat", sum := "66a9bd25bce84202739063a8e31bbed493bc0e47efdd3b7e38a78d4eda467b41", func := "plainsong/plainsonglaw6.ModuleCopies", spec := "moduleCopies", unfollowed := true, recurses := true, apart := false }
def ModuleCopiesSaid : Prop := moduleCopiesRow.holds Tryz.pinned (OpenSpec.ofChange moduleCopiesSpec)

/-- ITS FALSE NEIGHBOUR: 'it returns false'. Refute it at one input. -/
def moduleCopiesWrong : ChangeSpec := { name := "moduleCopies", fn := fun _ => fun
  | [d] => { results := [.lit (.bool false)], args := [d] }
  | _ => none }
def ModuleCopiesWrongFalsely : Prop := moduleCopiesRow.holds Tryz.pinned (OpenSpec.ofChange moduleCopiesWrong)

/-- 'plainsonglaw6.ModuleSigs': WHATEVER THE INPUT: true; the input reads as it did. -/
def moduleSigsSpec : ChangeSpec := { name := "moduleSigs", fn := fun _ => fun
  | [d] => { results := [.lit (.bool true)], args := [d] }
  | _ => none }
def moduleSigsRow : OpenClaim := { program := "ytganajogkdinaaagreat", sum := "66a9bd25bce84202739063a8e31bbed493bc0e47efdd3b7e38a78d4eda467b41", func := "plainsong/plainsonglaw6.ModuleSigs", spec := "moduleSigs", unfollowed := true, recurses := true, apart := false }
def ModuleSigsSaid : Prop := moduleSigsRow.holds Tryz.pinned (OpenSpec.ofChange moduleSigsSpec)

/-- ITS FALSE NEIGHBOUR: 'it returns false'. Refute it at one input. -/
def moduleSigsWrong : ChangeSpec := { name := "moduleSigs", fn := fun _ => fun
  | [d] => { results := [.lit (.bool false)], args := [d] }
  | _ => none }
def ModuleSigsWrongFalsely : Prop := moduleSigsRow.holds Tryz.pinned (OpenSpec.ofChange moduleSigsWrong)

/-- 'plainsonglaw6.ModuleNumbers': WHATEVER THE INPUT: true; the input reads as it did. -/
def moduleNumbersSpec : ChangeSpec := { name := "moduleNumbers", fn := fun _ => fun
  | [] => { results := [.lit (.bool true)], args := [] }
  | _ => none }
def moduleNumbersRow : OpenClaim := { program := "ytganajogkdinaaagreat", sum := "66a9bd25bce84202739063a8e31bbed493bc0e47efdd3b7e38a78d4eda467b41", func := "plainsong/plainsonglaw6.ModuleNumbers", spec := "moduleNumbers", unfollowed := true, recurses := true, apart := false }
def ModuleNumbersSaid : Prop := moduleNumbersRow.holds Tryz.pinned (OpenSpec.ofChange moduleNumbersSpec)

/-- ITS FALSE NEIGHBOUR: 'it returns false'. Refute it at one input. -/
def moduleNumbersWrong : ChangeSpec := { name := "moduleNumbers", fn := fun _ => fun
  | [] => { results := [.lit (.bool false)], args := [] }
  | _ => none }
def ModuleNumbersWrongFalsely : Prop := moduleNumbersRow.holds Tryz.pinned (OpenSpec.ofChange moduleNumbersWrong)

/-- 'plainsonglaw6.ModuleTells': WHATEVER THE INPUT: true; the input reads as it did. -/
def moduleTellsSpec : ChangeSpec := { name := "moduleTells", fn := fun _ => fun
  | [d1, d2, d3, d4, d5, d6] => { results := [.lit (.bool true)], args := [d1, d2, d3, d4, d5, d6] }
  | _ => none }
def moduleTellsRow : OpenClaim := { program := "ytganajogkdinaaagreat", sum := "66a9bd25bce84202739063a8e31bbed493bc0e47efdd3b7e38a78d4eda467b41", func := "plainsong/plainsonglaw6.ModuleTells", spec := "moduleTells", unfollowed := true, recurses := true, apart := false }
def ModuleTellsSaid : Prop := moduleTellsRow.holds Tryz.pinned (OpenSpec.ofChange moduleTellsSpec)

/-- ITS FALSE NEIGHBOUR: 'it returns false'. Refute it at one input. -/
def moduleTellsWrong : ChangeSpec := { name := "moduleTells", fn := fun _ => fun
  | [d1, d2, d3, d4, d5, d6] => { results := [.lit (.bool false)], args := [d1, d2, d3, d4, d5, d6] }
  | _ => none }
def ModuleTellsWrongFalsely : Prop := moduleTellsRow.holds Tryz.pinned (OpenSpec.ofChange moduleTellsWrong)

/-- 'plainsonglaw25.ManifestNumbers': WHATEVER THE INPUT: true; the input reads as it did. -/
def manifestNumbersSpec : ChangeSpec := { name := "manifestNumbers", fn := fun _ => fun
  | [] => { results := [.lit (.bool true)], args := [] }
  | _ => none }
def manifestNumbersRow : OpenClaim := { program := "ytganajogkdinaaagreat", sum := "66a9bd25bce84202739063a8e31bbed493bc0e47efdd3b7e38a78d4eda467b41", func := "plainsong/plainsonglaw25.ManifestNumbers", spec := "manifestNumbers", unfollowed := true, recurses := true, apart := false }
def ManifestNumbersSaid : Prop := manifestNumbersRow.holds Tryz.pinned (OpenSpec.ofChange manifestNumbersSpec)

/-- ITS FALSE NEIGHBOUR: 'it returns false'. Refute it at one input. -/
def manifestNumbersWrong : ChangeSpec := { name := "manifestNumbers", fn := fun _ => fun
  | [] => { results := [.lit (.bool false)], args := [] }
  | _ => none }
def ManifestNumbersWrongFalsely : Prop := manifestNumbersRow.holds Tryz.pinned (OpenSpec.ofChange manifestNumbersWrong)

/-- 'plainsonglaw25.ManifestTells': WHATEVER THE INPUT: true; the input reads as it did. -/
def manifestTellsSpec : ChangeSpec := { name := "manifestTells", fn := fun _ => fun
  | [d1, d2, d3, d4, d5, d6] => { results := [.lit (.bool true)], args := [d1, d2, d3, d4, d5, d6] }
  | _ => none }
def manifestTellsRow : OpenClaim := { program := "ytganajogkdinaaagreat", sum := "66a9bd25bce84202739063a8e31bbed493bc0e47efdd3b7e38a78d4eda467b41", func := "plainsong/plainsonglaw25.ManifestTells", spec := "manifestTells", unfollowed := true, recurses := true, apart := false }
def ManifestTellsSaid : Prop := manifestTellsRow.holds Tryz.pinned (OpenSpec.ofChange manifestTellsSpec)

/-- ITS FALSE NEIGHBOUR: 'it returns false'. Refute it at one input. -/
def manifestTellsWrong : ChangeSpec := { name := "manifestTells", fn := fun _ => fun
  | [d1, d2, d3, d4, d5, d6] => { results := [.lit (.bool false)], args := [d1, d2, d3, d4, d5, d6] }
  | _ => none }
def ManifestTellsWrongFalsely : Prop := manifestTellsRow.holds Tryz.pinned (OpenSpec.ofChange manifestTellsWrong)

/-- 'plainsonglaw25.ManifestBack': WHATEVER THE INPUT: true; the input reads as it did. -/
def manifestBackSpec : ChangeSpec := { name := "manifestBack", fn := fun _ => fun
  | [d1, d2, d3, d4] => { results := [.lit (.bool true)], args := [d1, d2, d3, d4] }
  | _ => none }
def manifestBackRow : OpenClaim := { program := "ytganajogkdinaaagreat", sum := "66a9bd25bce84202739063a8e31bbed493bc0e47efdd3b7e38a78d4eda467b41", func := "plainsong/plainsonglaw25.ManifestBack", spec := "manifestBack", unfollowed := true, recurses := true, apart := false }
def ManifestBackSaid : Prop := manifestBackRow.holds Tryz.pinned (OpenSpec.ofChange manifestBackSpec)

/-- ITS FALSE NEIGHBOUR: 'it returns false'. Refute it at one input. -/
def manifestBackWrong : ChangeSpec := { name := "manifestBack", fn := fun _ => fun
  | [d1, d2, d3, d4] => { results := [.lit (.bool false)], args := [d1, d2, d3, d4] }
  | _ => none }
def ManifestBackWrongFalsely : Prop := manifestBackRow.holds Tryz.pinned (OpenSpec.ofChange manifestBackWrong)

/-- 'plainsonglaw8.WriteNumbers': WHATEVER THE INPUT: true; the input reads as it did. -/
def writeNumbersSpec : ChangeSpec := { name := "writeNumbers", fn := fun _ => fun
  | [] => { results := [.lit (.bool true)], args := [] }
  | _ => none }
def writeNumbersRow : OpenClaim := { program := "ytganajogkdinaaagreat", sum := "66a9bd25bce84202739063a8e31bbed493bc0e47efdd3b7e38a78d4eda467b41", func := "plainsong/plainsonglaw8.WriteNumbers", spec := "writeNumbers", unfollowed := true, recurses := true, apart := false }
def WriteNumbersSaid : Prop := writeNumbersRow.holds Tryz.pinned (OpenSpec.ofChange writeNumbersSpec)

/-- ITS FALSE NEIGHBOUR: 'it returns false'. Refute it at one input. -/
def writeNumbersWrong : ChangeSpec := { name := "writeNumbers", fn := fun _ => fun
  | [] => { results := [.lit (.bool false)], args := [] }
  | _ => none }
def WriteNumbersWrongFalsely : Prop := writeNumbersRow.holds Tryz.pinned (OpenSpec.ofChange writeNumbersWrong)

/-- 'plainsonglaw8.WriteTells': WHATEVER THE INPUT: true; the input reads as it did. -/
def writeTellsSpec : ChangeSpec := { name := "writeTells", fn := fun _ => fun
  | [d1, d2, d3] => { results := [.lit (.bool true)], args := [d1, d2, d3] }
  | _ => none }
def writeTellsRow : OpenClaim := { program := "ytganajogkdinaaagreat", sum := "66a9bd25bce84202739063a8e31bbed493bc0e47efdd3b7e38a78d4eda467b41", func := "plainsong/plainsonglaw8.WriteTells", spec := "writeTells", unfollowed := true, recurses := true, apart := false }
def WriteTellsSaid : Prop := writeTellsRow.holds Tryz.pinned (OpenSpec.ofChange writeTellsSpec)

/-- ITS FALSE NEIGHBOUR: 'it returns false'. Refute it at one input. -/
def writeTellsWrong : ChangeSpec := { name := "writeTells", fn := fun _ => fun
  | [d1, d2, d3] => { results := [.lit (.bool false)], args := [d1, d2, d3] }
  | _ => none }
def WriteTellsWrongFalsely : Prop := writeTellsRow.holds Tryz.pinned (OpenSpec.ofChange writeTellsWrong)

/-- 'plainsonglaw8.WriteParts': WHATEVER THE INPUT: true; the input reads as it did. -/
def writePartsSpec : ChangeSpec := { name := "writeParts", fn := fun _ => fun
  | [d1, d2, d3] => { results := [.lit (.bool true)], args := [d1, d2, d3] }
  | _ => none }
def writePartsRow : OpenClaim := { program := "ytganajogkdinaaagreat", sum := "66a9bd25bce84202739063a8e31bbed493bc0e47efdd3b7e38a78d4eda467b41", func := "plainsong/plainsonglaw8.WriteParts", spec := "writeParts", unfollowed := true, recurses := true, apart := false }
def WritePartsSaid : Prop := writePartsRow.holds Tryz.pinned (OpenSpec.ofChange writePartsSpec)

/-- ITS FALSE NEIGHBOUR: 'it returns false'. Refute it at one input. -/
def writePartsWrong : ChangeSpec := { name := "writeParts", fn := fun _ => fun
  | [d1, d2, d3] => { results := [.lit (.bool false)], args := [d1, d2, d3] }
  | _ => none }
def WritePartsWrongFalsely : Prop := writePartsRow.holds Tryz.pinned (OpenSpec.ofChange writePartsWrong)

/-- 'plainsonglaw9.ReadBack': WHATEVER THE INPUT: true; the input reads as it did. -/
def readBackSpec : ChangeSpec := { name := "readBack", fn := fun _ => fun
  | [d1, d2] => { results := [.lit (.bool true)], args := [d1, d2] }
  | _ => none }
def readBackRow : OpenClaim := { program := "ytganajogkdinaaagreat", sum := "66a9bd25bce84202739063a8e31bbed493bc0e47efdd3b7e38a78d4eda467b41", func := "plainsong/plainsonglaw9.ReadBack", spec := "readBack", inPlace := ["internal/bytealg.IndexByte"], unfollowed := true, recurses := true, apart := false }
def ReadBackSaid : Prop := readBackRow.holds Tryz.pinned (OpenSpec.ofChange readBackSpec)

/-- ITS FALSE NEIGHBOUR: 'it returns false'. Refute it at one input. -/
def readBackWrong : ChangeSpec := { name := "readBack", fn := fun _ => fun
  | [d1, d2] => { results := [.lit (.bool false)], args := [d1, d2] }
  | _ => none }
def ReadBackWrongFalsely : Prop := readBackRow.holds Tryz.pinned (OpenSpec.ofChange readBackWrong)

/-- 'plainsonglaw9.ReadWide': WHATEVER THE INPUT: true; the input reads as it did. -/
def readWideSpec : ChangeSpec := { name := "readWide", fn := fun _ => fun
  | [d1, d2, d3] => { results := [.lit (.bool true)], args := [d1, d2, d3] }
  | _ => none }
def readWideRow : OpenClaim := { program := "ytganajogkdinaaagreat", sum := "66a9bd25bce84202739063a8e31bbed493bc0e47efdd3b7e38a78d4eda467b41", func := "plainsong/plainsonglaw9.ReadWide", spec := "readWide", inPlace := ["internal/bytealg.IndexByte"], unfollowed := true, recurses := true, apart := false }
def ReadWideSaid : Prop := readWideRow.holds Tryz.pinned (OpenSpec.ofChange readWideSpec)

/-- ITS FALSE NEIGHBOUR: 'it returns false'. Refute it at one input. -/
def readWideWrong : ChangeSpec := { name := "readWide", fn := fun _ => fun
  | [d1, d2, d3] => { results := [.lit (.bool false)], args := [d1, d2, d3] }
  | _ => none }
def ReadWideWrongFalsely : Prop := readWideRow.holds Tryz.pinned (OpenSpec.ofChange readWideWrong)

/- THE SECOND FORM. 'bulk': how many values and letters a reading holds, each counted each time it is reached (what is shared counts as often as it is met; a slice's spare places count too). A statement '..UptoSaid' is the law's where the arguments, and the package variables that the reading takes, are together of bulk at most 1048576: NARROWER than '..Said'. Prove '..Said' where nothing that the law and all that it calls make is longer than what came in: it says more and counts as full. Else prove '..UptoSaid'. A law counts once. -/
mutual
def uptoBulk {H : Type} : DataW H → Nat
  | .lit (.string bytes) => bytes.length + 1
  | .lit _ => 1
  | .nil => 1
  | .ptr d => uptoBulk d + 1
  | .slice elems spare => uptoBulkAll elems + uptoBulkAll spare + 1
  | .agg parts => uptoBulkAll parts + 1
  | .iface _ d => uptoBulk d + 1
  | .map entries => uptoBulkEntries entries + 1
  | .held _ => 1
def uptoBulkAll {H : Type} : List (DataW H) → Nat
  | [] => 0
  | d :: r => uptoBulk d + uptoBulkAll r
def uptoBulkEntries {H : Type} : List (Lit × DataW H) → Nat
  | [] => 0
  | x :: r => uptoBulkEntry x + uptoBulkEntries r
def uptoBulkEntry {H : Type} : Lit × DataW H → Nat
  | (.string bytes, d) => bytes.length + uptoBulk d + 1
  | (_, d) => uptoBulk d + 1
 end
def uptoSmall : (H : Type) → List (DataW H) → Bool := fun _ ds => decide (uptoBulkAll ds ≤ 1048576)
def OpenSpec.upto (s : _root_.Go.ChangeSpec) : _root_.Go.OpenSpec := { _root_.Go.OpenSpec.ofChange s with cond := some uptoSmall }

/-- 'plainsonglaw6.ModuleCopies', WHERE WHAT IT READS IS OF BULK AT MOST 1048576: true; the input reads as it did. -/
def moduleCopiesUptoRow : OpenClaim := { program := "ytganajogkdinaaagreat", sum := "66a9bd25bce84202739063a8e31bbed493bc0e47efdd3b7e38a78d4eda467b41", func := "plainsong/plainsonglaw6.ModuleCopies", spec := "moduleCopies", unfollowed := true, recurses := true, apart := false, narrowed := true }
def ModuleCopiesUptoSaid : Prop := moduleCopiesUptoRow.holds Tryz.pinned (OpenSpec.upto moduleCopiesSpec)

/-- 'plainsonglaw6.ModuleSigs', WHERE WHAT IT READS IS OF BULK AT MOST 1048576: true; the input reads as it did. -/
def moduleSigsUptoRow : OpenClaim := { program := "ytganajogkdinaaagreat", sum := "66a9bd25bce84202739063a8e31bbed493bc0e47efdd3b7e38a78d4eda467b41", func := "plainsong/plainsonglaw6.ModuleSigs", spec := "moduleSigs", unfollowed := true, recurses := true, apart := false, narrowed := true }
def ModuleSigsUptoSaid : Prop := moduleSigsUptoRow.holds Tryz.pinned (OpenSpec.upto moduleSigsSpec)

/-- 'plainsonglaw6.ModuleNumbers', WHERE WHAT IT READS IS OF BULK AT MOST 1048576: true; the input reads as it did. -/
def moduleNumbersUptoRow : OpenClaim := { program := "ytganajogkdinaaagreat", sum := "66a9bd25bce84202739063a8e31bbed493bc0e47efdd3b7e38a78d4eda467b41", func := "plainsong/plainsonglaw6.ModuleNumbers", spec := "moduleNumbers", unfollowed := true, recurses := true, apart := false, narrowed := true }
def ModuleNumbersUptoSaid : Prop := moduleNumbersUptoRow.holds Tryz.pinned (OpenSpec.upto moduleNumbersSpec)

/-- 'plainsonglaw6.ModuleTells', WHERE WHAT IT READS IS OF BULK AT MOST 1048576: true; the input reads as it did. -/
def moduleTellsUptoRow : OpenClaim := { program := "ytganajogkdinaaagreat", sum := "66a9bd25bce84202739063a8e31bbed493bc0e47efdd3b7e38a78d4eda467b41", func := "plainsong/plainsonglaw6.ModuleTells", spec := "moduleTells", unfollowed := true, recurses := true, apart := false, narrowed := true }
def ModuleTellsUptoSaid : Prop := moduleTellsUptoRow.holds Tryz.pinned (OpenSpec.upto moduleTellsSpec)

/-- 'plainsonglaw25.ManifestNumbers', WHERE WHAT IT READS IS OF BULK AT MOST 1048576: true; the input reads as it did. -/
def manifestNumbersUptoRow : OpenClaim := { program := "ytganajogkdinaaagreat", sum := "66a9bd25bce84202739063a8e31bbed493bc0e47efdd3b7e38a78d4eda467b41", func := "plainsong/plainsonglaw25.ManifestNumbers", spec := "manifestNumbers", unfollowed := true, recurses := true, apart := false, narrowed := true }
def ManifestNumbersUptoSaid : Prop := manifestNumbersUptoRow.holds Tryz.pinned (OpenSpec.upto manifestNumbersSpec)

/-- 'plainsonglaw25.ManifestTells', WHERE WHAT IT READS IS OF BULK AT MOST 1048576: true; the input reads as it did. -/
def manifestTellsUptoRow : OpenClaim := { program := "ytganajogkdinaaagreat", sum := "66a9bd25bce84202739063a8e31bbed493bc0e47efdd3b7e38a78d4eda467b41", func := "plainsong/plainsonglaw25.ManifestTells", spec := "manifestTells", unfollowed := true, recurses := true, apart := false, narrowed := true }
def ManifestTellsUptoSaid : Prop := manifestTellsUptoRow.holds Tryz.pinned (OpenSpec.upto manifestTellsSpec)

/-- 'plainsonglaw25.ManifestBack', WHERE WHAT IT READS IS OF BULK AT MOST 1048576: true; the input reads as it did. -/
def manifestBackUptoRow : OpenClaim := { program := "ytganajogkdinaaagreat", sum := "66a9bd25bce84202739063a8e31bbed493bc0e47efdd3b7e38a78d4eda467b41", func := "plainsong/plainsonglaw25.ManifestBack", spec := "manifestBack", unfollowed := true, recurses := true, apart := false, narrowed := true }
def ManifestBackUptoSaid : Prop := manifestBackUptoRow.holds Tryz.pinned (OpenSpec.upto manifestBackSpec)

/-- 'plainsonglaw8.WriteNumbers', WHERE WHAT IT READS IS OF BULK AT MOST 1048576: true; the input reads as it did. -/
def writeNumbersUptoRow : OpenClaim := { program := "ytganajogkdinaaagreat", sum := "66a9bd25bce84202739063a8e31bbed493bc0e47efdd3b7e38a78d4eda467b41", func := "plainsong/plainsonglaw8.WriteNumbers", spec := "writeNumbers", unfollowed := true, recurses := true, apart := false, narrowed := true }
def WriteNumbersUptoSaid : Prop := writeNumbersUptoRow.holds Tryz.pinned (OpenSpec.upto writeNumbersSpec)

/-- 'plainsonglaw8.WriteTells', WHERE WHAT IT READS IS OF BULK AT MOST 1048576: true; the input reads as it did. -/
def writeTellsUptoRow : OpenClaim := { program := "ytganajogkdinaaagreat", sum := "66a9bd25bce84202739063a8e31bbed493bc0e47efdd3b7e38a78d4eda467b41", func := "plainsong/plainsonglaw8.WriteTells", spec := "writeTells", unfollowed := true, recurses := true, apart := false, narrowed := true }
def WriteTellsUptoSaid : Prop := writeTellsUptoRow.holds Tryz.pinned (OpenSpec.upto writeTellsSpec)

/-- 'plainsonglaw8.WriteParts', WHERE WHAT IT READS IS OF BULK AT MOST 1048576: true; the input reads as it did. -/
def writePartsUptoRow : OpenClaim := { program := "ytganajogkdinaaagreat", sum := "66a9bd25bce84202739063a8e31bbed493bc0e47efdd3b7e38a78d4eda467b41", func := "plainsong/plainsonglaw8.WriteParts", spec := "writeParts", unfollowed := true, recurses := true, apart := false, narrowed := true }
def WritePartsUptoSaid : Prop := writePartsUptoRow.holds Tryz.pinned (OpenSpec.upto writePartsSpec)

/-- 'plainsonglaw9.ReadBack', WHERE WHAT IT READS IS OF BULK AT MOST 1048576: true; the input reads as it did. -/
def readBackUptoRow : OpenClaim := { program := "ytganajogkdinaaagreat", sum := "66a9bd25bce84202739063a8e31bbed493bc0e47efdd3b7e38a78d4eda467b41", func := "plainsong/plainsonglaw9.ReadBack", spec := "readBack", inPlace := ["internal/bytealg.IndexByte"], unfollowed := true, recurses := true, apart := false, narrowed := true }
def ReadBackUptoSaid : Prop := readBackUptoRow.holds Tryz.pinned (OpenSpec.upto readBackSpec)

/-- 'plainsonglaw9.ReadWide', WHERE WHAT IT READS IS OF BULK AT MOST 1048576: true; the input reads as it did. -/
def readWideUptoRow : OpenClaim := { program := "ytganajogkdinaaagreat", sum := "66a9bd25bce84202739063a8e31bbed493bc0e47efdd3b7e38a78d4eda467b41", func := "plainsong/plainsonglaw9.ReadWide", spec := "readWide", inPlace := ["internal/bytealg.IndexByte"], unfollowed := true, recurses := true, apart := false, narrowed := true }
def ReadWideUptoSaid : Prop := readWideUptoRow.holds Tryz.pinned (OpenSpec.upto readWideSpec)

end Rows
end Go.Proofs.YtganajogkdinaaaGreat

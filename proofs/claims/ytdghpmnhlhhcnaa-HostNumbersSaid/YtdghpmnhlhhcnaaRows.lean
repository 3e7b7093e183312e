/-
  No cell of these rows narrows 'for every input' (looked for: loops, veiled, ifaces, maps, wideKeys, modest, calm, conditions, laid).
  DERIVED. THE GIVEN ROWS OF THIS SEAT. 11 by the template 'for every input the law returns true; each argument reads behind the call as it read before'; 0 by the template 'total and deterministic' (their statements: YtdghpmnhlhhcnaaTotals.lean).
  GIVEN WITH THE SEED: the statements are not yours to turn. If you find one false, say at which input.
  Laid BY PROGRAM, IN A SANDBOX (cutbox-rows.mjs): the forced cells as the released guide's own fill.sh prints them over the translation b1ba9168584c8283… (all of the seat's roots in one cut). By AI agents, Wed Nov 11 2026. No macro, syntax, notation, axiom, sorry.
-/
import Derived.Test.YtdghpmnhlhhcnaaChecked
import GoSem.Claim
import GoSem.ClaimJoined
import GoSem.ClaimMapViews
import Derived.JoinedTies
import Derived.KernelRfl
namespace Go.Proofs.Ytdghpmnhlhhcnaa
/- THE CELL 'sum', in the pinned program and in every row, IS THE sha256 OF THE DUMP (.gsa) THAT YtdghpmnhlhhcnaaProg.lean LOADS. Nothing in Lean hashes anything: it is a label: what it is worth is what the hold of that sum in a sandbox is worth. -/
noncomputable def Try.pinned : Pinned := { name := "ytdghpmnhlhhcnaa", sum := "b1ba9168584c82839c2524be548ce396b93404d366d69f9c554b4ce3374d59cd", checked := Try.checked }
namespace Rows
def none {H : Type} : Left H := { results := [], args := [] }

/-- 'plainsonglaw13.HostNumbers': WHATEVER THE INPUT: true; the input reads as it did. -/
def hostNumbersSpec : ChangeSpec := { name := "hostNumbers", fn := fun _ => fun
  | [] => { results := [.lit (.bool true)], args := [] }
  | _ => none }
def hostNumbersRow : OpenClaim := { program := "ytdghpmnhlhhcnaa", sum := "b1ba9168584c82839c2524be548ce396b93404d366d69f9c554b4ce3374d59cd", func := "plainsong/plainsonglaw13.HostNumbers", spec := "hostNumbers", apart := false }
def HostNumbersSaid : Prop := hostNumbersRow.holds Try.pinned (OpenSpec.ofChange hostNumbersSpec)

/-- ITS FALSE NEIGHBOUR: 'it returns false'. Refute it at one input. -/
def hostNumbersWrong : ChangeSpec := { name := "hostNumbers", fn := fun _ => fun
  | [] => { results := [.lit (.bool false)], args := [] }
  | _ => none }
def HostNumbersWrongFalsely : Prop := hostNumbersRow.holds Try.pinned (OpenSpec.ofChange hostNumbersWrong)

/-- 'plainsonglaw13.HostPlays': WHATEVER THE INPUT: true; the input reads as it did. -/
def hostPlaysSpec : ChangeSpec := { name := "hostPlays", fn := fun _ => fun
  | [d1, d2] => { results := [.lit (.bool true)], args := [d1, d2] }
  | _ => none }
def hostPlaysRow : OpenClaim := { program := "ytdghpmnhlhhcnaa", sum := "b1ba9168584c82839c2524be548ce396b93404d366d69f9c554b4ce3374d59cd", func := "plainsong/plainsonglaw13.HostPlays", spec := "hostPlays", apart := false }
def HostPlaysSaid : Prop := hostPlaysRow.holds Try.pinned (OpenSpec.ofChange hostPlaysSpec)

/-- ITS FALSE NEIGHBOUR: 'it returns false'. Refute it at one input. -/
def hostPlaysWrong : ChangeSpec := { name := "hostPlays", fn := fun _ => fun
  | [d1, d2] => { results := [.lit (.bool false)], args := [d1, d2] }
  | _ => none }
def HostPlaysWrongFalsely : Prop := hostPlaysRow.holds Try.pinned (OpenSpec.ofChange hostPlaysWrong)

/-- 'plainsonglaw13.HostOrder': WHATEVER THE INPUT: true; the input reads as it did. -/
def hostOrderSpec : ChangeSpec := { name := "hostOrder", fn := fun _ => fun
  | [d1, d2] => { results := [.lit (.bool true)], args := [d1, d2] }
  | _ => none }
def hostOrderRow : OpenClaim := { program := "ytdghpmnhlhhcnaa", sum := "b1ba9168584c82839c2524be548ce396b93404d366d69f9c554b4ce3374d59cd", func := "plainsong/plainsonglaw13.HostOrder", spec := "hostOrder", apart := false }
def HostOrderSaid : Prop := hostOrderRow.holds Try.pinned (OpenSpec.ofChange hostOrderSpec)

/-- ITS FALSE NEIGHBOUR: 'it returns false'. Refute it at one input. -/
def hostOrderWrong : ChangeSpec := { name := "hostOrder", fn := fun _ => fun
  | [d1, d2] => { results := [.lit (.bool false)], args := [d1, d2] }
  | _ => none }
def HostOrderWrongFalsely : Prop := hostOrderRow.holds Try.pinned (OpenSpec.ofChange hostOrderWrong)

/-- 'plainsonglaw4.LebShort': WHATEVER THE INPUT: true; the input reads as it did. -/
def lebShortSpec : ChangeSpec := { name := "lebShort", fn := fun _ => fun
  | [d1, d2] => { results := [.lit (.bool true)], args := [d1, d2] }
  | _ => none }
def lebShortRow : OpenClaim := { program := "ytdghpmnhlhhcnaa", sum := "b1ba9168584c82839c2524be548ce396b93404d366d69f9c554b4ce3374d59cd", func := "plainsong/plainsonglaw4.LebShort", spec := "lebShort", apart := false }
def LebShortSaid : Prop := lebShortRow.holds Try.pinned (OpenSpec.ofChange lebShortSpec)

/-- ITS FALSE NEIGHBOUR: 'it returns false'. Refute it at one input. -/
def lebShortWrong : ChangeSpec := { name := "lebShort", fn := fun _ => fun
  | [d1, d2] => { results := [.lit (.bool false)], args := [d1, d2] }
  | _ => none }
def LebShortWrongFalsely : Prop := lebShortRow.holds Try.pinned (OpenSpec.ofChange lebShortWrong)

/-- 'plainsonglaw4.LebNumbers': WHATEVER THE INPUT: true; the input reads as it did. -/
def lebNumbersSpec : ChangeSpec := { name := "lebNumbers", fn := fun _ => fun
  | [] => { results := [.lit (.bool true)], args := [] }
  | _ => none }
def lebNumbersRow : OpenClaim := { program := "ytdghpmnhlhhcnaa", sum := "b1ba9168584c82839c2524be548ce396b93404d366d69f9c554b4ce3374d59cd", func := "plainsong/plainsonglaw4.LebNumbers", spec := "lebNumbers", apart := false }
def LebNumbersSaid : Prop := lebNumbersRow.holds Try.pinned (OpenSpec.ofChange lebNumbersSpec)

/-- ITS FALSE NEIGHBOUR: 'it returns false'. Refute it at one input. -/
def lebNumbersWrong : ChangeSpec := { name := "lebNumbers", fn := fun _ => fun
  | [] => { results := [.lit (.bool false)], args := [] }
  | _ => none }
def LebNumbersWrongFalsely : Prop := lebNumbersRow.holds Try.pinned (OpenSpec.ofChange lebNumbersWrong)

/-- 'plainsonglaw4.LebTells': WHATEVER THE INPUT: true; the input reads as it did. -/
def lebTellsSpec : ChangeSpec := { name := "lebTells", fn := fun _ => fun
  | [d1, d2, d3, d4, d5, d6] => { results := [.lit (.bool true)], args := [d1, d2, d3, d4, d5, d6] }
  | _ => none }
def lebTellsRow : OpenClaim := { program := "ytdghpmnhlhhcnaa", sum := "b1ba9168584c82839c2524be548ce396b93404d366d69f9c554b4ce3374d59cd", func := "plainsong/plainsonglaw4.LebTells", spec := "lebTells", apart := false }
def LebTellsSaid : Prop := lebTellsRow.holds Try.pinned (OpenSpec.ofChange lebTellsSpec)

/-- ITS FALSE NEIGHBOUR: 'it returns false'. Refute it at one input. -/
def lebTellsWrong : ChangeSpec := { name := "lebTells", fn := fun _ => fun
  | [d1, d2, d3, d4, d5, d6] => { results := [.lit (.bool false)], args := [d1, d2, d3, d4, d5, d6] }
  | _ => none }
def LebTellsWrongFalsely : Prop := lebTellsRow.holds Try.pinned (OpenSpec.ofChange lebTellsWrong)

/-- 'plainsonglaw4.LebBack': WHATEVER THE INPUT: true; the input reads as it did. -/
def lebBackSpec : ChangeSpec := { name := "lebBack", fn := fun _ => fun
  | [d1, d2, d3, d4] => { results := [.lit (.bool true)], args := [d1, d2, d3, d4] }
  | _ => none }
def lebBackRow : OpenClaim := { program := "ytdghpmnhlhhcnaa", sum := "b1ba9168584c82839c2524be548ce396b93404d366d69f9c554b4ce3374d59cd", func := "plainsong/plainsonglaw4.LebBack", spec := "lebBack", apart := false }
def LebBackSaid : Prop := lebBackRow.holds Try.pinned (OpenSpec.ofChange lebBackSpec)

/-- ITS FALSE NEIGHBOUR: 'it returns false'. Refute it at one input. -/
def lebBackWrong : ChangeSpec := { name := "lebBack", fn := fun _ => fun
  | [d1, d2, d3, d4] => { results := [.lit (.bool false)], args := [d1, d2, d3, d4] }
  | _ => none }
def LebBackWrongFalsely : Prop := lebBackRow.holds Try.pinned (OpenSpec.ofChange lebBackWrong)

/-- 'plainsonglaw12.PagesNumbers': WHATEVER THE INPUT: true; the input reads as it did. -/
def pagesNumbersSpec : ChangeSpec := { name := "pagesNumbers", fn := fun _ => fun
  | [] => { results := [.lit (.bool true)], args := [] }
  | _ => none }
def pagesNumbersRow : OpenClaim := { program := "ytdghpmnhlhhcnaa", sum := "b1ba9168584c82839c2524be548ce396b93404d366d69f9c554b4ce3374d59cd", func := "plainsong/plainsonglaw12.PagesNumbers", spec := "pagesNumbers", apart := false }
def PagesNumbersSaid : Prop := pagesNumbersRow.holds Try.pinned (OpenSpec.ofChange pagesNumbersSpec)

/-- ITS FALSE NEIGHBOUR: 'it returns false'. Refute it at one input. -/
def pagesNumbersWrong : ChangeSpec := { name := "pagesNumbers", fn := fun _ => fun
  | [] => { results := [.lit (.bool false)], args := [] }
  | _ => none }
def PagesNumbersWrongFalsely : Prop := pagesNumbersRow.holds Try.pinned (OpenSpec.ofChange pagesNumbersWrong)

/-- 'plainsonglaw12.PagesPlays': WHATEVER THE INPUT: true; the input reads as it did. -/
def pagesPlaysSpec : ChangeSpec := { name := "pagesPlays", fn := fun _ => fun
  | [d1, d2, d3] => { results := [.lit (.bool true)], args := [d1, d2, d3] }
  | _ => none }
def pagesPlaysRow : OpenClaim := { program := "ytdghpmnhlhhcnaa", sum := "b1ba9168584c82839c2524be548ce396b93404d366d69f9c554b4ce3374d59cd", func := "plainsong/plainsonglaw12.PagesPlays", spec := "pagesPlays", apart := false }
def PagesPlaysSaid : Prop := pagesPlaysRow.holds Try.pinned (OpenSpec.ofChange pagesPlaysSpec)

/-- ITS FALSE NEIGHBOUR: 'it returns false'. Refute it at one input. -/
def pagesPlaysWrong : ChangeSpec := { name := "pagesPlays", fn := fun _ => fun
  | [d1, d2, d3] => { results := [.lit (.bool false)], args := [d1, d2, d3] }
  | _ => none }
def PagesPlaysWrongFalsely : Prop := pagesPlaysRow.holds Try.pinned (OpenSpec.ofChange pagesPlaysWrong)

/-- 'plainsonglaw12.PagesCopies': WHATEVER THE INPUT: true; the input reads as it did. -/
def pagesCopiesSpec : ChangeSpec := { name := "pagesCopies", fn := fun _ => fun
  | [d1, d2, d3, d4] => { results := [.lit (.bool true)], args := [d1, d2, d3, d4] }
  | _ => none }
def pagesCopiesRow : OpenClaim := { program := "ytdghpmnhlhhcnaa", sum := "b1ba9168584c82839c2524be548ce396b93404d366d69f9c554b4ce3374d59cd", func := "plainsong/plainsonglaw12.PagesCopies", spec := "pagesCopies", apart := false }
def PagesCopiesSaid : Prop := pagesCopiesRow.holds Try.pinned (OpenSpec.ofChange pagesCopiesSpec)

/-- ITS FALSE NEIGHBOUR: 'it returns false'. Refute it at one input. -/
def pagesCopiesWrong : ChangeSpec := { name := "pagesCopies", fn := fun _ => fun
  | [d1, d2, d3, d4] => { results := [.lit (.bool false)], args := [d1, d2, d3, d4] }
  | _ => none }
def PagesCopiesWrongFalsely : Prop := pagesCopiesRow.holds Try.pinned (OpenSpec.ofChange pagesCopiesWrong)

/-- 'plainsonglaw12.PagesGrows': WHATEVER THE INPUT: true; the input reads as it did. -/
def pagesGrowsSpec : ChangeSpec := { name := "pagesGrows", fn := fun _ => fun
  | [d1, d2, d3] => { results := [.lit (.bool true)], args := [d1, d2, d3] }
  | _ => none }
def pagesGrowsRow : OpenClaim := { program := "ytdghpmnhlhhcnaa", sum := "b1ba9168584c82839c2524be548ce396b93404d366d69f9c554b4ce3374d59cd", func := "plainsong/plainsonglaw12.PagesGrows", spec := "pagesGrows", apart := false }
def PagesGrowsSaid : Prop := pagesGrowsRow.holds Try.pinned (OpenSpec.ofChange pagesGrowsSpec)

/-- ITS FALSE NEIGHBOUR: 'it returns false'. Refute it at one input. -/
def pagesGrowsWrong : ChangeSpec := { name := "pagesGrows", fn := fun _ => fun
  | [d1, d2, d3] => { results := [.lit (.bool false)], args := [d1, d2, d3] }
  | _ => none }
def PagesGrowsWrongFalsely : Prop := pagesGrowsRow.holds Try.pinned (OpenSpec.ofChange pagesGrowsWrong)

/- THE SECOND FORM. 'bulk': how many values and letters a reading holds, each counted each time it is reached (what is shared counts as often as it is met; a slice's spare places count too). A statement '..UptoSaid' is the law's where the arguments, and the package variables that the reading takes, are together of bulk at most 1048576: NARROWER than '..Said'. Prove '..Said' where nothing that the law and all that it calls make is longer than what came in: it says more and counts as full. Else prove '..UptoSaid'. A law counts once. -/
mutual
def uptoBulk {H : Type} : DataW H → Nat
  | .lit (.string bytes) => bytes.length + 1
  | .lit _ => 1
  | .nil => 1
  | .ptr d => uptoBulk d + 1
  | .slice elems spare => uptoBulkAll elems + uptoBulkAll spare + 1
  | .agg parts => uptoBulkAll parts + 1
  | .iface _ d => uptoBulk d + 1
  | .map entries => uptoBulkEntries entries + 1
  | .held _ => 1
def uptoBulkAll {H : Type} : List (DataW H) → Nat
  | [] => 0
  | d :: r => uptoBulk d + uptoBulkAll r
def uptoBulkEntries {H : Type} : List (Lit × DataW H) → Nat
  | [] => 0
  | x :: r => uptoBulkEntry x + uptoBulkEntries r
def uptoBulkEntry {H : Type} : Lit × DataW H → Nat
  | (.string bytes, d) => bytes.length + uptoBulk d + 1
  | (_, d) => uptoBulk d + 1
 end
def uptoSmall : (H : Type) → List (DataW H) → Bool := fun _ ds => decide (uptoBulkAll ds ≤ 1048576)
def OpenSpec.upto (s : _root_.Go.ChangeSpec) : _root_.Go.OpenSpec := { _root_.Go.OpenSpec.ofChange s with cond := some uptoSmall }

/-- 'plainsonglaw13.HostNumbers', WHERE WHAT IT READS IS OF BULK AT MOST 1048576: true; the input reads as it did. -/
def hostNumbersUptoRow : OpenClaim := { program := "ytdghpmnhlhhcnaa", sum := "b1ba9168584c82839c2524be548ce396b93404d366d69f9c554b4ce3374d59cd", func := "plainsong/plainsonglaw13.HostNumbers", spec := "hostNumbers", apart := false, narrowed := true }
def HostNumbersUptoSaid : Prop := hostNumbersUptoRow.holds Try.pinned (OpenSpec.upto hostNumbersSpec)

/-- 'plainsonglaw13.HostPlays', WHERE WHAT IT READS IS OF BULK AT MOST 1048576: true; the input reads as it did. -/
def hostPlaysUptoRow : OpenClaim := { program := "ytdghpmnhlhhcnaa", sum := "b1ba9168584c82839c2524be548ce396b93404d366d69f9c554b4ce3374d59cd", func := "plainsong/plainsonglaw13.HostPlays", spec := "hostPlays", apart := false, narrowed := true }
def HostPlaysUptoSaid : Prop := hostPlaysUptoRow.holds Try.pinned (OpenSpec.upto hostPlaysSpec)

/-- 'plainsonglaw13.HostOrder', WHERE WHAT IT READS IS OF BULK AT MOST 1048576: true; the input reads as it did. -/
def hostOrderUptoRow : OpenClaim := { program := "ytdghpmnhlhhcnaa", sum := "b1ba9168584c82839c2524be548ce396b93404d366d69f9c554b4ce3374d59cd", func := "plainsong/plainsonglaw13.HostOrder", spec := "hostOrder", apart := false, narrowed := true }
def HostOrderUptoSaid : Prop := hostOrderUptoRow.holds Try.pinned (OpenSpec.upto hostOrderSpec)

/-- 'plainsonglaw4.LebShort', WHERE WHAT IT READS IS OF BULK AT MOST 1048576: true; the input reads as it did. -/
def lebShortUptoRow : OpenClaim := { program := "ytdghpmnhlhhcnaa", sum := "b1ba9168584c82839c2524be548ce396b93404d366d69f9c554b4ce3374d59cd", func := "plainsong/plainsonglaw4.LebShort", spec := "lebShort", apart := false, narrowed := true }
def LebShortUptoSaid : Prop := lebShortUptoRow.holds Try.pinned (OpenSpec.upto lebShortSpec)

/-- 'plainsonglaw4.LebNumbers', WHERE WHAT IT READS IS OF BULK AT MOST 1048576: true; the input reads as it did. -/
def lebNumbersUptoRow : OpenClaim := { program := "ytdghpmnhlhhcnaa", sum := "b1ba9168584c82839c2524be548ce396b93404d366d69f9c554b4ce3374d59cd", func := "plainsong/plainsonglaw4.LebNumbers", spec := "lebNumbers", apart := false, narrowed := true }
def LebNumbersUptoSaid : Prop := lebNumbersUptoRow.holds Try.pinned (OpenSpec.upto lebNumbersSpec)

/-- 'plainsonglaw4.LebTells', WHERE WHAT IT READS IS OF BULK AT MOST 1048576: true; the input reads as it did. -/
def lebTellsUptoRow : OpenClaim := { program := "ytdghpmnhlhhcnaa", sum := "b1ba9168584c82839c2524be548ce396b93404d366d69f9c554b4ce3374d59cd", func := "plainsong/plainsonglaw4.LebTells", spec := "lebTells", apart := false, narrowed := true }
def LebTellsUptoSaid : Prop := lebTellsUptoRow.holds Try.pinned (OpenSpec.upto lebTellsSpec)

/-- 'plainsonglaw4.LebBack', WHERE WHAT IT READS IS OF BULK AT MOST 1048576: true; the input reads as it did. -/
def lebBackUptoRow : OpenClaim := { program := "ytdghpmnhlhhcnaa", sum := "b1ba9168584c82839c2524be548ce396b93404d366d69f9c554b4ce3374d59cd", func := "plainsong/plainsonglaw4.LebBack", spec := "lebBack", apart := false, narrowed := true }
def LebBackUptoSaid : Prop := lebBackUptoRow.holds Try.pinned (OpenSpec.upto lebBackSpec)

/-- 'plainsonglaw12.PagesNumbers', WHERE WHAT IT READS IS OF BULK AT MOST 1048576: true; the input reads as it did. -/
def pagesNumbersUptoRow : OpenClaim := { program := "ytdghpmnhlhhcnaa", sum := "b1ba9168584c82839c2524be548ce396b93404d366d69f9c554b4ce3374d59cd", func := "plainsong/plainsonglaw12.PagesNumbers", spec := "pagesNumbers", apart := false, narrowed := true }
def PagesNumbersUptoSaid : Prop := pagesNumbersUptoRow.holds Try.pinned (OpenSpec.upto pagesNumbersSpec)

/-- 'plainsonglaw12.PagesPlays', WHERE WHAT IT READS IS OF BULK AT MOST 1048576: true; the input reads as it did. -/
def pagesPlaysUptoRow : OpenClaim := { program := "ytdghpmnhlhhcnaa", sum := "b1ba9168584c82839c2524be548ce396b93404d366d69f9c554b4ce3374d59cd", func := "plainsong/plainsonglaw12.PagesPlays", spec := "pagesPlays", apart := false, narrowed := true }
def PagesPlaysUptoSaid : Prop := pagesPlaysUptoRow.holds Try.pinned (OpenSpec.upto pagesPlaysSpec)

/-- 'plainsonglaw12.PagesCopies', WHERE WHAT IT READS IS OF BULK AT MOST 1048576: true; the input reads as it did. -/
def pagesCopiesUptoRow : OpenClaim := { program := "ytdghpmnhlhhcnaa", sum := "b1ba9168584c82839c2524be548ce396b93404d366d69f9c554b4ce3374d59cd", func := "plainsong/plainsonglaw12.PagesCopies", spec := "pagesCopies", apart := false, narrowed := true }
def PagesCopiesUptoSaid : Prop := pagesCopiesUptoRow.holds Try.pinned (OpenSpec.upto pagesCopiesSpec)

/-- 'plainsonglaw12.PagesGrows', WHERE WHAT IT READS IS OF BULK AT MOST 1048576: true; the input reads as it did. -/
def pagesGrowsUptoRow : OpenClaim := { program := "ytdghpmnhlhhcnaa", sum := "b1ba9168584c82839c2524be548ce396b93404d366d69f9c554b4ce3374d59cd", func := "plainsong/plainsonglaw12.PagesGrows", spec := "pagesGrows", apart := false, narrowed := true }
def PagesGrowsUptoSaid : Prop := pagesGrowsUptoRow.holds Try.pinned (OpenSpec.upto pagesGrowsSpec)

end Rows
end Go.Proofs.Ytdghpmnhlhhcnaa

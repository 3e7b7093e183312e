/- What comes in: structs. -/
import Derived.Test.YtdghpmnhlhhcnaaGHN
import Derived.Test.YtdghpmnhlhhcnaaEvIn
set_option linter.all false
namespace Go.R1HN
open Go.Proofs Go.Ev
set_option maxRecDepth 100000
def host_Answer.wf (x : host_Answer) : Prop := x.Values.length * 8 ≤ bigN ∧ (∀ y ∈ x.Values, inR .u64 y)
theorem host_Answer.dec {n : Nat} {cs : List FV} (h : Fits Try.prog (n + 8) 26 cs) : ∃ x : host_Answer, cs = x.e ∧ x.wf := by
  obtain ⟨parts, rfl, hl, hp⟩ := Fits.struct (n := n + 7) Try.underlying26 h
  match parts, hl with
  | [p0, p1], _ =>
    have h0 := hp 0 _ p0 rfl rfl
    obtain ⟨x0, rfl, z0, w0⟩ := (Fits.slice (n := n + 6) (sz := 1) (by_ := 8) Try.underlying24 (by kernel_rfl) (by kernel_rfl) (fun _ h => Fits.int Try.underlying27 h)) h0
    have h1 := hp 1 _ p1 rfl rfl
    obtain ⟨x1, rfl⟩ := Fits.bool (n := n + 6) Try.underlying4 h1
    exact ⟨⟨x0, x1⟩, rfl, z0, w0⟩
def plainsonglaw13_Ask.wf (x : plainsonglaw13_Ask) : Prop := inR .i64 x.Index ∧ x.Args.length * 8 ≤ bigN ∧ (∀ y ∈ x.Args, inR .u64 y) ∧ x.T.length * 8 ≤ bigN ∧ (∀ y ∈ x.T, inR .i64 y)
theorem plainsonglaw13_Ask.dec {n : Nat} {cs : List FV} (h : Fits Try.prog (n + 8) 30 cs) : ∃ x : plainsonglaw13_Ask, cs = x.e ∧ x.wf := by
  obtain ⟨parts, rfl, hl, hp⟩ := Fits.struct (n := n + 7) Try.underlying30 h
  match parts, hl with
  | [p0, p1, p2], _ =>
    have h0 := hp 0 _ p0 rfl rfl
    obtain ⟨x0, rfl, w0⟩ := Fits.int (n := n + 6) Try.underlying3 h0
    have h1 := hp 1 _ p1 rfl rfl
    obtain ⟨x1, rfl, z1, w1⟩ := (Fits.slice (n := n + 6) (sz := 1) (by_ := 8) Try.underlying24 (by kernel_rfl) (by kernel_rfl) (fun _ h => Fits.int Try.underlying27 h)) h1
    have h2 := hp 2 _ p2 rfl rfl
    obtain ⟨x2, rfl, z2, w2⟩ := (Fits.slice (n := n + 6) (sz := 1) (by_ := 8) Try.underlying28 (by kernel_rfl) (by kernel_rfl) (fun _ h => Fits.int Try.underlying3 h)) h2
    exact ⟨⟨x0, x1, x2⟩, rfl, w0, z1, w1, z2, w2⟩
end Go.R1HN

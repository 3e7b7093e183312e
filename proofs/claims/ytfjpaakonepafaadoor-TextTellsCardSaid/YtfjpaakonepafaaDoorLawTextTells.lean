/- TextTells returns true for every input, and its arguments read afterwards as they read before. No condition. -/
import Derived.Test.YtfjpaakonepafaaDoorRows
import Derived.Test.YtfjpaakonepafaaDoorGTells
import Derived.Test.YtfjpaakonepafaaDoorEvIn
import Derived.Test.YtfjpaakonepafaaDoorCards
import Derived.Test.YtfjpaakonepafaaDoorTie
import Derived.LaidMore
import Derived.SevenTiedAt
import Derived.Lib.LaidTab
import Derived.WalkKit
import Derived.ProofKit
import Derived.OpenShut
import Derived.ShutString
import Derived.ChangeOld
import Derived.Below
import Derived.SizedLaws
set_option linter.all false
namespace Go.Proofs.YtfjpaakonepafaaDoor.textTells
open Go.ChangeShapes Go.WideShapes Go.ChangeAt Go.RowKit Go.Ev Go.R3D
set_option linter.unusedVariables false
def laidL : List (String × DataW Unit) := [("math/bits.deBruijn32tab", Rows.laid_math_bits_deBruijn32tab), ("math/bits.deBruijn64tab", Rows.laid_math_bits_deBruijn64tab), ("internal/strconv.uint64pow10", Rows.laid_internal_strconv_uint64pow10)]
set_option maxRecDepth 100000 in
theorem door_met (os : Os) (args : Array Value) : laidMetH Tryd.prog laidL ((World.doorLaid Tryd.prog 400 os).forCall (fun _ _ => 0) ⟨#[], args, []⟩).memory :=
  laidMetH_of_parts3 (fuel := 8) (laidMet_of_run' 8 (by kernel_rfl) (by kernel_rfl)) (by kernel_rfl) (by kernel_rfl)
theorem own : ownKnob Tryd.prog.godebug = none := by kernel_rfl
theorem laidOut : laidOutB Tryd.prog = true := by kernel_rfl
theorem mixed : Tryd.prog.follows .mixedOrders = true := by kernel_rfl
set_option maxRecDepth 100000 in
theorem lifted (os : Os) (started : os.Started) (H : Type) (enc : TypeId × Value → H) :
    ReturnsInHanded {} Tryd.checked os 4 .any (fun w args => (Rows.textTellsSpec.pre enc Tryd.prog Tryd.f4 [] false w args ∧ laidMetH Tryd.prog laidL w) ∧ sizedMet enc Tryd.prog Tryd.f4 (OpenSpec.ofChange Rows.textTellsSpec) false w args)
      (Rows.textTellsSpec.post enc Tryd.prog Tryd.f4 false true false false) := by
  refine returnsInHanded_of_change_and (C := Tryd.checked) (X := fun w _ => laidMetH Tryd.prog laidL w) (fun _ _ _ hh h => h.of_heap hh) own started (by kernel_rfl) Tryd.func4
    (ChangeSpec.witness_shaped (enc := enc) (C := Tryd.checked) (os := os) (X := fun w _ => laidMetH Tryd.prog laidL w) false (World.doorLaid Tryd.prog 400 os) #[.slice none 0 0, .string ByteArray.empty] 8 rfl (World.shaped_of_RefB (by kernel_rfl) (by kernel_rfl)) (by kernel_rfl) (by kernel_rfl) (by kernel_rfl) (door_met os _)) ?_
  intro W base args ds gs before hval0 hW hcnd hsz0 hL _
  have hsz : (DataW.weightsEach Tryd.prog (Tryd.f4.params.toList ++ Rows.textTellsSpec.plain.varTypes Tryd.prog) (ds ++ gs)).all (· ≤ reachBytes) = true := hsz0
  have hval : ∀ (j : Nat) t v, Tryd.f4.params[j]? = some t → args[j]? = some v → Value.okWide Tryd.prog W .any base t v := hval0
  have hW' := hW
  obtain ⟨p, q, hA0, hV, rfl, hfz, hnd⟩ := hW
  have hA : DataW.TrodAll enc Tryd.prog W 0 (fun _ => true) true Tryd.f4.params.toList args.toList ds p := hA0
  rw [Tryd.params4] at hA hval hsz
  obtain ⟨v0, vs0, d0, ds0, p0, q0, hargs, rfl, rfl, h0, r0⟩ := trodAll_cons hA
  obtain ⟨v1, vs1, d1, ds1, p1, q1, rfl, rfl, rfl, h1, r1⟩ := trodAll_cons r0
  obtain ⟨rfl, rfl, rfl⟩ := trodAll_nil r1
  obtain rfl : args = #[v0, v1] := by cases args; simp_all
  obtain ⟨rfl, rfl⟩ := trodVars_none hV
  obtain ⟨c0, f0, a0⟩ := arg_in (n := 20) (by kernel_rfl) (hval 0 23 v0 rfl rfl) h0 (weights_each (ts := [23, 9] ++ Rows.textTellsSpec.plain.varTypes Tryd.prog) (i := 0) rfl rfl hsz)
  obtain ⟨x0, rfl, z0, w0⟩ := (Fits.slice (n := 19) (sz := 1) (by_ := 1) Tryd.underlying23 (by kernel_rfl) (by kernel_rfl) (fun _ h => Fits.int Tryd.underlying5 h)) f0
  obtain ⟨c1, f1, a1⟩ := arg_in (n := 20) (by kernel_rfl) (hval 1 9 v1 rfl rfl) h1 (weights_each (ts := [23, 9] ++ Rows.textTellsSpec.plain.varTypes Tryd.prog) (i := 1) rfl rfl hsz)
  obtain ⟨x1, rfl, w1⟩ := Fits.str Tryd.underlying9 f1
  clear hA0 hval0 hsz0 hsz
  obtain ⟨fuel, hfuel⟩ := Go.R3D.TextTells z0 w0 w1
  have run : evCall Tryd.prog Go.R3D.cfg Go.R3D.prims fuel 4 [.c (.v (.sl 1 (List.map (eI .u8) x0) none)), .c (.v (.str x1))] [] = some (.c (.v (.bool true)), []) := Go.R3D.law5_TextTells.ok fuel x0 x1 true hfuel
  have ars : ARs (snap W) noRho [] [.c (.v (.sl 1 (List.map (eI .u8) x0) none)), .c (.v (.str x1))] [v0, v1] := by
    simp only [ARs]
    exact ⟨v0, _, rfl, a0, ⟨v1, _, rfl, a1, rfl⟩⟩
  refine (link mixed Go.R3D.primsOk run ars).mono fun e W' ⟨he, bel⟩ => ?_
  subst he
  exact ⟨_, rfl, _, _, _, [], _, [], hW', trodAll_mk1 (shut_bool Tryd.underlying4 _), (trodAll_cons_mk (back_in laidOut (by kernel_rfl) h0 bel) (trodAll_cons_mk (back_in laidOut (by kernel_rfl) h1 bel) trodAll_mk0)), rfl, bel.frame _, fun h => by cases h⟩
theorem over : Rows.textTellsRow.holds Tryd.pinned (OpenSpec.ofChange Rows.textTellsSpec) :=
  OpenClaim.holds_of_wide 4 Tryd.f4 rfl rfl rfl rfl rfl rfl rfl ⟨rfl, rfl, rfl, rfl, rfl⟩ rfl rfl rfl rfl rfl (by kernel_rfl) Tryd.func4 (by kernel_rfl)
    (of_decide_eq_true (by kernel_rfl)) (by unfold Func.isWrapper; first | (rw [if_pos (by decide +kernel)]; kernel_rfl) | (rw [if_neg (by decide +kernel)]; exact ⟨rfl, rfl⟩))
    (fun os started H enc _ => lifted os started H enc)
set_option maxRecDepth 100000 in
theorem proved : Rows.TextTellsCardSaid :=
  Claim7.holds_tied_plain_at .later [] [.data, .data, .data] true Rows.textTellsCard.stood.harness Rows.textTellsCard.stood.looks
    over (fun _ h => by cases h) (by kernel_rfl) (fun _ h => by cases h) textTells_row_tie rfl ⟨rfl, rfl⟩ (by kernel_rfl) rfl
    (fun f fn hf hfn => by
      obtain rfl : f = 4 := Option.some.inj ((show Tryd.prog.funcNamed "plainsong/plainsonglaw5.TextTells" = some 4 by kernel_rfl).symm.trans hf) |>.symm
      obtain rfl : fn = Tryd.f4 := (Option.some.inj (Tryd.func4.symm.trans hfn)).symm
      exact ⟨by kernel_rfl, fun j t ht => by
        rw [Tryd.params4] at ht
        have hm : t ∈ [23, 9] := by simpa using Array.mem_of_getElem? ht
        have hall : ([23, 9].all fun u => !Tryd.prog.wantsStandIn u) = true := by kernel_rfl
        exact (show Tryd.prog.wantsStandIn t = false by simpa using List.all_eq_true.1 hall t hm)⟩)
    (by kernel_rfl)
#print axioms proved
end Go.Proofs.YtfjpaakonepafaaDoor.textTells
namespace Go.Proofs.YtfjpaakonepafaaDoor
/-- The card, under a short name, for the claim. -/
theorem textTells_holds : Rows.TextTellsCardSaid := textTells.proved
end Go.Proofs.YtfjpaakonepafaaDoor


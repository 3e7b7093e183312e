/- IntsCounts returns true for every input, and its arguments read afterwards as they read before. No condition. -/
import Derived.Test.YtoajmaedpaalkaaDoorRows
import Derived.Test.YtoajmaedpaalkaaDoorGICounts
import Derived.Test.YtoajmaedpaalkaaDoorEvIn
import Derived.Test.YtoajmaedpaalkaaDoorGIPrim
import Derived.Test.YtoajmaedpaalkaaDoorCards
import Derived.Test.YtoajmaedpaalkaaDoorTie
import Derived.LaidMore
import Derived.SevenTiedAt
import Derived.Lib.LaidTab
import Derived.WalkKit
import Derived.ProofKit
import Derived.OpenShut
import Derived.ShutString
import Derived.ChangeOld
import Derived.Below
import Derived.SizedLaws
set_option linter.all false
namespace Go.Proofs.YtoajmaedpaalkaaDoor.intsCounts
open Go.ChangeShapes Go.WideShapes Go.ChangeAt Go.RowKit Go.Ev Go.R2D
set_option linter.unusedVariables false
theorem gTab : Tryd.prog.globalNamed "math/bits.deBruijn64tab" = some 0 := by kernel_rfl
theorem gTabT : (Tryd.prog.globals[0]?).map (·.type) = some 47 := by kernel_rfl
def laidL : List (String × DataW Unit) := [("math/bits.deBruijn64tab", Rows.laid_math_bits_deBruijn64tab)]
set_option maxRecDepth 100000 in
theorem door_met (os : Os) (args : Array Value) : laidMetH Tryd.prog laidL ((World.doorLaid Tryd.prog 400 os).forCall (fun _ _ => 0) ⟨#[], args, []⟩).memory :=
  laidMetH_of_parts3 (fuel := 8) (laidMet_of_run' 8 (by kernel_rfl) (by kernel_rfl)) (by kernel_rfl) (by kernel_rfl)
theorem laid_tab : laidL = [("math/bits.deBruijn64tab", Lib.tabData .u8 (Lib.deBruijn64tab.map fun n : Nat => (n : Int)))] := by kernel_rfl
theorem tab_in {W : World} (h : laidMetH Tryd.prog laidL W) : TabIn W := by
  rw [MakeChecks.laidMetH_plain _ _ _ (by kernel_rfl), laid_tab] at h
  have hT := Lib.tabIs_of_head (n := 64) (e := 5) gTab gTabT Tryd.underlying47 Tryd.underlying5 (by kernel_rfl) (by kernel_rfl) h
  intro j hj
  have hl : Lib.deBruijn64tab.length = 64 := by decide
  have := hT.cell gTab j (by rw [List.length_map, hl]; exact hj)
  rw [this]
  simp only [List.getD_eq_getElem?_getD, List.getElem?_map]
  rw [List.getElem?_eq_getElem (by omega)]
  rfl
theorem tab_arr {W : World} (h : TabIn W) : ∃ arr, snap W 0 = some arr ∧ ∀ j, j < 64 → arr[j]? = some (.int .u8 (Lib.deBruijn64tab.getD j 0)) := by
  have h0 := h 0 (by decide)
  unfold World.cell? at h0
  unfold snap
  split at h0
  · rename_i c ty fz hw
    simp only at hw
    rw [hw]
    refine ⟨c, rfl, fun j hj => ?_⟩
    have := h j hj
    rw [cell_at hw] at this
    exact this
  · cases h0
theorem own : ownKnob Tryd.prog.godebug = none := by kernel_rfl
theorem laidOut : laidOutB Tryd.prog = true := by kernel_rfl
theorem mixed : Tryd.prog.follows .mixedOrders = true := by kernel_rfl
set_option maxRecDepth 100000 in
theorem lifted (os : Os) (started : os.Started) (H : Type) (enc : TypeId × Value → H) :
    ReturnsInHanded {} Tryd.checked os 7 .any (fun w args => (Rows.intsCountsSpec.pre enc Tryd.prog Tryd.f7 [] false w args ∧ laidMetH Tryd.prog laidL w) ∧ sizedMet enc Tryd.prog Tryd.f7 (OpenSpec.ofChange Rows.intsCountsSpec) false w args)
      (Rows.intsCountsSpec.post enc Tryd.prog Tryd.f7 false true false false) := by
  refine returnsInHanded_of_change_and (C := Tryd.checked) (X := fun w _ => laidMetH Tryd.prog laidL w) (fun _ _ _ hh h => h.of_heap hh) own started (by kernel_rfl) Tryd.func7
    (ChangeSpec.witness_shaped (enc := enc) (C := Tryd.checked) (os := os) (X := fun w _ => laidMetH Tryd.prog laidL w) false (World.doorLaid Tryd.prog 400 os) #[.int .u64 0, .int .u64 0] 8 rfl (World.shaped_of_RefB (by kernel_rfl) (by kernel_rfl)) (by kernel_rfl) (by kernel_rfl) (by kernel_rfl) (door_met os _)) ?_
  intro W base args ds gs before hval0 hW hcnd hsz0 hL _
  have hsz : (DataW.weightsEach Tryd.prog (Tryd.f7.params.toList ++ Rows.intsCountsSpec.plain.varTypes Tryd.prog) (ds ++ gs)).all (· ≤ reachBytes) = true := hsz0
  have hval : ∀ (j : Nat) t v, Tryd.f7.params[j]? = some t → args[j]? = some v → Value.okWide Tryd.prog W .any base t v := hval0
  have hW' := hW
  obtain ⟨p, q, hA0, hV, rfl, hfz, hnd⟩ := hW
  have hA : DataW.TrodAll enc Tryd.prog W 0 (fun _ => true) true Tryd.f7.params.toList args.toList ds p := hA0
  rw [Tryd.params7] at hA hval hsz
  obtain ⟨v0, vs0, d0, ds0, p0, q0, hargs, rfl, rfl, h0, r0⟩ := trodAll_cons hA
  obtain ⟨v1, vs1, d1, ds1, p1, q1, rfl, rfl, rfl, h1, r1⟩ := trodAll_cons r0
  obtain ⟨rfl, rfl, rfl⟩ := trodAll_nil r1
  obtain rfl : args = #[v0, v1] := by cases args; simp_all
  obtain ⟨rfl, rfl⟩ := trodVars_none hV
  obtain ⟨c0, f0, a0⟩ := arg_in (n := 20) (by kernel_rfl) (hval 0 24 v0 rfl rfl) h0 (weights_each (ts := [24, 24] ++ Rows.intsCountsSpec.plain.varTypes Tryd.prog) (i := 0) rfl rfl hsz)
  obtain ⟨x0, rfl, w0⟩ := Fits.int Tryd.underlying24 f0
  obtain ⟨c1, f1, a1⟩ := arg_in (n := 20) (by kernel_rfl) (hval 1 24 v1 rfl rfl) h1 (weights_each (ts := [24, 24] ++ Rows.intsCountsSpec.plain.varTypes Tryd.prog) (i := 1) rfl rfl hsz)
  obtain ⟨x1, rfl, w1⟩ := Fits.int Tryd.underlying24 f1
  clear hA0 hval0 hsz0 hsz
  obtain ⟨fuel, hfuel⟩ := Go.R2D.IntsCounts w0 w1
  have run : evCall Tryd.prog Go.R2D.cfg Go.R2D.prims fuel 7 [.c (.v (.int .u64 x0)), .c (.v (.int .u64 x1))] [] = some (.c (.v (.bool true)), []) := Go.R2D.law1_IntsCounts.ok fuel x0 x1 true hfuel
  have ars : ARs (snap W) noRho [] [.c (.v (.int .u64 x0)), .c (.v (.int .u64 x1))] [v0, v1] := by
    simp only [ARs]
    exact ⟨v0, _, rfl, a0, ⟨v1, _, rfl, a1, rfl⟩⟩
  obtain ⟨arr, harr, htab⟩ := tab_arr (tab_in hL)
  refine (@linkG ⟨fun c => if c = 0 then some arr else none⟩ _ mixed _ _ (@Go.R2D.primsOk ⟨fun c => if c = 0 then some arr else none⟩ ⟨arr, rfl, htab⟩) _ _ _ _ _ _ run (fun c a hc => by
    simp only at hc
    split at hc
    · rename_i h0; subst h0; cases hc; exact harr
    · cases hc) ars).mono fun e W' ⟨he, bel⟩ => ?_
  subst he
  exact ⟨_, rfl, _, _, _, [], _, [], hW', trodAll_mk1 (shut_bool Tryd.underlying4 _), (trodAll_cons_mk (back_in laidOut (by kernel_rfl) h0 bel) (trodAll_cons_mk (back_in laidOut (by kernel_rfl) h1 bel) trodAll_mk0)), rfl, bel.frame _, fun h => by cases h⟩
theorem over : Rows.intsCountsRow.holds Tryd.pinned (OpenSpec.ofChange Rows.intsCountsSpec) :=
  OpenClaim.holds_of_wide 7 Tryd.f7 rfl rfl rfl rfl rfl rfl rfl ⟨rfl, rfl, rfl, rfl, rfl⟩ rfl rfl rfl rfl rfl (by kernel_rfl) Tryd.func7 (by kernel_rfl)
    (of_decide_eq_true (by kernel_rfl)) (by unfold Func.isWrapper; first | (rw [if_pos (by decide +kernel)]; kernel_rfl) | (rw [if_neg (by decide +kernel)]; exact ⟨rfl, rfl⟩))
    (fun os started H enc _ => lifted os started H enc)
set_option maxRecDepth 100000 in
theorem proved : Rows.IntsCountsCardSaid :=
  Claim7.holds_tied_plain_at .later [] [.data] true Rows.intsCountsCard.stood.harness Rows.intsCountsCard.stood.looks
    over (fun _ h => by cases h) (by kernel_rfl) (fun _ h => by cases h) intsCounts_row_tie rfl ⟨rfl, rfl⟩ (by kernel_rfl) rfl
    (fun f fn hf hfn => by
      obtain rfl : f = 7 := Option.some.inj ((show Tryd.prog.funcNamed "plainsong/plainsonglaw1.IntsCounts" = some 7 by kernel_rfl).symm.trans hf) |>.symm
      obtain rfl : fn = Tryd.f7 := (Option.some.inj (Tryd.func7.symm.trans hfn)).symm
      exact ⟨by kernel_rfl, fun j t ht => by
        rw [Tryd.params7] at ht
        have hm : t ∈ [24, 24] := by simpa using Array.mem_of_getElem? ht
        have hall : ([24, 24].all fun u => !Tryd.prog.wantsStandIn u) = true := by kernel_rfl
        exact (show Tryd.prog.wantsStandIn t = false by simpa using List.all_eq_true.1 hall t hm)⟩)
    (by kernel_rfl)
#print axioms proved
end Go.Proofs.YtoajmaedpaalkaaDoor.intsCounts
namespace Go.Proofs.YtoajmaedpaalkaaDoor
/-- The card, under a short name, for the claim. -/
theorem intsCounts_holds : Rows.IntsCountsCardSaid := intsCounts.proved
end Go.Proofs.YtoajmaedpaalkaaDoor


/- IntsTells returns true for every input, and its arguments read afterwards as they read before. No condition. -/
import Derived.Test.YtoajmaedpaalkaaDoorRows
import Derived.Test.YtoajmaedpaalkaaDoorGITells
import Derived.Test.YtoajmaedpaalkaaDoorEvIn
import Derived.Test.YtoajmaedpaalkaaDoorGIPrim
import Derived.Test.YtoajmaedpaalkaaDoorCards
import Derived.Test.YtoajmaedpaalkaaDoorTie
import Derived.LaidMore
import Derived.SevenTiedAt
import Derived.Lib.LaidTab
import Derived.WalkKit
import Derived.ProofKit
import Derived.OpenShut
import Derived.ShutString
import Derived.ChangeOld
import Derived.Below
import Derived.SizedLaws
set_option linter.all false
namespace Go.Proofs.YtoajmaedpaalkaaDoor.intsTells
open Go.ChangeShapes Go.WideShapes Go.ChangeAt Go.RowKit Go.Ev Go.R2D
set_option linter.unusedVariables false
theorem gTab : Tryd.prog.globalNamed "math/bits.deBruijn64tab" = some 0 := by kernel_rfl
theorem gTabT : (Tryd.prog.globals[0]?).map (·.type) = some 47 := by kernel_rfl
def laidL : List (String × DataW Unit) := [("math/bits.deBruijn64tab", Rows.laid_math_bits_deBruijn64tab)]
set_option maxRecDepth 100000 in
theorem door_met (os : Os) (args : Array Value) : laidMetH Tryd.prog laidL ((World.doorLaid Tryd.prog 400 os).forCall (fun _ _ => 0) ⟨#[], args, []⟩).memory :=
  laidMetH_of_parts3 (fuel := 8) (laidMet_of_run' 8 (by kernel_rfl) (by kernel_rfl)) (by kernel_rfl) (by kernel_rfl)
theorem laid_tab : laidL = [("math/bits.deBruijn64tab", Lib.tabData .u8 (Lib.deBruijn64tab.map fun n : Nat => (n : Int)))] := by kernel_rfl
theorem tab_in {W : World} (h : laidMetH Tryd.prog laidL W) : TabIn W := by
  rw [MakeChecks.laidMetH_plain _ _ _ (by kernel_rfl), laid_tab] at h
  have hT := Lib.tabIs_of_head (n := 64) (e := 5) gTab gTabT Tryd.underlying47 Tryd.underlying5 (by kernel_rfl) (by kernel_rfl) h
  intro j hj
  have hl : Lib.deBruijn64tab.length = 64 := by decide
  have := hT.cell gTab j (by rw [List.length_map, hl]; exact hj)
  rw [this]
  simp only [List.getD_eq_getElem?_getD, List.getElem?_map]
  rw [List.getElem?_eq_getElem (by omega)]
  rfl
theorem tab_arr {W : World} (h : TabIn W) : ∃ arr, snap W 0 = some arr ∧ ∀ j, j < 64 → arr[j]? = some (.int .u8 (Lib.deBruijn64tab.getD j 0)) := by
  have h0 := h 0 (by decide)
  unfold World.cell? at h0
  unfold snap
  split at h0
  · rename_i c ty fz hw
    simp only at hw
    rw [hw]
    refine ⟨c, rfl, fun j hj => ?_⟩
    have := h j hj
    rw [cell_at hw] at this
    exact this
  · cases h0
theorem own : ownKnob Tryd.prog.godebug = none := by kernel_rfl
theorem laidOut : laidOutB Tryd.prog = true := by kernel_rfl
theorem mixed : Tryd.prog.follows .mixedOrders = true := by kernel_rfl
set_option maxRecDepth 100000 in
theorem lifted (os : Os) (started : os.Started) (H : Type) (enc : TypeId × Value → H) :
    ReturnsInHanded {} Tryd.checked os 4 .any (fun w args => (Rows.intsTellsSpec.pre enc Tryd.prog Tryd.f4 [] false w args ∧ laidMetH Tryd.prog laidL w) ∧ sizedMet enc Tryd.prog Tryd.f4 (OpenSpec.ofChange Rows.intsTellsSpec) false w args)
      (Rows.intsTellsSpec.post enc Tryd.prog Tryd.f4 false true false false) := by
  refine returnsInHanded_of_change_and (C := Tryd.checked) (X := fun w _ => laidMetH Tryd.prog laidL w) (fun _ _ _ hh h => h.of_heap hh) own started (by kernel_rfl) Tryd.func4
    (ChangeSpec.witness_shaped (enc := enc) (C := Tryd.checked) (os := os) (X := fun w _ => laidMetH Tryd.prog laidL w) false (World.doorLaid Tryd.prog 400 os) #[.int .i64 0, .int .u64 0, .int .u64 0, .int .i64 0, .int .i64 0, .int .i64 0] 8 rfl (World.shaped_of_RefB (by kernel_rfl) (by kernel_rfl)) (by kernel_rfl) (by kernel_rfl) (by kernel_rfl) (door_met os _)) ?_
  intro W base args ds gs before hval0 hW hcnd hsz0 hL _
  have hsz : (DataW.weightsEach Tryd.prog (Tryd.f4.params.toList ++ Rows.intsTellsSpec.plain.varTypes Tryd.prog) (ds ++ gs)).all (· ≤ reachBytes) = true := hsz0
  have hval : ∀ (j : Nat) t v, Tryd.f4.params[j]? = some t → args[j]? = some v → Value.okWide Tryd.prog W .any base t v := hval0
  have hW' := hW
  obtain ⟨p, q, hA0, hV, rfl, hfz, hnd⟩ := hW
  have hA : DataW.TrodAll enc Tryd.prog W 0 (fun _ => true) true Tryd.f4.params.toList args.toList ds p := hA0
  rw [Tryd.params4] at hA hval hsz
  obtain ⟨v0, vs0, d0, ds0, p0, q0, hargs, rfl, rfl, h0, r0⟩ := trodAll_cons hA
  obtain ⟨v1, vs1, d1, ds1, p1, q1, rfl, rfl, rfl, h1, r1⟩ := trodAll_cons r0
  obtain ⟨v2, vs2, d2, ds2, p2, q2, rfl, rfl, rfl, h2, r2⟩ := trodAll_cons r1
  obtain ⟨v3, vs3, d3, ds3, p3, q3, rfl, rfl, rfl, h3, r3⟩ := trodAll_cons r2
  obtain ⟨v4, vs4, d4, ds4, p4, q4, rfl, rfl, rfl, h4, r4⟩ := trodAll_cons r3
  obtain ⟨v5, vs5, d5, ds5, p5, q5, rfl, rfl, rfl, h5, r5⟩ := trodAll_cons r4
  obtain ⟨rfl, rfl, rfl⟩ := trodAll_nil r5
  obtain rfl : args = #[v0, v1, v2, v3, v4, v5] := by cases args; simp_all
  obtain ⟨rfl, rfl⟩ := trodVars_none hV
  obtain ⟨c0, f0, a0⟩ := arg_in (n := 20) (by kernel_rfl) (hval 0 3 v0 rfl rfl) h0 (weights_each (ts := [3, 24, 24, 3, 3, 3] ++ Rows.intsTellsSpec.plain.varTypes Tryd.prog) (i := 0) rfl rfl hsz)
  obtain ⟨x0, rfl, w0⟩ := Fits.int Tryd.underlying3 f0
  obtain ⟨c1, f1, a1⟩ := arg_in (n := 20) (by kernel_rfl) (hval 1 24 v1 rfl rfl) h1 (weights_each (ts := [3, 24, 24, 3, 3, 3] ++ Rows.intsTellsSpec.plain.varTypes Tryd.prog) (i := 1) rfl rfl hsz)
  obtain ⟨x1, rfl, w1⟩ := Fits.int Tryd.underlying24 f1
  obtain ⟨c2, f2, a2⟩ := arg_in (n := 20) (by kernel_rfl) (hval 2 24 v2 rfl rfl) h2 (weights_each (ts := [3, 24, 24, 3, 3, 3] ++ Rows.intsTellsSpec.plain.varTypes Tryd.prog) (i := 2) rfl rfl hsz)
  obtain ⟨x2, rfl, w2⟩ := Fits.int Tryd.underlying24 f2
  obtain ⟨c3, f3, a3⟩ := arg_in (n := 20) (by kernel_rfl) (hval 3 3 v3 rfl rfl) h3 (weights_each (ts := [3, 24, 24, 3, 3, 3] ++ Rows.intsTellsSpec.plain.varTypes Tryd.prog) (i := 3) rfl rfl hsz)
  obtain ⟨x3, rfl, w3⟩ := Fits.int Tryd.underlying3 f3
  obtain ⟨c4, f4, a4⟩ := arg_in (n := 20) (by kernel_rfl) (hval 4 3 v4 rfl rfl) h4 (weights_each (ts := [3, 24, 24, 3, 3, 3] ++ Rows.intsTellsSpec.plain.varTypes Tryd.prog) (i := 4) rfl rfl hsz)
  obtain ⟨x4, rfl, w4⟩ := Fits.int Tryd.underlying3 f4
  obtain ⟨c5, f5, a5⟩ := arg_in (n := 20) (by kernel_rfl) (hval 5 3 v5 rfl rfl) h5 (weights_each (ts := [3, 24, 24, 3, 3, 3] ++ Rows.intsTellsSpec.plain.varTypes Tryd.prog) (i := 5) rfl rfl hsz)
  obtain ⟨x5, rfl, w5⟩ := Fits.int Tryd.underlying3 f5
  clear hA0 hval0 hsz0 hsz
  obtain ⟨fuel, hfuel⟩ := Go.R2D.IntsTells w0 w1 w2 w3 w4 w5
  have run : evCall Tryd.prog Go.R2D.cfg Go.R2D.prims fuel 4 [.c (.v (.int .i64 x0)), .c (.v (.int .u64 x1)), .c (.v (.int .u64 x2)), .c (.v (.int .i64 x3)), .c (.v (.int .i64 x4)), .c (.v (.int .i64 x5))] [] = some (.c (.v (.bool true)), []) := Go.R2D.law1_IntsTells.ok fuel x0 x1 x2 x3 x4 x5 true hfuel
  have ars : ARs (snap W) noRho [] [.c (.v (.int .i64 x0)), .c (.v (.int .u64 x1)), .c (.v (.int .u64 x2)), .c (.v (.int .i64 x3)), .c (.v (.int .i64 x4)), .c (.v (.int .i64 x5))] [v0, v1, v2, v3, v4, v5] := by
    simp only [ARs]
    exact ⟨v0, _, rfl, a0, ⟨v1, _, rfl, a1, ⟨v2, _, rfl, a2, ⟨v3, _, rfl, a3, ⟨v4, _, rfl, a4, ⟨v5, _, rfl, a5, rfl⟩⟩⟩⟩⟩⟩
  obtain ⟨arr, harr, htab⟩ := tab_arr (tab_in hL)
  refine (@linkG ⟨fun c => if c = 0 then some arr else none⟩ _ mixed _ _ (@Go.R2D.primsOk ⟨fun c => if c = 0 then some arr else none⟩ ⟨arr, rfl, htab⟩) _ _ _ _ _ _ run (fun c a hc => by
    simp only at hc
    split at hc
    · rename_i h0; subst h0; cases hc; exact harr
    · cases hc) ars).mono fun e W' ⟨he, bel⟩ => ?_
  subst he
  exact ⟨_, rfl, _, _, _, [], _, [], hW', trodAll_mk1 (shut_bool Tryd.underlying4 _), (trodAll_cons_mk (back_in laidOut (by kernel_rfl) h0 bel) (trodAll_cons_mk (back_in laidOut (by kernel_rfl) h1 bel) (trodAll_cons_mk (back_in laidOut (by kernel_rfl) h2 bel) (trodAll_cons_mk (back_in laidOut (by kernel_rfl) h3 bel) (trodAll_cons_mk (back_in laidOut (by kernel_rfl) h4 bel) (trodAll_cons_mk (back_in laidOut (by kernel_rfl) h5 bel) trodAll_mk0)))))), rfl, bel.frame _, fun h => by cases h⟩
theorem over : Rows.intsTellsRow.holds Tryd.pinned (OpenSpec.ofChange Rows.intsTellsSpec) :=
  OpenClaim.holds_of_wide 4 Tryd.f4 rfl rfl rfl rfl rfl rfl rfl ⟨rfl, rfl, rfl, rfl, rfl⟩ rfl rfl rfl rfl rfl (by kernel_rfl) Tryd.func4 (by kernel_rfl)
    (of_decide_eq_true (by kernel_rfl)) (by unfold Func.isWrapper; first | (rw [if_pos (by decide +kernel)]; kernel_rfl) | (rw [if_neg (by decide +kernel)]; exact ⟨rfl, rfl⟩))
    (fun os started H enc _ => lifted os started H enc)
set_option maxRecDepth 100000 in
theorem proved : Rows.IntsTellsCardSaid :=
  Claim7.holds_tied_plain_at .later [] [.data] true Rows.intsTellsCard.stood.harness Rows.intsTellsCard.stood.looks
    over (fun _ h => by cases h) (by kernel_rfl) (fun _ h => by cases h) intsTells_row_tie rfl ⟨rfl, rfl⟩ (by kernel_rfl) rfl
    (fun f fn hf hfn => by
      obtain rfl : f = 4 := Option.some.inj ((show Tryd.prog.funcNamed "plainsong/plainsonglaw1.IntsTells" = some 4 by kernel_rfl).symm.trans hf) |>.symm
      obtain rfl : fn = Tryd.f4 := (Option.some.inj (Tryd.func4.symm.trans hfn)).symm
      exact ⟨by kernel_rfl, fun j t ht => by
        rw [Tryd.params4] at ht
        have hm : t ∈ [3, 24, 24, 3, 3, 3] := by simpa using Array.mem_of_getElem? ht
        have hall : ([3, 24, 24, 3, 3, 3].all fun u => !Tryd.prog.wantsStandIn u) = true := by kernel_rfl
        exact (show Tryd.prog.wantsStandIn t = false by simpa using List.all_eq_true.1 hall t hm)⟩)
    (by kernel_rfl)
#print axioms proved
end Go.Proofs.YtoajmaedpaalkaaDoor.intsTells
namespace Go.Proofs.YtoajmaedpaalkaaDoor
/-- The card, under a short name, for the claim. -/
theorem intsTells_holds : Rows.IntsTellsCardSaid := intsTells.proved
end Go.Proofs.YtoajmaedpaalkaaDoor

